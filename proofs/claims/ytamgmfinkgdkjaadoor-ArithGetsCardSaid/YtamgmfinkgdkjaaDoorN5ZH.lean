/- Layer 5: ArithGets: the walk. -/
import Derived.Test.YtamgmfinkgdkjaaDoorN5ZG
import Derived.Test.YtamgmfinkgdkjaaDoorF61
namespace Go.Proofs.TrydN
open Go Go.AL Go.Proofs

theorem dget_nil : CallsF Tryd.prog 23 [.pnil, iv 0] [] (.bool false) [] := by
  refine e23 ?_
  conv => whnf
  exact ⟨[], [], rfl, rfl, rfl⟩
theorem dchances_nil : CallsF Tryd.prog 25 [.pnil] [] .snil [] := by
  refine e25 ?_
  conv => whnf
  exact ⟨[], [], rfl, rfl, rfl⟩
theorem dcount_nil : CallsF Tryd.prog 26 [.pnil] [] (iv 0) [] := by
  refine e26 ?_
  conv => whnf
  exact ⟨[], [], rfl, rfl, rfl⟩
theorem inc_natG {n : Nat} (h : n < 9223372036854775807) : IntKind.wrap .i64 ((n : Int) + 1) = ((n + 1 : Nat) : Int) := by rw [wrap_id (by omega) (by omega)]; rfl
theorem take_allG (l : List Int) : (l.drop 0).take l.length = l := by rw [List.drop_zero, List.take_length]

/-- A decoder behind some contexts. -/
def decI (bs : List Int) (c : Int) (q : List Int) : Dec := decL bs c (q.map fun x => (x, false))

set_option maxHeartbeats 2000000 in
set_option maxRecDepth 10000 in
theorem gets_spec {v : AV} {bs : List Int} (hv : asB v bs) (hk : okB bs) (hbl : bs.length ≤ 9223372036854775807) (c : Int) (l : List Int) : CallsF Tryd.prog 4 [v, iv c, .ri .i64 l] [] (.bool true) [] := by
  have hN : ∀ (h300 : bs.length < 301), CallsF Tryd.prog 21 [v, iv c] [] (.bp 0 0) (hD (decI bs c [])) := fun h300 => newD_spec hv hk (by omega) c
  have h5 : ∀ (h300 : bs.length < 301), CallsF Tryd.prog 22 [v, iv c] [] (.bp 0 0) [rD 1 (decI bs c []), pD (decI bs c []).p] := fun h300 => newD5_spec hv hk (by omega) c
  rcases hv with ⟨rfl, rfl⟩ | ⟨rfl, rfl⟩ | ⟨rfl, h⟩ | ⟨rfl, rfl⟩
  · refine e4 ?_
    conv => whnf
    refine CallsF.call [] [] (first5_spec) rfl rfl rfl rfl rfl (.inl rfl) ?_
    conv => whnf
    refine CallsF.call [] [] (hN (by simp)) rfl rfl rfl rfl rfl (.inl rfl) ?_
    conv => whnf
    refine CallsF.call [] [] (h5 (by simp)) rfl rfl rfl rfl rfl (.inl rfl) ?_
    conv => whnf
    refine LoopA.inv (fun k st => ∃ i : Nat, i + k = l.length ∧ i ≤ 400 ∧ st = ⟨[(7, .bp 0 0), (8, .bp 3 0), (23, .ri .i64 l), (24, iv l.length), (25, iv i)], hD (decI [] c (l.take i)) ++ [rD 4 (decI [] c (l.take i)), pD (decI [] c (l.take i)).p], 5, 0⟩) l.length [7, 8, 23, 24, 25] [0, 1, 2, 3, 4] [] (by rfl) ?_ ?_
    · conv => whnf
      exact ⟨0, by omega, by omega, rfl⟩
    rintro k st ⟨i, hi, hi4, rfl⟩
    have hok := decL_ok hk (by first | (simp; done) | omega) c ((l.take i).map fun x => (x, false)) (by simp; omega)
    have hok1 : okD (decI [] c (l.take i)) := hok.1
    have hpne : (decI [] c (l.take i)).p ≠ [] := fun h => by have := hok.2.1; have h2 : (decI [] c (l.take i)).p.length = 0 := by rw [h]; rfl
                                                             have h3 : (decI [] c (l.take i)).p.length = ctxN c := hok.2.1
                                                             have := ctxN_in c; omega
    have hpl : (decI [] c (l.take i)).p.length < 4294967296 := by have h3 : (decI [] c (l.take i)).p.length = ctxN c := hok.2.1
                                                                  have := ctxN_in c; omega
    conv => whnf
    refine ifB_of (fun hd => ?_) (fun hd => ?_)
    · have hd : i < l.length := by have := of_decide_eq_true hd; omega
      conv => whnf
      refine need_of ((decide_eq_true ⟨by omega, by omega⟩)) ?_
      conv => whnf
      rw [Int.toNat_natCast]
      have hg : l.getD i 0 = l[i] := by simp [List.getD, hd]
      rw [hg]
      by_cases h4 : i < 400
      · rw [show decide (((i : Nat) : Int) ≥ 400) = false from decide_eq_false (by omega)]
        have he2 : decI [] c (l.take (i + 1)) = (decI [] c (l.take i)).get l[i] := by rw [List.take_succ_eq_append_getElem hd, decI, List.map_append]; exact decL_snoc _ _ _ _
        have sp := dget_spec (decI [] c (l.take i)) hok1 l[i]
        have s5 := dget5_spec (decI [] c (l.take i)) hok1 hpl l[i]
        rw [← he2] at sp s5
        generalize (decI [] c (l.take i)).told l[i] = tb at *
        conv => whnf
        refine CallsF.call [0, 1, 2] [] (sp) rfl rfl rfl rfl rfl (.inl rfl) ?_
        conv => whnf
        refine CallsF.call [3, 4] [] (s5) rfl rfl rfl rfl rfl (.inl rfl) ?_
        conv => whnf
        rw [show (tb == tb) = true from beq_self_eq_true _]
        conv => whnf
        rw [inc_natG (by omega)]
        refine ⟨(l.length - (i + 1)), [7, 8, 23, 24, 25], [0, 1, 2, 3, 5], [], by omega, rfl, ?_⟩
        conv => whnf
        exact ⟨i + 1, by omega, by omega, rfl⟩
      · rw [show decide (((i : Nat) : Int) ≥ 400) = true from decide_eq_true (by omega)]
        generalize decI [] c (l.take i) = d at *
        conv => whnf
        refine CallsF.call [0, 1, 2] [] (chances2_spec _ _ _ _ _ _ _ _ hpne hpl) rfl rfl rfl rfl rfl (.inl rfl) ?_
        conv => whnf
        refine ⟨.inl ⟨_, rfl⟩, ?_⟩
        conv => whnf
        refine CallsF.call [] [4] (same_spec d.p ((d.p.drop 0).take d.p.length) hpl) rfl rfl rfl rfl rfl (.inr rfl) ?_
        conv => whnf
        rw [decide_eq_true (take_allG d.p).symm]
        conv => whnf
        refine CallsF.call [0, 1, 2] [] (count2_spec _ _ _ _ _ _ _ _) rfl rfl rfl rfl rfl (.inl rfl) ?_
        conv => whnf
        refine ⟨.inl ⟨_, rfl⟩, ?_⟩
        conv => whnf
        rw [show ((d.n : Int) == (d.n : Int)) = true from beq_self_eq_true _]
        conv => whnf
        refine CallsF.call [] [] (dget_nil) rfl rfl rfl rfl rfl (.inl rfl) ?_
        conv => whnf
        refine CallsF.call [] [] (dchances_nil) rfl rfl rfl rfl rfl (.inl rfl) ?_
        conv => whnf
        refine CallsF.call [] [] (dcount_nil) rfl rfl rfl rfl rfl (.inl rfl) ?_
        conv => whnf
        exact ⟨[], [], rfl, rfl, rfl⟩
    · have hd := of_decide_eq_false hd
      generalize decI [] c (l.take i) = d at *
      conv => whnf
      refine CallsF.call [0, 1, 2] [] (chances2_spec _ _ _ _ _ _ _ _ hpne hpl) rfl rfl rfl rfl rfl (.inl rfl) ?_
      conv => whnf
      refine ⟨.inl ⟨_, rfl⟩, ?_⟩
      conv => whnf
      refine CallsF.call [] [4] (same_spec d.p ((d.p.drop 0).take d.p.length) hpl) rfl rfl rfl rfl rfl (.inr rfl) ?_
      conv => whnf
      rw [decide_eq_true (take_allG d.p).symm]
      conv => whnf
      refine CallsF.call [0, 1, 2] [] (count2_spec _ _ _ _ _ _ _ _) rfl rfl rfl rfl rfl (.inl rfl) ?_
      conv => whnf
      refine ⟨.inl ⟨_, rfl⟩, ?_⟩
      conv => whnf
      rw [show ((d.n : Int) == (d.n : Int)) = true from beq_self_eq_true _]
      conv => whnf
      refine CallsF.call [] [] (dget_nil) rfl rfl rfl rfl rfl (.inl rfl) ?_
      conv => whnf
      refine CallsF.call [] [] (dchances_nil) rfl rfl rfl rfl rfl (.inl rfl) ?_
      conv => whnf
      refine CallsF.call [] [] (dcount_nil) rfl rfl rfl rfl rfl (.inl rfl) ?_
      conv => whnf
      exact ⟨[], [], rfl, rfl, rfl⟩
  · refine e4 ?_
    conv => whnf
    refine CallsF.call [] [] (first5_spec) rfl rfl rfl rfl rfl (.inl rfl) ?_
    conv => whnf
    refine CallsF.call [] [] (hN (by simp)) rfl rfl rfl rfl rfl (.inl rfl) ?_
    conv => whnf
    refine CallsF.call [] [] (h5 (by simp)) rfl rfl rfl rfl rfl (.inl rfl) ?_
    conv => whnf
    refine LoopA.inv (fun k st => ∃ i : Nat, i + k = l.length ∧ i ≤ 400 ∧ st = ⟨[(7, .bp 0 0), (8, .bp 3 0), (23, .ri .i64 l), (24, iv l.length), (25, iv i)], hD (decI [] c (l.take i)) ++ [rD 4 (decI [] c (l.take i)), pD (decI [] c (l.take i)).p], 5, 0⟩) l.length [7, 8, 23, 24, 25] [0, 1, 2, 3, 4] [] (by rfl) ?_ ?_
    · conv => whnf
      exact ⟨0, by omega, by omega, rfl⟩
    rintro k st ⟨i, hi, hi4, rfl⟩
    have hok := decL_ok hk (by first | (simp; done) | omega) c ((l.take i).map fun x => (x, false)) (by simp; omega)
    have hok1 : okD (decI [] c (l.take i)) := hok.1
    have hpne : (decI [] c (l.take i)).p ≠ [] := fun h => by have := hok.2.1; have h2 : (decI [] c (l.take i)).p.length = 0 := by rw [h]; rfl
                                                             have h3 : (decI [] c (l.take i)).p.length = ctxN c := hok.2.1
                                                             have := ctxN_in c; omega
    have hpl : (decI [] c (l.take i)).p.length < 4294967296 := by have h3 : (decI [] c (l.take i)).p.length = ctxN c := hok.2.1
                                                                  have := ctxN_in c; omega
    conv => whnf
    refine ifB_of (fun hd => ?_) (fun hd => ?_)
    · have hd : i < l.length := by have := of_decide_eq_true hd; omega
      conv => whnf
      refine need_of ((decide_eq_true ⟨by omega, by omega⟩)) ?_
      conv => whnf
      rw [Int.toNat_natCast]
      have hg : l.getD i 0 = l[i] := by simp [List.getD, hd]
      rw [hg]
      by_cases h4 : i < 400
      · rw [show decide (((i : Nat) : Int) ≥ 400) = false from decide_eq_false (by omega)]
        have he2 : decI [] c (l.take (i + 1)) = (decI [] c (l.take i)).get l[i] := by rw [List.take_succ_eq_append_getElem hd, decI, List.map_append]; exact decL_snoc _ _ _ _
        have sp := dget_spec (decI [] c (l.take i)) hok1 l[i]
        have s5 := dget5_spec (decI [] c (l.take i)) hok1 hpl l[i]
        rw [← he2] at sp s5
        generalize (decI [] c (l.take i)).told l[i] = tb at *
        conv => whnf
        refine CallsF.call [0, 1, 2] [] (sp) rfl rfl rfl rfl rfl (.inl rfl) ?_
        conv => whnf
        refine CallsF.call [3, 4] [] (s5) rfl rfl rfl rfl rfl (.inl rfl) ?_
        conv => whnf
        rw [show (tb == tb) = true from beq_self_eq_true _]
        conv => whnf
        rw [inc_natG (by omega)]
        refine ⟨(l.length - (i + 1)), [7, 8, 23, 24, 25], [0, 1, 2, 3, 5], [], by omega, rfl, ?_⟩
        conv => whnf
        exact ⟨i + 1, by omega, by omega, rfl⟩
      · rw [show decide (((i : Nat) : Int) ≥ 400) = true from decide_eq_true (by omega)]
        generalize decI [] c (l.take i) = d at *
        conv => whnf
        refine CallsF.call [0, 1, 2] [] (chances2_spec _ _ _ _ _ _ _ _ hpne hpl) rfl rfl rfl rfl rfl (.inl rfl) ?_
        conv => whnf
        refine ⟨.inl ⟨_, rfl⟩, ?_⟩
        conv => whnf
        refine CallsF.call [] [4] (same_spec d.p ((d.p.drop 0).take d.p.length) hpl) rfl rfl rfl rfl rfl (.inr rfl) ?_
        conv => whnf
        rw [decide_eq_true (take_allG d.p).symm]
        conv => whnf
        refine CallsF.call [0, 1, 2] [] (count2_spec _ _ _ _ _ _ _ _) rfl rfl rfl rfl rfl (.inl rfl) ?_
        conv => whnf
        refine ⟨.inl ⟨_, rfl⟩, ?_⟩
        conv => whnf
        rw [show ((d.n : Int) == (d.n : Int)) = true from beq_self_eq_true _]
        conv => whnf
        refine CallsF.call [] [] (dget_nil) rfl rfl rfl rfl rfl (.inl rfl) ?_
        conv => whnf
        refine CallsF.call [] [] (dchances_nil) rfl rfl rfl rfl rfl (.inl rfl) ?_
        conv => whnf
        refine CallsF.call [] [] (dcount_nil) rfl rfl rfl rfl rfl (.inl rfl) ?_
        conv => whnf
        exact ⟨[], [], rfl, rfl, rfl⟩
    · have hd := of_decide_eq_false hd
      generalize decI [] c (l.take i) = d at *
      conv => whnf
      refine CallsF.call [0, 1, 2] [] (chances2_spec _ _ _ _ _ _ _ _ hpne hpl) rfl rfl rfl rfl rfl (.inl rfl) ?_
      conv => whnf
      refine ⟨.inl ⟨_, rfl⟩, ?_⟩
      conv => whnf
      refine CallsF.call [] [4] (same_spec d.p ((d.p.drop 0).take d.p.length) hpl) rfl rfl rfl rfl rfl (.inr rfl) ?_
      conv => whnf
      rw [decide_eq_true (take_allG d.p).symm]
      conv => whnf
      refine CallsF.call [0, 1, 2] [] (count2_spec _ _ _ _ _ _ _ _) rfl rfl rfl rfl rfl (.inl rfl) ?_
      conv => whnf
      refine ⟨.inl ⟨_, rfl⟩, ?_⟩
      conv => whnf
      rw [show ((d.n : Int) == (d.n : Int)) = true from beq_self_eq_true _]
      conv => whnf
      refine CallsF.call [] [] (dget_nil) rfl rfl rfl rfl rfl (.inl rfl) ?_
      conv => whnf
      refine CallsF.call [] [] (dchances_nil) rfl rfl rfl rfl rfl (.inl rfl) ?_
      conv => whnf
      refine CallsF.call [] [] (dcount_nil) rfl rfl rfl rfl rfl (.inl rfl) ?_
      conv => whnf
      exact ⟨[], [], rfl, rfl, rfl⟩
  · refine e4 ?_
    conv => whnf
    refine CallsF.call [] [] (first5_spec) rfl rfl rfl rfl rfl (.inl rfl) ?_
    conv => whnf
    by_cases h300 : bs.length < 301
    rotate_left
    · rw [show decide (((bs.length : Nat) : Int) > 300) = true from decide_eq_true (by omega)]
      conv => whnf
      exact ⟨[], [], rfl, rfl, rfl⟩
    rw [show decide (((bs.length : Nat) : Int) > 300) = false from decide_eq_false (by omega)]
    conv => whnf
    refine CallsF.call [] [] (hN h300) rfl rfl rfl rfl rfl (.inl rfl) ?_
    conv => whnf
    refine CallsF.call [] [] (h5 h300) rfl rfl rfl rfl rfl (.inl rfl) ?_
    conv => whnf
    refine LoopA.inv (fun k st => ∃ i : Nat, i + k = l.length ∧ i ≤ 400 ∧ st = ⟨[(7, .bp 0 0), (8, .bp 3 0), (23, .ri .i64 l), (24, iv l.length), (25, iv i)], hD (decI bs c (l.take i)) ++ [rD 4 (decI bs c (l.take i)), pD (decI bs c (l.take i)).p], 5, 0⟩) l.length [7, 8, 23, 24, 25] [0, 1, 2, 3, 4] [] (by rfl) ?_ ?_
    · conv => whnf
      exact ⟨0, by omega, by omega, rfl⟩
    rintro k st ⟨i, hi, hi4, rfl⟩
    have hok := decL_ok hk (by first | (simp; done) | omega) c ((l.take i).map fun x => (x, false)) (by simp; omega)
    have hok1 : okD (decI bs c (l.take i)) := hok.1
    have hpne : (decI bs c (l.take i)).p ≠ [] := fun h => by have := hok.2.1; have h2 : (decI bs c (l.take i)).p.length = 0 := by rw [h]; rfl
                                                             have h3 : (decI bs c (l.take i)).p.length = ctxN c := hok.2.1
                                                             have := ctxN_in c; omega
    have hpl : (decI bs c (l.take i)).p.length < 4294967296 := by have h3 : (decI bs c (l.take i)).p.length = ctxN c := hok.2.1
                                                                  have := ctxN_in c; omega
    conv => whnf
    refine ifB_of (fun hd => ?_) (fun hd => ?_)
    · have hd : i < l.length := by have := of_decide_eq_true hd; omega
      conv => whnf
      refine need_of ((decide_eq_true ⟨by omega, by omega⟩)) ?_
      conv => whnf
      rw [Int.toNat_natCast]
      have hg : l.getD i 0 = l[i] := by simp [List.getD, hd]
      rw [hg]
      by_cases h4 : i < 400
      · rw [show decide (((i : Nat) : Int) ≥ 400) = false from decide_eq_false (by omega)]
        have he2 : decI bs c (l.take (i + 1)) = (decI bs c (l.take i)).get l[i] := by rw [List.take_succ_eq_append_getElem hd, decI, List.map_append]; exact decL_snoc _ _ _ _
        have sp := dget_spec (decI bs c (l.take i)) hok1 l[i]
        have s5 := dget5_spec (decI bs c (l.take i)) hok1 hpl l[i]
        rw [← he2] at sp s5
        generalize (decI bs c (l.take i)).told l[i] = tb at *
        conv => whnf
        refine CallsF.call [0, 1, 2] [] (sp) rfl rfl rfl rfl rfl (.inl rfl) ?_
        conv => whnf
        refine CallsF.call [3, 4] [] (s5) rfl rfl rfl rfl rfl (.inl rfl) ?_
        conv => whnf
        rw [show (tb == tb) = true from beq_self_eq_true _]
        conv => whnf
        rw [inc_natG (by omega)]
        refine ⟨(l.length - (i + 1)), [7, 8, 23, 24, 25], [0, 1, 2, 3, 5], [], by omega, rfl, ?_⟩
        conv => whnf
        exact ⟨i + 1, by omega, by omega, rfl⟩
      · rw [show decide (((i : Nat) : Int) ≥ 400) = true from decide_eq_true (by omega)]
        generalize decI bs c (l.take i) = d at *
        conv => whnf
        refine CallsF.call [0, 1, 2] [] (chances2_spec _ _ _ _ _ _ _ _ hpne hpl) rfl rfl rfl rfl rfl (.inl rfl) ?_
        conv => whnf
        refine ⟨.inl ⟨_, rfl⟩, ?_⟩
        conv => whnf
        refine CallsF.call [] [4] (same_spec d.p ((d.p.drop 0).take d.p.length) hpl) rfl rfl rfl rfl rfl (.inr rfl) ?_
        conv => whnf
        rw [decide_eq_true (take_allG d.p).symm]
        conv => whnf
        refine CallsF.call [0, 1, 2] [] (count2_spec _ _ _ _ _ _ _ _) rfl rfl rfl rfl rfl (.inl rfl) ?_
        conv => whnf
        refine ⟨.inl ⟨_, rfl⟩, ?_⟩
        conv => whnf
        rw [show ((d.n : Int) == (d.n : Int)) = true from beq_self_eq_true _]
        conv => whnf
        refine CallsF.call [] [] (dget_nil) rfl rfl rfl rfl rfl (.inl rfl) ?_
        conv => whnf
        refine CallsF.call [] [] (dchances_nil) rfl rfl rfl rfl rfl (.inl rfl) ?_
        conv => whnf
        refine CallsF.call [] [] (dcount_nil) rfl rfl rfl rfl rfl (.inl rfl) ?_
        conv => whnf
        exact ⟨[], [], rfl, rfl, rfl⟩
    · have hd := of_decide_eq_false hd
      generalize decI bs c (l.take i) = d at *
      conv => whnf
      refine CallsF.call [0, 1, 2] [] (chances2_spec _ _ _ _ _ _ _ _ hpne hpl) rfl rfl rfl rfl rfl (.inl rfl) ?_
      conv => whnf
      refine ⟨.inl ⟨_, rfl⟩, ?_⟩
      conv => whnf
      refine CallsF.call [] [4] (same_spec d.p ((d.p.drop 0).take d.p.length) hpl) rfl rfl rfl rfl rfl (.inr rfl) ?_
      conv => whnf
      rw [decide_eq_true (take_allG d.p).symm]
      conv => whnf
      refine CallsF.call [0, 1, 2] [] (count2_spec _ _ _ _ _ _ _ _) rfl rfl rfl rfl rfl (.inl rfl) ?_
      conv => whnf
      refine ⟨.inl ⟨_, rfl⟩, ?_⟩
      conv => whnf
      rw [show ((d.n : Int) == (d.n : Int)) = true from beq_self_eq_true _]
      conv => whnf
      refine CallsF.call [] [] (dget_nil) rfl rfl rfl rfl rfl (.inl rfl) ?_
      conv => whnf
      refine CallsF.call [] [] (dchances_nil) rfl rfl rfl rfl rfl (.inl rfl) ?_
      conv => whnf
      refine CallsF.call [] [] (dcount_nil) rfl rfl rfl rfl rfl (.inl rfl) ?_
      conv => whnf
      exact ⟨[], [], rfl, rfl, rfl⟩
  · refine e4 ?_
    conv => whnf
    refine CallsF.call [] [] (first5_spec) rfl rfl rfl rfl rfl (.inl rfl) ?_
    conv => whnf
    refine CallsF.call [] [] (hN (by simp)) rfl rfl rfl rfl rfl (.inl rfl) ?_
    conv => whnf
    refine CallsF.call [] [] (h5 (by simp)) rfl rfl rfl rfl rfl (.inl rfl) ?_
    conv => whnf
    refine LoopA.inv (fun k st => ∃ i : Nat, i + k = l.length ∧ i ≤ 400 ∧ st = ⟨[(7, .bp 0 0), (8, .bp 3 0), (23, .ri .i64 l), (24, iv l.length), (25, iv i)], hD (decI [] c (l.take i)) ++ [rD 4 (decI [] c (l.take i)), pD (decI [] c (l.take i)).p], 5, 0⟩) l.length [7, 8, 23, 24, 25] [0, 1, 2, 3, 4] [] (by rfl) ?_ ?_
    · conv => whnf
      exact ⟨0, by omega, by omega, rfl⟩
    rintro k st ⟨i, hi, hi4, rfl⟩
    have hok := decL_ok hk (by first | (simp; done) | omega) c ((l.take i).map fun x => (x, false)) (by simp; omega)
    have hok1 : okD (decI [] c (l.take i)) := hok.1
    have hpne : (decI [] c (l.take i)).p ≠ [] := fun h => by have := hok.2.1; have h2 : (decI [] c (l.take i)).p.length = 0 := by rw [h]; rfl
                                                             have h3 : (decI [] c (l.take i)).p.length = ctxN c := hok.2.1
                                                             have := ctxN_in c; omega
    have hpl : (decI [] c (l.take i)).p.length < 4294967296 := by have h3 : (decI [] c (l.take i)).p.length = ctxN c := hok.2.1
                                                                  have := ctxN_in c; omega
    conv => whnf
    refine ifB_of (fun hd => ?_) (fun hd => ?_)
    · have hd : i < l.length := by have := of_decide_eq_true hd; omega
      conv => whnf
      refine need_of ((decide_eq_true ⟨by omega, by omega⟩)) ?_
      conv => whnf
      rw [Int.toNat_natCast]
      have hg : l.getD i 0 = l[i] := by simp [List.getD, hd]
      rw [hg]
      by_cases h4 : i < 400
      · rw [show decide (((i : Nat) : Int) ≥ 400) = false from decide_eq_false (by omega)]
        have he2 : decI [] c (l.take (i + 1)) = (decI [] c (l.take i)).get l[i] := by rw [List.take_succ_eq_append_getElem hd, decI, List.map_append]; exact decL_snoc _ _ _ _
        have sp := dget_spec (decI [] c (l.take i)) hok1 l[i]
        have s5 := dget5_spec (decI [] c (l.take i)) hok1 hpl l[i]
        rw [← he2] at sp s5
        generalize (decI [] c (l.take i)).told l[i] = tb at *
        conv => whnf
        refine CallsF.call [0, 1, 2] [] (sp) rfl rfl rfl rfl rfl (.inl rfl) ?_
        conv => whnf
        refine CallsF.call [3, 4] [] (s5) rfl rfl rfl rfl rfl (.inl rfl) ?_
        conv => whnf
        rw [show (tb == tb) = true from beq_self_eq_true _]
        conv => whnf
        rw [inc_natG (by omega)]
        refine ⟨(l.length - (i + 1)), [7, 8, 23, 24, 25], [0, 1, 2, 3, 5], [], by omega, rfl, ?_⟩
        conv => whnf
        exact ⟨i + 1, by omega, by omega, rfl⟩
      · rw [show decide (((i : Nat) : Int) ≥ 400) = true from decide_eq_true (by omega)]
        generalize decI [] c (l.take i) = d at *
        conv => whnf
        refine CallsF.call [0, 1, 2] [] (chances2_spec _ _ _ _ _ _ _ _ hpne hpl) rfl rfl rfl rfl rfl (.inl rfl) ?_
        conv => whnf
        refine ⟨.inl ⟨_, rfl⟩, ?_⟩
        conv => whnf
        refine CallsF.call [] [4] (same_spec d.p ((d.p.drop 0).take d.p.length) hpl) rfl rfl rfl rfl rfl (.inr rfl) ?_
        conv => whnf
        rw [decide_eq_true (take_allG d.p).symm]
        conv => whnf
        refine CallsF.call [0, 1, 2] [] (count2_spec _ _ _ _ _ _ _ _) rfl rfl rfl rfl rfl (.inl rfl) ?_
        conv => whnf
        refine ⟨.inl ⟨_, rfl⟩, ?_⟩
        conv => whnf
        rw [show ((d.n : Int) == (d.n : Int)) = true from beq_self_eq_true _]
        conv => whnf
        refine CallsF.call [] [] (dget_nil) rfl rfl rfl rfl rfl (.inl rfl) ?_
        conv => whnf
        refine CallsF.call [] [] (dchances_nil) rfl rfl rfl rfl rfl (.inl rfl) ?_
        conv => whnf
        refine CallsF.call [] [] (dcount_nil) rfl rfl rfl rfl rfl (.inl rfl) ?_
        conv => whnf
        exact ⟨[], [], rfl, rfl, rfl⟩
    · have hd := of_decide_eq_false hd
      generalize decI [] c (l.take i) = d at *
      conv => whnf
      refine CallsF.call [0, 1, 2] [] (chances2_spec _ _ _ _ _ _ _ _ hpne hpl) rfl rfl rfl rfl rfl (.inl rfl) ?_
      conv => whnf
      refine ⟨.inl ⟨_, rfl⟩, ?_⟩
      conv => whnf
      refine CallsF.call [] [4] (same_spec d.p ((d.p.drop 0).take d.p.length) hpl) rfl rfl rfl rfl rfl (.inr rfl) ?_
      conv => whnf
      rw [decide_eq_true (take_allG d.p).symm]
      conv => whnf
      refine CallsF.call [0, 1, 2] [] (count2_spec _ _ _ _ _ _ _ _) rfl rfl rfl rfl rfl (.inl rfl) ?_
      conv => whnf
      refine ⟨.inl ⟨_, rfl⟩, ?_⟩
      conv => whnf
      rw [show ((d.n : Int) == (d.n : Int)) = true from beq_self_eq_true _]
      conv => whnf
      refine CallsF.call [] [] (dget_nil) rfl rfl rfl rfl rfl (.inl rfl) ?_
      conv => whnf
      refine CallsF.call [] [] (dchances_nil) rfl rfl rfl rfl rfl (.inl rfl) ?_
      conv => whnf
      refine CallsF.call [] [] (dcount_nil) rfl rfl rfl rfl rfl (.inl rfl) ?_
      conv => whnf
      exact ⟨[], [], rfl, rfl, rfl⟩

theorem gets_any {bs : List Int} (hk : okB bs) (hbl : bs.length ≤ 9223372036854775807) (c : Int) (l : List Int) : CallsF Tryd.prog 4 [.ri .u8 bs, iv c, .ri .i64 l] [] (.bool true) [] := by
  cases bs with
  | nil => exact CallsA.empty (pre := []) (gets_spec (.inl ⟨rfl, rfl⟩) hk hbl c l) (gets_spec (.inr (.inr (.inr ⟨rfl, rfl⟩))) hk hbl c l)
  | cons x r => exact gets_spec (.inr (.inr (.inl ⟨rfl, by simp⟩))) hk hbl c l

end Go.Proofs.TrydN

