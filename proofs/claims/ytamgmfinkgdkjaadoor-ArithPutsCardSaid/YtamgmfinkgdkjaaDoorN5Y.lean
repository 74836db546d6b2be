/- Layer 5: ArithPuts: the walk. -/
import Derived.Test.YtamgmfinkgdkjaaDoorN5X
import Derived.Test.YtamgmfinkgdkjaaDoorF59
namespace Go.Proofs.TrydN
open Go Go.AL Go.Proofs

theorem put_nil : CallsF Tryd.prog 14 [.pnil, iv 0, .bool true] [] (.bool false) [] := by
  refine e14 ?_
  conv => whnf
  exact ⟨[], [], rfl, rfl, rfl⟩
theorem ebytes_nil : CallsF Tryd.prog 16 [.pnil] [] .snil [] := by
  refine e16 ?_
  conv => whnf
  exact ⟨[], [], rfl, rfl, rfl⟩
theorem echances_nil : CallsF Tryd.prog 19 [.pnil] [] .snil [] := by
  refine e19 ?_
  conv => whnf
  exact ⟨[], [], rfl, rfl, rfl⟩
theorem ecount_nil : CallsF Tryd.prog 20 [.pnil] [] (iv 0) [] := by
  refine e20 ?_
  conv => whnf
  exact ⟨[], [], rfl, rfl, rfl⟩

theorem inc_natP {n : Nat} (h : n < 9223372036854775807) : IntKind.wrap .i64 ((n : Int) + 1) = ((n + 1 : Nat) : Int) := by rw [wrap_id (by omega) (by omega)]; rfl
def rowP (x : Int × Bool) : List AV := [iv x.1, .bool x.2]
theorem str_self (s : ByteArray) : (s == s) = true := by
  show (s.data == s.data) = true
  exact beq_self_eq_true _
theorem take_all (l : List Int) : (l.drop 0).take l.length = l := by rw [List.drop_zero, List.take_length]

/-- Where both encoders stand. -/
def stP (c : Int) (l : List (Int × Bool)) (i : Nat) (st : St) : Prop :=
  let tm := fun (p : AV) => [(5, AV.bp 0 0), (6, p), (16, AV.ro 2 (l.map rowP)), (17, iv l.length), (18, iv i)]
  ((encL c (l.take i)).bits = [] ∧ st = ⟨tm (.bp 3 0), hE0 (encL c (l.take i)) ++ [rE 4 (encL c (l.take i)), pD (encL c (l.take i)).p], 5, 0⟩) ∨
  ((encL c (l.take i)).bits ≠ [] ∧ st = ⟨tm (.bp 4 0), hE1 (encL c (l.take i)) ++ [rE 5 (encL c (l.take i)), pD (encL c (l.take i)).p], 6, 0⟩)

set_option maxHeartbeats 2000000 in
set_option maxRecDepth 10000 in
theorem puts_spec (c : Int) (l : List (Int × Bool)) (_hl : l.length ≤ 9223372036854775807) : CallsF Tryd.prog 3 [iv c, .ro 2 (l.map rowP)] [] (.bool true) [] := by
  have hrow : ∀ i, (h : i < l.length) → nth (l.map rowP) ((i : Nat) : Int).toNat = some (rowP l[i]) := fun i h => by
    rw [Int.toNat_natCast, nth_get, List.getElem?_map, List.getElem?_eq_getElem h]; rfl
  refine e3 ?_
  conv => whnf
  refine CallsF.call [] [] (first5_spec) rfl rfl rfl rfl rfl (.inl rfl) ?_
  conv => whnf
  refine CallsF.call [] [] (newE_spec c) rfl rfl rfl rfl rfl (.inl rfl) ?_
  conv => whnf
  refine CallsF.call [] [] (newE5_spec c) rfl rfl rfl rfl rfl (.inl rfl) ?_
  conv => whnf
  refine LoopA.inv (fun k st => ∃ i : Nat, i + k = l.length ∧ i ≤ 400 ∧ stP c l i st) l.length [5, 6, 16, 17, 18] [0, 1, 2, 3, 4] [] (by rfl) ?_ ?_
  · conv => whnf
    refine ⟨0, by omega, by omega, .inl ⟨by simp [encL, Enc.new], ?_⟩⟩
    simp only [List.length_map]
    rfl
  rintro k st ⟨i, hi, hi4, hst⟩
  have hok := encL_ok c (l.take i) (by simp; omega)
  have hpne : (encL c (l.take i)).p ≠ [] := fun h => by have := hok.2.1; rw [h] at this; have := ctxN_in c; simp at *; omega
  have hpl : (encL c (l.take i)).p.length < 4294967296 := by rw [hok.2.1]; have := ctxN_in c; omega
  have h5 := put5_spec (encL c (l.take i)) hok.1 hpl
  have hby := rbytes_spec (encL c (l.take i)) hok.1
  rcases hst with ⟨hb, rfl⟩ | ⟨hb, rfl⟩
  · conv => whnf
    refine ifB_of (fun hd => ?_) (fun hd => ?_)
    · have hd : i < l.length := by have := of_decide_eq_true hd; omega
      conv => whnf
      rw [aop_idxS_ro (hrow i hd) rfl rfl]
      conv => whnf
      by_cases h4 : i < 400
      · rw [show decide (((i : Nat) : Int) ≥ 400) = false from decide_eq_false (by omega)]
        have hok2 := encL_ok c (l.take (i + 1)) (by simp; omega)
        have he2 : encL c (l.take (i + 1)) = (encL c (l.take i)).put l[i].1 l[i].2 := by rw [List.take_succ_eq_append_getElem hd, encL_snoc]
        have sp := put0_spec (encL c (l.take i)) hb hok.1 l[i].1 l[i].2
        have s5 := h5 l[i].1 l[i].2
        rw [← he2] at sp s5
        conv => whnf
        by_cases hb2 : (encL c (l.take (i + 1))).bits = []
        · rw [hP0_nil hb2] at sp
          refine CallsF.call [0, 1, 2] [] (sp) rfl rfl rfl rfl rfl (.inl rfl) ?_
          conv => whnf
          refine ⟨.inr (by repeat (first | exact same_nil | refine same_of rfl ?_)), ?_⟩
          conv => whnf
          refine CallsF.call [3, 4] [] (s5) rfl rfl rfl rfl rfl (.inl rfl) ?_
          conv => whnf
          rw [show (hasC (encL c (l.take i)).p l[i].1 == hasC (encL c (l.take i)).p l[i].1) = true from beq_self_eq_true _]
          conv => whnf
          by_cases hm : ((i : Nat) : Int).tmod 16 = 0
          · rw [show (((i : Nat) : Int).tmod 16 == 0) = true from beq_iff_eq.2 hm]
            conv => whnf
            refine CallsF.call [0, 1, 2] [] (bytes0R_spec (encL c (l.take (i + 1))) hb2 hok2.1) rfl rfl rfl rfl rfl (.inl rfl) ?_
            conv => whnf
            refine CallsF.call [3, 6] [] (rbytes_spec (encL c (l.take (i + 1))) hok2.1) rfl rfl rfl rfl rfl (.inl rfl) ?_
            conv => whnf
            refine ⟨.inl ⟨_, rfl⟩, ?_⟩
            conv => whnf
            rw [str_self (strOfNums (encL c (l.take (i + 1))).bytes)]
            conv => whnf
            rw [inc_natP (by omega)]
            refine ⟨(l.length - (i + 1)), [5, 6, 16, 17, 18], [0, 1, 2, 3, 6], [], by omega, rfl, ?_⟩
            conv => whnf
            exact ⟨i + 1, by omega, by omega, .inl ⟨hb2, rfl⟩⟩
          · rw [show (((i : Nat) : Int).tmod 16 == 0) = false from beq_eq_false_iff_ne.2 hm]
            conv => whnf
            rw [inc_natP (by omega)]
            refine ⟨(l.length - (i + 1)), [5, 6, 16, 17, 18], [0, 1, 2, 3, 6], [], by omega, rfl, ?_⟩
            conv => whnf
            exact ⟨i + 1, by omega, by omega, .inl ⟨hb2, rfl⟩⟩
        · rw [hP0_app hb2] at sp
          refine CallsF.call [0, 1, 2] [] (sp) rfl rfl rfl rfl rfl (.inl rfl) ?_
          conv => whnf
          refine ⟨.inr (by repeat (first | exact same_nil | refine same_of rfl ?_)), ?_⟩
          conv => whnf
          refine CallsF.call [3, 4] [] (s5) rfl rfl rfl rfl rfl (.inl rfl) ?_
          conv => whnf
          rw [show (hasC (encL c (l.take i)).p l[i].1 == hasC (encL c (l.take i)).p l[i].1) = true from beq_self_eq_true _]
          conv => whnf
          by_cases hm : ((i : Nat) : Int).tmod 16 = 0
          · rw [show (((i : Nat) : Int).tmod 16 == 0) = true from beq_iff_eq.2 hm]
            conv => whnf
            refine CallsF.call [0, 1, 2, 6] [] (bytes1R_spec (encL c (l.take (i + 1))) hb2 hok2.1) rfl rfl rfl rfl rfl (.inl rfl) ?_
            conv => whnf
            refine CallsF.call [3, 7] [] (rbytes_spec (encL c (l.take (i + 1))) hok2.1) rfl rfl rfl rfl rfl (.inl rfl) ?_
            conv => whnf
            refine ⟨.inl ⟨_, rfl⟩, ?_⟩
            conv => whnf
            rw [str_self (strOfNums (encL c (l.take (i + 1))).bytes)]
            conv => whnf
            rw [inc_natP (by omega)]
            refine ⟨(l.length - (i + 1)), [5, 6, 16, 17, 18], [0, 1, 2, 6, 3, 7], [], by omega, rfl, ?_⟩
            conv => whnf
            exact ⟨i + 1, by omega, by omega, .inr ⟨hb2, rfl⟩⟩
          · rw [show (((i : Nat) : Int).tmod 16 == 0) = false from beq_eq_false_iff_ne.2 hm]
            conv => whnf
            rw [inc_natP (by omega)]
            refine ⟨(l.length - (i + 1)), [5, 6, 16, 17, 18], [0, 1, 2, 6, 3, 7], [], by omega, rfl, ?_⟩
            conv => whnf
            exact ⟨i + 1, by omega, by omega, .inr ⟨hb2, rfl⟩⟩
      · rw [show decide (((i : Nat) : Int) ≥ 400) = true from decide_eq_true (by omega)]
        generalize encL c (l.take i) = e at *
        conv => whnf
        refine CallsF.call [0, 1, 2] [] (bytes0R_spec e hb hok.1) rfl rfl rfl rfl rfl (.inl rfl) ?_
        conv => whnf
        refine CallsF.call [3, 4] [] (hby) rfl rfl rfl rfl rfl (.inl rfl) ?_
        conv => whnf
        refine ⟨.inl ⟨_, rfl⟩, ?_⟩
        conv => whnf
        rw [str_self (strOfNums e.bytes)]
        conv => whnf
        refine CallsF.call [0, 1, 2] [] (chances0_spec _ _ _ _ _ hpne hpl) rfl rfl rfl rfl rfl (.inl rfl) ?_
        conv => whnf
        refine ⟨.inl ⟨_, rfl⟩, ?_⟩
        conv => whnf
        refine CallsF.call [] [4] (same_spec e.p ((e.p.drop 0).take e.p.length) hpl) rfl rfl rfl rfl rfl (.inr rfl) ?_
        conv => whnf
        rw [decide_eq_true (take_all e.p).symm]
        conv => whnf
        refine CallsF.call [0, 1, 2] [] (count0_spec _ _ _ _ _) rfl rfl rfl rfl rfl (.inl rfl) ?_
        conv => whnf
        refine ⟨.inl ⟨_, rfl⟩, ?_⟩
        conv => whnf
        rw [show ((e.n : Int) == (e.n : Int)) = true from beq_self_eq_true _]
        conv => whnf
        refine CallsF.call [] [] (put_nil) rfl rfl rfl rfl rfl (.inl rfl) ?_
        conv => whnf
        refine CallsF.call [] [] (ebytes_nil) rfl rfl rfl rfl rfl (.inl rfl) ?_
        conv => whnf
        refine CallsF.call [] [] (echances_nil) rfl rfl rfl rfl rfl (.inl rfl) ?_
        conv => whnf
        refine CallsF.call [] [] (ecount_nil) rfl rfl rfl rfl rfl (.inl rfl) ?_
        conv => whnf
        exact ⟨[], [], rfl, rfl, rfl⟩
    · have hd := of_decide_eq_false hd
      generalize encL c (l.take i) = e at *
      conv => whnf
      refine CallsF.call [0, 1, 2] [] (bytes0R_spec e hb hok.1) rfl rfl rfl rfl rfl (.inl rfl) ?_
      conv => whnf
      refine CallsF.call [3, 4] [] (hby) rfl rfl rfl rfl rfl (.inl rfl) ?_
      conv => whnf
      refine ⟨.inl ⟨_, rfl⟩, ?_⟩
      conv => whnf
      rw [str_self (strOfNums e.bytes)]
      conv => whnf
      refine CallsF.call [0, 1, 2] [] (chances0_spec _ _ _ _ _ hpne hpl) rfl rfl rfl rfl rfl (.inl rfl) ?_
      conv => whnf
      refine ⟨.inl ⟨_, rfl⟩, ?_⟩
      conv => whnf
      refine CallsF.call [] [4] (same_spec e.p ((e.p.drop 0).take e.p.length) hpl) rfl rfl rfl rfl rfl (.inr rfl) ?_
      conv => whnf
      rw [decide_eq_true (take_all e.p).symm]
      conv => whnf
      refine CallsF.call [0, 1, 2] [] (count0_spec _ _ _ _ _) rfl rfl rfl rfl rfl (.inl rfl) ?_
      conv => whnf
      refine ⟨.inl ⟨_, rfl⟩, ?_⟩
      conv => whnf
      rw [show ((e.n : Int) == (e.n : Int)) = true from beq_self_eq_true _]
      conv => whnf
      refine CallsF.call [] [] (put_nil) rfl rfl rfl rfl rfl (.inl rfl) ?_
      conv => whnf
      refine CallsF.call [] [] (ebytes_nil) rfl rfl rfl rfl rfl (.inl rfl) ?_
      conv => whnf
      refine CallsF.call [] [] (echances_nil) rfl rfl rfl rfl rfl (.inl rfl) ?_
      conv => whnf
      refine CallsF.call [] [] (ecount_nil) rfl rfl rfl rfl rfl (.inl rfl) ?_
      conv => whnf
      exact ⟨[], [], rfl, rfl, rfl⟩
  · conv => whnf
    refine ifB_of (fun hd => ?_) (fun hd => ?_)
    · have hd : i < l.length := by have := of_decide_eq_true hd; omega
      conv => whnf
      rw [aop_idxS_ro (hrow i hd) rfl rfl]
      conv => whnf
      by_cases h4 : i < 400
      · rw [show decide (((i : Nat) : Int) ≥ 400) = false from decide_eq_false (by omega)]
        have hok2 := encL_ok c (l.take (i + 1)) (by simp; omega)
        have he2 : encL c (l.take (i + 1)) = (encL c (l.take i)).put l[i].1 l[i].2 := by rw [List.take_succ_eq_append_getElem hd, encL_snoc]
        have sp := put1_spec (encL c (l.take i)) hok.1 l[i].1 l[i].2
        have s5 := h5 l[i].1 l[i].2
        rw [← he2] at sp s5
        conv => whnf
        have hb2 : (encL c (l.take (i + 1))).bits ≠ [] := by rw [he2]; exact put_bits hb _ _
        refine CallsF.call [0, 1, 2, 3] [] (sp) rfl rfl rfl rfl rfl (.inl rfl) ?_
        conv => whnf
        refine ⟨.inr (by repeat (first | exact same_nil | refine same_of rfl ?_)), ?_⟩
        conv => whnf
        refine CallsF.call [4, 5] [] (s5) rfl rfl rfl rfl rfl (.inl rfl) ?_
        conv => whnf
        rw [show (hasC (encL c (l.take i)).p l[i].1 == hasC (encL c (l.take i)).p l[i].1) = true from beq_self_eq_true _]
        conv => whnf
        by_cases hm : ((i : Nat) : Int).tmod 16 = 0
        · rw [show (((i : Nat) : Int).tmod 16 == 0) = true from beq_iff_eq.2 hm]
          conv => whnf
          refine CallsF.call [0, 1, 2, 7] [] (bytes1R_spec (encL c (l.take (i + 1))) hb2 hok2.1) rfl rfl rfl rfl rfl (.inl rfl) ?_
          conv => whnf
          refine CallsF.call [4, 8] [] (rbytes_spec (encL c (l.take (i + 1))) hok2.1) rfl rfl rfl rfl rfl (.inl rfl) ?_
          conv => whnf
          refine ⟨.inl ⟨_, rfl⟩, ?_⟩
          conv => whnf
          rw [str_self (strOfNums (encL c (l.take (i + 1))).bytes)]
          conv => whnf
          rw [inc_natP (by omega)]
          refine ⟨(l.length - (i + 1)), [5, 6, 16, 17, 18], [0, 1, 2, 7, 4, 8], [], by omega, rfl, ?_⟩
          conv => whnf
          exact ⟨i + 1, by omega, by omega, .inr ⟨hb2, rfl⟩⟩
        · rw [show (((i : Nat) : Int).tmod 16 == 0) = false from beq_eq_false_iff_ne.2 hm]
          conv => whnf
          rw [inc_natP (by omega)]
          refine ⟨(l.length - (i + 1)), [5, 6, 16, 17, 18], [0, 1, 2, 7, 4, 8], [], by omega, rfl, ?_⟩
          conv => whnf
          exact ⟨i + 1, by omega, by omega, .inr ⟨hb2, rfl⟩⟩
      · rw [show decide (((i : Nat) : Int) ≥ 400) = true from decide_eq_true (by omega)]
        generalize encL c (l.take i) = e at *
        conv => whnf
        refine CallsF.call [0, 1, 2, 3] [] (bytes1R_spec e hb hok.1) rfl rfl rfl rfl rfl (.inl rfl) ?_
        conv => whnf
        refine CallsF.call [4, 5] [] (hby) rfl rfl rfl rfl rfl (.inl rfl) ?_
        conv => whnf
        refine ⟨.inl ⟨_, rfl⟩, ?_⟩
        conv => whnf
        rw [str_self (strOfNums e.bytes)]
        conv => whnf
        refine CallsF.call [0, 1, 2, 3] [] (chances1_spec _ _ _ _ _ _ hpne hpl) rfl rfl rfl rfl rfl (.inl rfl) ?_
        conv => whnf
        refine ⟨.inl ⟨_, rfl⟩, ?_⟩
        conv => whnf
        refine CallsF.call [] [5] (same_spec e.p ((e.p.drop 0).take e.p.length) hpl) rfl rfl rfl rfl rfl (.inr rfl) ?_
        conv => whnf
        rw [decide_eq_true (take_all e.p).symm]
        conv => whnf
        refine CallsF.call [0, 1, 2, 3] [] (count1_spec _ _ _ _ _ _) rfl rfl rfl rfl rfl (.inl rfl) ?_
        conv => whnf
        refine ⟨.inl ⟨_, rfl⟩, ?_⟩
        conv => whnf
        rw [show ((e.n : Int) == (e.n : Int)) = true from beq_self_eq_true _]
        conv => whnf
        refine CallsF.call [] [] (put_nil) rfl rfl rfl rfl rfl (.inl rfl) ?_
        conv => whnf
        refine CallsF.call [] [] (ebytes_nil) rfl rfl rfl rfl rfl (.inl rfl) ?_
        conv => whnf
        refine CallsF.call [] [] (echances_nil) rfl rfl rfl rfl rfl (.inl rfl) ?_
        conv => whnf
        refine CallsF.call [] [] (ecount_nil) rfl rfl rfl rfl rfl (.inl rfl) ?_
        conv => whnf
        exact ⟨[], [], rfl, rfl, rfl⟩
    · have hd := of_decide_eq_false hd
      generalize encL c (l.take i) = e at *
      conv => whnf
      refine CallsF.call [0, 1, 2, 3] [] (bytes1R_spec e hb hok.1) rfl rfl rfl rfl rfl (.inl rfl) ?_
      conv => whnf
      refine CallsF.call [4, 5] [] (hby) rfl rfl rfl rfl rfl (.inl rfl) ?_
      conv => whnf
      refine ⟨.inl ⟨_, rfl⟩, ?_⟩
      conv => whnf
      rw [str_self (strOfNums e.bytes)]
      conv => whnf
      refine CallsF.call [0, 1, 2, 3] [] (chances1_spec _ _ _ _ _ _ hpne hpl) rfl rfl rfl rfl rfl (.inl rfl) ?_
      conv => whnf
      refine ⟨.inl ⟨_, rfl⟩, ?_⟩
      conv => whnf
      refine CallsF.call [] [5] (same_spec e.p ((e.p.drop 0).take e.p.length) hpl) rfl rfl rfl rfl rfl (.inr rfl) ?_
      conv => whnf
      rw [decide_eq_true (take_all e.p).symm]
      conv => whnf
      refine CallsF.call [0, 1, 2, 3] [] (count1_spec _ _ _ _ _ _) rfl rfl rfl rfl rfl (.inl rfl) ?_
      conv => whnf
      refine ⟨.inl ⟨_, rfl⟩, ?_⟩
      conv => whnf
      rw [show ((e.n : Int) == (e.n : Int)) = true from beq_self_eq_true _]
      conv => whnf
      refine CallsF.call [] [] (put_nil) rfl rfl rfl rfl rfl (.inl rfl) ?_
      conv => whnf
      refine CallsF.call [] [] (ebytes_nil) rfl rfl rfl rfl rfl (.inl rfl) ?_
      conv => whnf
      refine CallsF.call [] [] (echances_nil) rfl rfl rfl rfl rfl (.inl rfl) ?_
      conv => whnf
      refine CallsF.call [] [] (ecount_nil) rfl rfl rfl rfl rfl (.inl rfl) ?_
      conv => whnf
      exact ⟨[], [], rfl, rfl, rfl⟩

end Go.Proofs.TrydN

