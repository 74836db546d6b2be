/- Layer 6: numbers told by the document; BinsGets: the walk. -/
import Derived.Test.YtamgmfinkgdkjaaDoorN6E
import Derived.Test.YtamgmfinkgdkjaaDoorN6G
import Derived.Test.YtamgmfinkgdkjaaDoorF65
namespace Go.Proofs.TrydN
open Go Go.AL Go.Proofs

set_option maxRecDepth 10000 in
set_option maxHeartbeats 1000000 in
theorem rgetN_spec (d : Dec) (h : okD d) (hn : d.n < 67000000) (hpl : d.p.length ≤ 64) {f : List Int} (hf : f.length < 4294967296) (a g : Int) : CallsF Tryd.prog 38 [.bp 0 0, .agg [.ri .i64 f, iv a, iv g]] [rD 1 d, pD d.p] (iv (d.numN f a g).1) [rD 2 (d.numN f a g).2, none, pD (d.numN f a g).2.p] := by
  unfold Dec.numN
  refine m38 1 ?_
  conv => whnf
  refine CallsF.call [] [] (rright_spec f hf a g d.p.length) rfl rfl rfl rfl rfl (.inl rfl) ?_
  conv => whnf
  cases hr : rightN f a g d.p.length
  · conv => whnf
    exact ⟨[1], [], rfl, rfl, rfl⟩
  have hf0 : 0 < f.length := by simp [rightN] at hr; omega
  generalize hT : numK f a 40 0 d 1 = T at *
  conv => whnf
  refine LoopA.inv (fun k st => ∃ (i : Nat) (D : Dec) (v : Nat), i + k = 40 ∧ numK f a k i D v = T ∧ okD D ∧ D.p.length = d.p.length ∧ D.n ≤ d.n + 2 * i ∧ v < 2 ^ (i + 1) ∧ st = ⟨[(0, .bp 0 0), (3, .bp 2 0), (5, iv v), (6, iv i)], [rD 1 D, pD D.p, bxS f a g], 3, 1⟩) 40 [0, 3, 5, 6] [1, 2] [] (by rfl) ?_ ?_
  · conv => whnf
    exact ⟨0, d, 1, by omega, hT, h, rfl, by omega, by omega, rfl⟩
  rintro k st ⟨i, D, v, hi, hK, hD, hDl, hDn, hv, rfl⟩
  have hp : 2 ^ (i + 1) ≤ 2 ^ 41 := Nat.pow_le_pow_right (by omega) (by omega)
  have hs : 2 ^ (i + 1 + 1) = 2 * 2 ^ (i + 1) := by rw [Nat.pow_succ]; omega
  conv => whnf
  refine ifB_of (fun hd => ?_) (fun hd => ?_)
  · have hd := of_decide_eq_true hd
    obtain ⟨k, rfl⟩ : ∃ k', k = k' + 1 := ⟨k - 1, by omega⟩
    obtain ⟨a1, a2, a3⟩ := get_keep hD (by omega) (folN f i)
    have l1 : (D.get (folN f i)).n ≤ D.n + 1 := by rw [a3]; split <;> omega
    have sp := dget5_spec D hD (by omega) (folN f i)
    have sq := dget5_spec (D.get (folN f i)) a1 (by omega) a
    rw [numK] at hK
    conv => whnf
    refine CallsF.call [] [] (rfollow_spec hf0 hf a g (i := i) (by omega)) rfl rfl rfl rfl rfl (.inl rfl) ?_
    conv => whnf
    refine CallsF.call [0, 1] [] (sp) rfl rfl rfl rfl rfl (.inl rfl) ?_
    conv => whnf
    cases ht : D.told (folN f i)
    · rw [ht] at hK
      simp only at hK
      obtain ⟨b1, b2, b3⟩ := get_keep a1 (by omega) a
      have l2 : ((D.get (folN f i)).get a).n ≤ D.n + 2 := by rw [b3]; split <;> omega
      conv => whnf
      rw [show IntKind.wrap .i64 (((v : Nat) : Int) * 2) = ((2 * v : Nat) : Int) from by rw [wrap_id (by omega) (by omega)]; omega]
      refine CallsF.call [0, 3] [] (sq) rfl rfl rfl rfl rfl (.inl rfl) ?_
      conv => whnf
      cases hu : (D.get (folN f i)).told a
      · rw [hu] at hK
        simp only at hK
        conv => whnf
        rw [inc_nat (by omega)]
        refine ⟨k, [0, 3, 5, 6], [4, 2], [], by omega, rfl, ?_⟩
        conv => whnf
        exact ⟨i + 1, _, 2 * v, by omega, hK, b1, by omega, by omega, by omega, rfl⟩
      · rw [hu] at hK
        simp only at hK
        conv => whnf
        rw [inc_nat (n := i) (by omega), inc_nat (n := 2 * v) (by omega)]
        refine ⟨k, [0, 3, 5, 6], [4, 2], [], by omega, rfl, ?_⟩
        conv => whnf
        exact ⟨i + 1, _, 2 * v + 1, by omega, hK, b1, by omega, by omega, by omega, rfl⟩
    · rw [ht] at hK
      simp only at hK
      subst hK
      conv => whnf
      rw [wrap_id (n := ((v : Nat) : Int) - 1) (by omega) (by omega)]
      exact ⟨[3], [], rfl, rfl, rfl⟩
  · have hd := of_decide_eq_false hd
    obtain rfl : k = 0 := by omega
    rw [numK] at hK
    subst hK
    conv => whnf
    rw [wrap_id (n := ((v : Nat) : Int) - 1) (by omega) (by omega)]
    exact ⟨[1], [], rfl, rfl, rfl⟩

theorem rgetS_spec (d : Dec) (h : okD d) (hn : d.n < 66999000) (hpl : d.p.length ≤ 64) {f : List Int} (hf : f.length < 4294967296) (a g : Int) : CallsF Tryd.prog 36 [.bp 0 0, .agg [.ri .i64 f, iv a, iv g]] [rD 1 d, pD d.p] (iv (d.sgnN f a g).1) [rD 2 (d.sgnN f a g).2, none, pD (d.sgnN f a g).2.p] := by
  obtain ⟨o1, o2, o3, o4, o5⟩ := numN_ok h (by omega) f a g
  have sp := rgetN_spec d h (by omega) hpl hf a g
  unfold Dec.sgnN
  generalize d.numN f a g = R at *
  obtain ⟨v, D⟩ := R
  simp only at *
  have sq := dget5_spec D o1 (by omega) g
  refine m36 1 ?_
  conv => whnf
  refine CallsF.call [0, 1] [] (sp) rfl rfl rfl rfl rfl (.inl rfl) ?_
  conv => whnf
  by_cases hv : v = 0
  · rw [show decide (v > 0) = false from decide_eq_false (by omega), show decide (v ≠ 0) = false from decide_eq_false (by simp [hv])]
    conv => whnf
    exact ⟨[3], [], rfl, rfl, rfl⟩
  · rw [show decide (v > 0) = true from decide_eq_true (by omega), show decide (v ≠ 0) = true from decide_eq_true hv]
    conv => whnf
    refine CallsF.call [0, 3] [] (sq) rfl rfl rfl rfl rfl (.inl rfl) ?_
    conv => whnf
    cases ht : D.told g
    · conv => whnf
      exact ⟨[4], [], rfl, rfl, rfl⟩
    · conv => whnf
      rw [wrap_id (n := 0 - v) (by omega) (by omega), Int.zero_sub]
      exact ⟨[4], [], rfl, rfl, rfl⟩

theorem right_noughtJ (f : List Int) (d g : Int) : rightN f d g 0 = false := by
  simp [rightN, hasK]
  try omega
theorem bget_nil (f : List Int) (hf : f.length < 4294967296) (d g : Int) : CallsF Tryd.prog 37 [.pnil, .agg [.ri .i64 f, iv d, iv g]] [] (iv 0) [] := by
  have ec : CallsF Tryd.prog 25 [.pnil] [] .snil [] := by
    refine e25 ?_
    conv => whnf
    exact ⟨[], [], rfl, rfl, rfl⟩
  have rs := right_spec f hf d g 0
  rw [right_noughtJ] at rs
  refine e37 ?_
  conv => whnf
  refine CallsF.call [] [] (ec) rfl rfl rfl rfl rfl (.inl rfl) ?_
  conv => whnf
  refine ⟨.inl ⟨_, rfl⟩, ?_⟩
  conv => whnf
  refine CallsF.call [] [] (rs) rfl rfl rfl rfl rfl (.inl rfl) ?_
  conv => whnf
  exact ⟨[], [], rfl, rfl, rfl⟩
theorem bgets_nil (f : List Int) (hf : f.length < 4294967296) (d g : Int) : CallsF Tryd.prog 35 [.pnil, .agg [.ri .i64 f, iv d, iv g]] [] (iv 0) [] := by
  refine e35 ?_
  conv => whnf
  refine CallsF.call [] [] (bget_nil f hf d g) rfl rfl rfl rfl rfl (.inl rfl) ?_
  conv => whnf
  exact ⟨[], [], rfl, rfl, rfl⟩

/-! The law's walk. -/

theorem inc_natK {n : Nat} (h : n < 9223372036854775807) : IntKind.wrap .i64 ((n : Int) + 1) = ((n + 1 : Nat) : Int) := by rw [wrap_id (by omega) (by omega)]; rfl
theorem take_allK (l : List Int) : (l.drop 0).take l.length = l := by rw [List.drop_zero, List.take_length]

/-- A decoder behind some numbers, with or without a sign. -/
def runG (f : List Int) (a g : Int) (D : Dec) (q : List Bool) : Dec := q.foldl (fun D s => match s with | true => (D.sgnN f a g).2 | false => (D.numN f a g).2) D
theorem runG_snoc (f : List Int) (a g : Int) (D : Dec) (q : List Bool) (s : Bool) : runG f a g D (q ++ [s]) = match s with | true => ((runG f a g D q).sgnN f a g).2 | false => ((runG f a g D q).numN f a g).2 := by simp [runG]
theorem sgnN_ok {d : Dec} (h : okD d) (hn : d.n < 66999000) (f : List Int) (a g : Int) : okD (d.sgnN f a g).2 ∧ (d.sgnN f a g).2.p.length = d.p.length ∧ (d.sgnN f a g).2.n ≤ d.n + 81 := by
  obtain ⟨o1, o2, o3, o4, o5⟩ := numN_ok h (by omega) f a g
  obtain ⟨k1, k2, k3⟩ := get_keep o1 (by omega) g
  unfold Dec.sgnN
  cases decide ((d.numN f a g).1 ≠ 0)
  · exact ⟨o1, o2, by simp only; omega⟩
  · refine ⟨k1, by simp only; omega, ?_⟩
    simp only
    rw [k3]
    split <;> omega
theorem runG_ok {D : Dec} (h : okD D) (hn : D.n < 1000) (f : List Int) (a g : Int) (q : List Bool) : q.length ≤ 100 → okD (runG f a g D q) ∧ (runG f a g D q).p.length = D.p.length ∧ (runG f a g D q).n ≤ D.n + 81 * q.length := by
  refine list_snoc (motive := fun q => q.length ≤ 100 → okD (runG f a g D q) ∧ (runG f a g D q).p.length = D.p.length ∧ (runG f a g D q).n ≤ D.n + 81 * q.length) ?_ ?_ q
  · intro _
    exact ⟨h, rfl, by simp [runG]⟩
  · intro q s ih hl
    simp at hl
    obtain ⟨a1, a2, a3⟩ := ih (by omega)
    rw [runG_snoc, List.length_append, List.length_singleton]
    cases s
    · obtain ⟨b1, b2, b3, _⟩ := numN_ok a1 (by omega) f a g
      exact ⟨b1, by simp only; omega, by simp only; omega⟩
    · obtain ⟨b1, b2, b3⟩ := sgnN_ok a1 (by omega) f a g
      exact ⟨b1, by simp only; omega, by simp only; omega⟩

set_option maxHeartbeats 4000000 in
set_option maxRecDepth 10000 in
theorem bgetsL_spec {v : AV} {bs : List Int} (hv : asB v bs) (hk : okB bs) (hbl : bs.length ≤ 9223372036854775807) (f : List Int) (hfl : f.length ≤ 9223372036854775807) (a g : Int) (l : List Bool) (hl : l.length ≤ 9223372036854775807) : CallsF Tryd.prog 9 [v, .agg [.ri .i64 f, iv a, iv g], .ro 1 (l.map fun b => [.bool b])] [] (.bool true) [] := by
  have hrow : ∀ i, (h : i < l.length) → nth (l.map fun b => [AV.bool b]) ((i : Nat) : Int).toNat = some [AV.bool l[i]] := fun i h => by
    rw [Int.toNat_natCast, nth_get, List.getElem?_map, List.getElem?_eq_getElem h]; rfl
  have hN : ∀ (h300 : bs.length < 301), CallsF Tryd.prog 21 [v, iv 9] [] (.bp 0 0) (hD (Dec.new bs 9)) := fun h300 => newD_spec hv hk (by omega) 9
  have h5 : ∀ (h300 : bs.length < 301), CallsF Tryd.prog 22 [v, iv 9] [] (.bp 0 0) [rD 1 (Dec.new bs 9), pD (Dec.new bs 9).p] := fun h300 => newD5_spec hv hk (by omega) 9
  have hok0 : ∀ (h300 : bs.length < 301), okD (Dec.new bs 9) := fun h300 => newD_ok hk (by omega) 9
  rcases hv with ⟨rfl, rfl⟩ | ⟨rfl, rfl⟩ | ⟨rfl, h⟩ | ⟨rfl, rfl⟩
  · refine e9 ?_
    conv => whnf
    refine CallsF.call [] [] (first6_spec) rfl rfl rfl rfl rfl (.inl rfl) ?_
    conv => whnf
    by_cases hf100 : f.length ≤ 100
    rotate_left
    · rw [show decide (((f.length : Nat) : Int) > 100) = true from decide_eq_true (by omega)]
      conv => whnf
      exact ⟨[], [], rfl, rfl, rfl⟩
    have hf : f.length < 4294967296 := by omega
    rw [show decide (((f.length : Nat) : Int) > 100) = false from decide_eq_false (by omega)]
    conv => whnf
    refine CallsF.call [] [] (hN (by simp)) rfl rfl rfl rfl rfl (.inl rfl) ?_
    conv => whnf
    refine CallsF.call [] [] (h5 (by simp)) rfl rfl rfl rfl rfl (.inl rfl) ?_
    conv => whnf
    obtain ⟨D0, hD0⟩ : ∃ D0, D0 = Dec.new [] 9 := ⟨_, rfl⟩
    have ok0 : okD D0 := by rw [hD0]; exact hok0 (by simp)
    have l0 : D0.p.length = 9 := by rw [hD0]; rfl
    have n0 : D0.n = 0 := by rw [hD0]; rfl
    refine LoopA.inv (fun k st => ∃ i : Nat, i + k = l.length ∧ i ≤ 40 ∧ ∃ D, D = runG f a g D0 (l.take i) ∧ st = ⟨[(4, .bp 5 0), (7, .bp 0 0), (8, .bp 3 0), (28, .ro 1 (l.map fun b => [.bool b])), (29, iv l.length), (30, iv i)], hD D ++ [rD 4 D, pD D.p, bxS f a g], 6, 0⟩) l.length [4, 7, 8, 28, 29, 30] [1, 2, 3, 4, 5, 0] [] (by rfl) ?_ ?_
    · conv => whnf
      refine ⟨0, by omega, by omega, D0, rfl, ?_⟩
      rw [hD0]
      simp only [List.length_map]
      rfl
    rintro k st ⟨i, hi, hi4, D, hDD, rfl⟩
    have hok := runG_ok ok0 (by omega) f a g (l.take i) (by simp; omega)
    have htl : (l.take i).length ≤ 40 := by simp; omega
    rw [← hDD] at hok
    have hpne : D.p ≠ [] := fun h => by have := hok.2.1; rw [h, l0] at this; simp at this
    conv => whnf
    refine ifB_of (fun hd => ?_) (fun hd => ?_)
    · have hd : i < l.length := by have := of_decide_eq_true hd; omega
      conv => whnf
      rw [aop_idxS_ro (hrow i hd) rfl rfl]
      conv => whnf
      by_cases h4 : i < 40
      · rw [show decide (((i : Nat) : Int) ≥ 40) = false from decide_eq_false (by omega)]
        have hnx := runG_snoc f a g D0 (l.take i) l[i]
        rw [← List.take_succ_eq_append_getElem hd, ← hDD] at hnx
        cases hs : l[i]
        · rw [hs] at hnx
          simp only at hnx
          have sp := bget_spec D hok.1 (by omega) hpne (by omega) hf a g
          have s5 := rgetN_spec D hok.1 (by omega) (by omega) hf a g
          obtain ⟨R, hR⟩ : ∃ R, R = D.numN f a g := ⟨_, rfl⟩
          rw [← hR] at sp s5 hnx
          conv => whnf
          refine CallsF.call [0, 1, 2] [] (sp) rfl rfl rfl rfl rfl (.inl rfl) ?_
          conv => whnf
          refine CallsF.call [3, 4] [] (s5) rfl rfl rfl rfl rfl (.inl rfl) ?_
          conv => whnf
          rw [show (R.1 != R.1) = false by simp]
          conv => whnf
          refine CallsF.call [0, 1, 2] [] (count2_spec _ _ _ _ _ _ _ _) rfl rfl rfl rfl rfl (.inl rfl) ?_
          conv => whnf
          refine ⟨.inl ⟨_, rfl⟩, ?_⟩
          conv => whnf
          rw [show ((R.2.n : Int) != (R.2.n : Int)) = false by simp]
          conv => whnf
          rw [inc_natK (by omega)]
          refine ⟨(l.length - (i + 1)), [4, 7, 8, 28, 29, 30], [0, 1, 2, 3, 6, 5], [], by omega, rfl, ?_⟩
          conv => whnf
          exact ⟨i + 1, by omega, by omega, R.2, hnx.symm, rfl⟩
        · rw [hs] at hnx
          simp only at hnx
          have sp := bgets_spec D hok.1 (by omega) hpne (by omega) hf a g
          have s5 := rgetS_spec D hok.1 (by omega) (by omega) hf a g
          obtain ⟨R, hR⟩ : ∃ R, R = D.sgnN f a g := ⟨_, rfl⟩
          rw [← hR] at sp s5 hnx
          conv => whnf
          refine CallsF.call [0, 1, 2] [] (sp) rfl rfl rfl rfl rfl (.inl rfl) ?_
          conv => whnf
          refine CallsF.call [3, 4] [] (s5) rfl rfl rfl rfl rfl (.inl rfl) ?_
          conv => whnf
          rw [show (R.1 != R.1) = false by simp]
          conv => whnf
          refine CallsF.call [0, 1, 2] [] (count2_spec _ _ _ _ _ _ _ _) rfl rfl rfl rfl rfl (.inl rfl) ?_
          conv => whnf
          refine ⟨.inl ⟨_, rfl⟩, ?_⟩
          conv => whnf
          rw [show ((R.2.n : Int) != (R.2.n : Int)) = false by simp]
          conv => whnf
          rw [inc_natK (by omega)]
          refine ⟨(l.length - (i + 1)), [4, 7, 8, 28, 29, 30], [0, 1, 2, 3, 6, 5], [], by omega, rfl, ?_⟩
          conv => whnf
          exact ⟨i + 1, by omega, by omega, R.2, hnx.symm, rfl⟩
      · rw [show decide (((i : Nat) : Int) ≥ 40) = true from decide_eq_true (by omega)]
        conv => whnf
        refine CallsF.call [0, 1, 2] [] (chances2_spec _ _ _ _ _ _ _ _ hpne (by omega)) rfl rfl rfl rfl rfl (.inl rfl) ?_
        conv => whnf
        refine ⟨.inl ⟨_, rfl⟩, ?_⟩
        conv => whnf
        refine CallsF.call [] [4] (same_spec D.p ((D.p.drop 0).take D.p.length) (by omega)) rfl rfl rfl rfl rfl (.inr rfl) ?_
        conv => whnf
        rw [decide_eq_true (take_allK D.p).symm]
        conv => whnf
        refine CallsF.call [] [] (bget_nil f hf a g) rfl rfl rfl rfl rfl (.inl rfl) ?_
        conv => whnf
        refine CallsF.call [] [] (bgets_nil f hf a g) rfl rfl rfl rfl rfl (.inl rfl) ?_
        conv => whnf
        exact ⟨[], [], rfl, rfl, rfl⟩
    · have hd := of_decide_eq_false hd
      conv => whnf
      refine CallsF.call [0, 1, 2] [] (chances2_spec _ _ _ _ _ _ _ _ hpne (by omega)) rfl rfl rfl rfl rfl (.inl rfl) ?_
      conv => whnf
      refine ⟨.inl ⟨_, rfl⟩, ?_⟩
      conv => whnf
      refine CallsF.call [] [4] (same_spec D.p ((D.p.drop 0).take D.p.length) (by omega)) rfl rfl rfl rfl rfl (.inr rfl) ?_
      conv => whnf
      rw [decide_eq_true (take_allK D.p).symm]
      conv => whnf
      refine CallsF.call [] [] (bget_nil f hf a g) rfl rfl rfl rfl rfl (.inl rfl) ?_
      conv => whnf
      refine CallsF.call [] [] (bgets_nil f hf a g) rfl rfl rfl rfl rfl (.inl rfl) ?_
      conv => whnf
      exact ⟨[], [], rfl, rfl, rfl⟩
  · refine e9 ?_
    conv => whnf
    refine CallsF.call [] [] (first6_spec) rfl rfl rfl rfl rfl (.inl rfl) ?_
    conv => whnf
    by_cases hf100 : f.length ≤ 100
    rotate_left
    · rw [show decide (((f.length : Nat) : Int) > 100) = true from decide_eq_true (by omega)]
      conv => whnf
      exact ⟨[], [], rfl, rfl, rfl⟩
    have hf : f.length < 4294967296 := by omega
    rw [show decide (((f.length : Nat) : Int) > 100) = false from decide_eq_false (by omega)]
    conv => whnf
    refine CallsF.call [] [] (hN (by simp)) rfl rfl rfl rfl rfl (.inl rfl) ?_
    conv => whnf
    refine CallsF.call [] [] (h5 (by simp)) rfl rfl rfl rfl rfl (.inl rfl) ?_
    conv => whnf
    obtain ⟨D0, hD0⟩ : ∃ D0, D0 = Dec.new [] 9 := ⟨_, rfl⟩
    have ok0 : okD D0 := by rw [hD0]; exact hok0 (by simp)
    have l0 : D0.p.length = 9 := by rw [hD0]; rfl
    have n0 : D0.n = 0 := by rw [hD0]; rfl
    refine LoopA.inv (fun k st => ∃ i : Nat, i + k = l.length ∧ i ≤ 40 ∧ ∃ D, D = runG f a g D0 (l.take i) ∧ st = ⟨[(4, .bp 5 0), (7, .bp 0 0), (8, .bp 3 0), (28, .ro 1 (l.map fun b => [.bool b])), (29, iv l.length), (30, iv i)], hD D ++ [rD 4 D, pD D.p, bxS f a g], 6, 0⟩) l.length [4, 7, 8, 28, 29, 30] [1, 2, 3, 4, 5, 0] [] (by rfl) ?_ ?_
    · conv => whnf
      refine ⟨0, by omega, by omega, D0, rfl, ?_⟩
      rw [hD0]
      simp only [List.length_map]
      rfl
    rintro k st ⟨i, hi, hi4, D, hDD, rfl⟩
    have hok := runG_ok ok0 (by omega) f a g (l.take i) (by simp; omega)
    have htl : (l.take i).length ≤ 40 := by simp; omega
    rw [← hDD] at hok
    have hpne : D.p ≠ [] := fun h => by have := hok.2.1; rw [h, l0] at this; simp at this
    conv => whnf
    refine ifB_of (fun hd => ?_) (fun hd => ?_)
    · have hd : i < l.length := by have := of_decide_eq_true hd; omega
      conv => whnf
      rw [aop_idxS_ro (hrow i hd) rfl rfl]
      conv => whnf
      by_cases h4 : i < 40
      · rw [show decide (((i : Nat) : Int) ≥ 40) = false from decide_eq_false (by omega)]
        have hnx := runG_snoc f a g D0 (l.take i) l[i]
        rw [← List.take_succ_eq_append_getElem hd, ← hDD] at hnx
        cases hs : l[i]
        · rw [hs] at hnx
          simp only at hnx
          have sp := bget_spec D hok.1 (by omega) hpne (by omega) hf a g
          have s5 := rgetN_spec D hok.1 (by omega) (by omega) hf a g
          obtain ⟨R, hR⟩ : ∃ R, R = D.numN f a g := ⟨_, rfl⟩
          rw [← hR] at sp s5 hnx
          conv => whnf
          refine CallsF.call [0, 1, 2] [] (sp) rfl rfl rfl rfl rfl (.inl rfl) ?_
          conv => whnf
          refine CallsF.call [3, 4] [] (s5) rfl rfl rfl rfl rfl (.inl rfl) ?_
          conv => whnf
          rw [show (R.1 != R.1) = false by simp]
          conv => whnf
          refine CallsF.call [0, 1, 2] [] (count2_spec _ _ _ _ _ _ _ _) rfl rfl rfl rfl rfl (.inl rfl) ?_
          conv => whnf
          refine ⟨.inl ⟨_, rfl⟩, ?_⟩
          conv => whnf
          rw [show ((R.2.n : Int) != (R.2.n : Int)) = false by simp]
          conv => whnf
          rw [inc_natK (by omega)]
          refine ⟨(l.length - (i + 1)), [4, 7, 8, 28, 29, 30], [0, 1, 2, 3, 6, 5], [], by omega, rfl, ?_⟩
          conv => whnf
          exact ⟨i + 1, by omega, by omega, R.2, hnx.symm, rfl⟩
        · rw [hs] at hnx
          simp only at hnx
          have sp := bgets_spec D hok.1 (by omega) hpne (by omega) hf a g
          have s5 := rgetS_spec D hok.1 (by omega) (by omega) hf a g
          obtain ⟨R, hR⟩ : ∃ R, R = D.sgnN f a g := ⟨_, rfl⟩
          rw [← hR] at sp s5 hnx
          conv => whnf
          refine CallsF.call [0, 1, 2] [] (sp) rfl rfl rfl rfl rfl (.inl rfl) ?_
          conv => whnf
          refine CallsF.call [3, 4] [] (s5) rfl rfl rfl rfl rfl (.inl rfl) ?_
          conv => whnf
          rw [show (R.1 != R.1) = false by simp]
          conv => whnf
          refine CallsF.call [0, 1, 2] [] (count2_spec _ _ _ _ _ _ _ _) rfl rfl rfl rfl rfl (.inl rfl) ?_
          conv => whnf
          refine ⟨.inl ⟨_, rfl⟩, ?_⟩
          conv => whnf
          rw [show ((R.2.n : Int) != (R.2.n : Int)) = false by simp]
          conv => whnf
          rw [inc_natK (by omega)]
          refine ⟨(l.length - (i + 1)), [4, 7, 8, 28, 29, 30], [0, 1, 2, 3, 6, 5], [], by omega, rfl, ?_⟩
          conv => whnf
          exact ⟨i + 1, by omega, by omega, R.2, hnx.symm, rfl⟩
      · rw [show decide (((i : Nat) : Int) ≥ 40) = true from decide_eq_true (by omega)]
        conv => whnf
        refine CallsF.call [0, 1, 2] [] (chances2_spec _ _ _ _ _ _ _ _ hpne (by omega)) rfl rfl rfl rfl rfl (.inl rfl) ?_
        conv => whnf
        refine ⟨.inl ⟨_, rfl⟩, ?_⟩
        conv => whnf
        refine CallsF.call [] [4] (same_spec D.p ((D.p.drop 0).take D.p.length) (by omega)) rfl rfl rfl rfl rfl (.inr rfl) ?_
        conv => whnf
        rw [decide_eq_true (take_allK D.p).symm]
        conv => whnf
        refine CallsF.call [] [] (bget_nil f hf a g) rfl rfl rfl rfl rfl (.inl rfl) ?_
        conv => whnf
        refine CallsF.call [] [] (bgets_nil f hf a g) rfl rfl rfl rfl rfl (.inl rfl) ?_
        conv => whnf
        exact ⟨[], [], rfl, rfl, rfl⟩
    · have hd := of_decide_eq_false hd
      conv => whnf
      refine CallsF.call [0, 1, 2] [] (chances2_spec _ _ _ _ _ _ _ _ hpne (by omega)) rfl rfl rfl rfl rfl (.inl rfl) ?_
      conv => whnf
      refine ⟨.inl ⟨_, rfl⟩, ?_⟩
      conv => whnf
      refine CallsF.call [] [4] (same_spec D.p ((D.p.drop 0).take D.p.length) (by omega)) rfl rfl rfl rfl rfl (.inr rfl) ?_
      conv => whnf
      rw [decide_eq_true (take_allK D.p).symm]
      conv => whnf
      refine CallsF.call [] [] (bget_nil f hf a g) rfl rfl rfl rfl rfl (.inl rfl) ?_
      conv => whnf
      refine CallsF.call [] [] (bgets_nil f hf a g) rfl rfl rfl rfl rfl (.inl rfl) ?_
      conv => whnf
      exact ⟨[], [], rfl, rfl, rfl⟩
  · refine e9 ?_
    conv => whnf
    refine CallsF.call [] [] (first6_spec) rfl rfl rfl rfl rfl (.inl rfl) ?_
    conv => whnf
    by_cases h300 : bs.length < 301
    rotate_left
    · rw [show decide (((bs.length : Nat) : Int) > 300) = true from decide_eq_true (by omega)]
      conv => whnf
      exact ⟨[], [], rfl, rfl, rfl⟩
    rw [show decide (((bs.length : Nat) : Int) > 300) = false from decide_eq_false (by omega)]
    conv => whnf
    by_cases hf100 : f.length ≤ 100
    rotate_left
    · rw [show decide (((f.length : Nat) : Int) > 100) = true from decide_eq_true (by omega)]
      conv => whnf
      exact ⟨[], [], rfl, rfl, rfl⟩
    have hf : f.length < 4294967296 := by omega
    rw [show decide (((f.length : Nat) : Int) > 100) = false from decide_eq_false (by omega)]
    conv => whnf
    refine CallsF.call [] [] (hN h300) rfl rfl rfl rfl rfl (.inl rfl) ?_
    conv => whnf
    refine CallsF.call [] [] (h5 h300) rfl rfl rfl rfl rfl (.inl rfl) ?_
    conv => whnf
    obtain ⟨D0, hD0⟩ : ∃ D0, D0 = Dec.new bs 9 := ⟨_, rfl⟩
    have ok0 : okD D0 := by rw [hD0]; exact hok0 h300
    have l0 : D0.p.length = 9 := by rw [hD0]; rfl
    have n0 : D0.n = 0 := by rw [hD0]; rfl
    refine LoopA.inv (fun k st => ∃ i : Nat, i + k = l.length ∧ i ≤ 40 ∧ ∃ D, D = runG f a g D0 (l.take i) ∧ st = ⟨[(4, .bp 5 0), (7, .bp 0 0), (8, .bp 3 0), (28, .ro 1 (l.map fun b => [.bool b])), (29, iv l.length), (30, iv i)], hD D ++ [rD 4 D, pD D.p, bxS f a g], 6, 0⟩) l.length [4, 7, 8, 28, 29, 30] [1, 2, 3, 4, 5, 0] [] (by rfl) ?_ ?_
    · conv => whnf
      refine ⟨0, by omega, by omega, D0, rfl, ?_⟩
      rw [hD0]
      simp only [List.length_map]
      rfl
    rintro k st ⟨i, hi, hi4, D, hDD, rfl⟩
    have hok := runG_ok ok0 (by omega) f a g (l.take i) (by simp; omega)
    have htl : (l.take i).length ≤ 40 := by simp; omega
    rw [← hDD] at hok
    have hpne : D.p ≠ [] := fun h => by have := hok.2.1; rw [h, l0] at this; simp at this
    conv => whnf
    refine ifB_of (fun hd => ?_) (fun hd => ?_)
    · have hd : i < l.length := by have := of_decide_eq_true hd; omega
      conv => whnf
      rw [aop_idxS_ro (hrow i hd) rfl rfl]
      conv => whnf
      by_cases h4 : i < 40
      · rw [show decide (((i : Nat) : Int) ≥ 40) = false from decide_eq_false (by omega)]
        have hnx := runG_snoc f a g D0 (l.take i) l[i]
        rw [← List.take_succ_eq_append_getElem hd, ← hDD] at hnx
        cases hs : l[i]
        · rw [hs] at hnx
          simp only at hnx
          have sp := bget_spec D hok.1 (by omega) hpne (by omega) hf a g
          have s5 := rgetN_spec D hok.1 (by omega) (by omega) hf a g
          obtain ⟨R, hR⟩ : ∃ R, R = D.numN f a g := ⟨_, rfl⟩
          rw [← hR] at sp s5 hnx
          conv => whnf
          refine CallsF.call [0, 1, 2] [] (sp) rfl rfl rfl rfl rfl (.inl rfl) ?_
          conv => whnf
          refine CallsF.call [3, 4] [] (s5) rfl rfl rfl rfl rfl (.inl rfl) ?_
          conv => whnf
          rw [show (R.1 != R.1) = false by simp]
          conv => whnf
          refine CallsF.call [0, 1, 2] [] (count2_spec _ _ _ _ _ _ _ _) rfl rfl rfl rfl rfl (.inl rfl) ?_
          conv => whnf
          refine ⟨.inl ⟨_, rfl⟩, ?_⟩
          conv => whnf
          rw [show ((R.2.n : Int) != (R.2.n : Int)) = false by simp]
          conv => whnf
          rw [inc_natK (by omega)]
          refine ⟨(l.length - (i + 1)), [4, 7, 8, 28, 29, 30], [0, 1, 2, 3, 6, 5], [], by omega, rfl, ?_⟩
          conv => whnf
          exact ⟨i + 1, by omega, by omega, R.2, hnx.symm, rfl⟩
        · rw [hs] at hnx
          simp only at hnx
          have sp := bgets_spec D hok.1 (by omega) hpne (by omega) hf a g
          have s5 := rgetS_spec D hok.1 (by omega) (by omega) hf a g
          obtain ⟨R, hR⟩ : ∃ R, R = D.sgnN f a g := ⟨_, rfl⟩
          rw [← hR] at sp s5 hnx
          conv => whnf
          refine CallsF.call [0, 1, 2] [] (sp) rfl rfl rfl rfl rfl (.inl rfl) ?_
          conv => whnf
          refine CallsF.call [3, 4] [] (s5) rfl rfl rfl rfl rfl (.inl rfl) ?_
          conv => whnf
          rw [show (R.1 != R.1) = false by simp]
          conv => whnf
          refine CallsF.call [0, 1, 2] [] (count2_spec _ _ _ _ _ _ _ _) rfl rfl rfl rfl rfl (.inl rfl) ?_
          conv => whnf
          refine ⟨.inl ⟨_, rfl⟩, ?_⟩
          conv => whnf
          rw [show ((R.2.n : Int) != (R.2.n : Int)) = false by simp]
          conv => whnf
          rw [inc_natK (by omega)]
          refine ⟨(l.length - (i + 1)), [4, 7, 8, 28, 29, 30], [0, 1, 2, 3, 6, 5], [], by omega, rfl, ?_⟩
          conv => whnf
          exact ⟨i + 1, by omega, by omega, R.2, hnx.symm, rfl⟩
      · rw [show decide (((i : Nat) : Int) ≥ 40) = true from decide_eq_true (by omega)]
        conv => whnf
        refine CallsF.call [0, 1, 2] [] (chances2_spec _ _ _ _ _ _ _ _ hpne (by omega)) rfl rfl rfl rfl rfl (.inl rfl) ?_
        conv => whnf
        refine ⟨.inl ⟨_, rfl⟩, ?_⟩
        conv => whnf
        refine CallsF.call [] [4] (same_spec D.p ((D.p.drop 0).take D.p.length) (by omega)) rfl rfl rfl rfl rfl (.inr rfl) ?_
        conv => whnf
        rw [decide_eq_true (take_allK D.p).symm]
        conv => whnf
        refine CallsF.call [] [] (bget_nil f hf a g) rfl rfl rfl rfl rfl (.inl rfl) ?_
        conv => whnf
        refine CallsF.call [] [] (bgets_nil f hf a g) rfl rfl rfl rfl rfl (.inl rfl) ?_
        conv => whnf
        exact ⟨[], [], rfl, rfl, rfl⟩
    · have hd := of_decide_eq_false hd
      conv => whnf
      refine CallsF.call [0, 1, 2] [] (chances2_spec _ _ _ _ _ _ _ _ hpne (by omega)) rfl rfl rfl rfl rfl (.inl rfl) ?_
      conv => whnf
      refine ⟨.inl ⟨_, rfl⟩, ?_⟩
      conv => whnf
      refine CallsF.call [] [4] (same_spec D.p ((D.p.drop 0).take D.p.length) (by omega)) rfl rfl rfl rfl rfl (.inr rfl) ?_
      conv => whnf
      rw [decide_eq_true (take_allK D.p).symm]
      conv => whnf
      refine CallsF.call [] [] (bget_nil f hf a g) rfl rfl rfl rfl rfl (.inl rfl) ?_
      conv => whnf
      refine CallsF.call [] [] (bgets_nil f hf a g) rfl rfl rfl rfl rfl (.inl rfl) ?_
      conv => whnf
      exact ⟨[], [], rfl, rfl, rfl⟩
  · refine e9 ?_
    conv => whnf
    refine CallsF.call [] [] (first6_spec) rfl rfl rfl rfl rfl (.inl rfl) ?_
    conv => whnf
    by_cases hf100 : f.length ≤ 100
    rotate_left
    · rw [show decide (((f.length : Nat) : Int) > 100) = true from decide_eq_true (by omega)]
      conv => whnf
      exact ⟨[], [], rfl, rfl, rfl⟩
    have hf : f.length < 4294967296 := by omega
    rw [show decide (((f.length : Nat) : Int) > 100) = false from decide_eq_false (by omega)]
    conv => whnf
    refine CallsF.call [] [] (hN (by simp)) rfl rfl rfl rfl rfl (.inl rfl) ?_
    conv => whnf
    refine CallsF.call [] [] (h5 (by simp)) rfl rfl rfl rfl rfl (.inl rfl) ?_
    conv => whnf
    obtain ⟨D0, hD0⟩ : ∃ D0, D0 = Dec.new [] 9 := ⟨_, rfl⟩
    have ok0 : okD D0 := by rw [hD0]; exact hok0 (by simp)
    have l0 : D0.p.length = 9 := by rw [hD0]; rfl
    have n0 : D0.n = 0 := by rw [hD0]; rfl
    refine LoopA.inv (fun k st => ∃ i : Nat, i + k = l.length ∧ i ≤ 40 ∧ ∃ D, D = runG f a g D0 (l.take i) ∧ st = ⟨[(4, .bp 5 0), (7, .bp 0 0), (8, .bp 3 0), (28, .ro 1 (l.map fun b => [.bool b])), (29, iv l.length), (30, iv i)], hD D ++ [rD 4 D, pD D.p, bxS f a g], 6, 0⟩) l.length [4, 7, 8, 28, 29, 30] [1, 2, 3, 4, 5, 0] [] (by rfl) ?_ ?_
    · conv => whnf
      refine ⟨0, by omega, by omega, D0, rfl, ?_⟩
      rw [hD0]
      simp only [List.length_map]
      rfl
    rintro k st ⟨i, hi, hi4, D, hDD, rfl⟩
    have hok := runG_ok ok0 (by omega) f a g (l.take i) (by simp; omega)
    have htl : (l.take i).length ≤ 40 := by simp; omega
    rw [← hDD] at hok
    have hpne : D.p ≠ [] := fun h => by have := hok.2.1; rw [h, l0] at this; simp at this
    conv => whnf
    refine ifB_of (fun hd => ?_) (fun hd => ?_)
    · have hd : i < l.length := by have := of_decide_eq_true hd; omega
      conv => whnf
      rw [aop_idxS_ro (hrow i hd) rfl rfl]
      conv => whnf
      by_cases h4 : i < 40
      · rw [show decide (((i : Nat) : Int) ≥ 40) = false from decide_eq_false (by omega)]
        have hnx := runG_snoc f a g D0 (l.take i) l[i]
        rw [← List.take_succ_eq_append_getElem hd, ← hDD] at hnx
        cases hs : l[i]
        · rw [hs] at hnx
          simp only at hnx
          have sp := bget_spec D hok.1 (by omega) hpne (by omega) hf a g
          have s5 := rgetN_spec D hok.1 (by omega) (by omega) hf a g
          obtain ⟨R, hR⟩ : ∃ R, R = D.numN f a g := ⟨_, rfl⟩
          rw [← hR] at sp s5 hnx
          conv => whnf
          refine CallsF.call [0, 1, 2] [] (sp) rfl rfl rfl rfl rfl (.inl rfl) ?_
          conv => whnf
          refine CallsF.call [3, 4] [] (s5) rfl rfl rfl rfl rfl (.inl rfl) ?_
          conv => whnf
          rw [show (R.1 != R.1) = false by simp]
          conv => whnf
          refine CallsF.call [0, 1, 2] [] (count2_spec _ _ _ _ _ _ _ _) rfl rfl rfl rfl rfl (.inl rfl) ?_
          conv => whnf
          refine ⟨.inl ⟨_, rfl⟩, ?_⟩
          conv => whnf
          rw [show ((R.2.n : Int) != (R.2.n : Int)) = false by simp]
          conv => whnf
          rw [inc_natK (by omega)]
          refine ⟨(l.length - (i + 1)), [4, 7, 8, 28, 29, 30], [0, 1, 2, 3, 6, 5], [], by omega, rfl, ?_⟩
          conv => whnf
          exact ⟨i + 1, by omega, by omega, R.2, hnx.symm, rfl⟩
        · rw [hs] at hnx
          simp only at hnx
          have sp := bgets_spec D hok.1 (by omega) hpne (by omega) hf a g
          have s5 := rgetS_spec D hok.1 (by omega) (by omega) hf a g
          obtain ⟨R, hR⟩ : ∃ R, R = D.sgnN f a g := ⟨_, rfl⟩
          rw [← hR] at sp s5 hnx
          conv => whnf
          refine CallsF.call [0, 1, 2] [] (sp) rfl rfl rfl rfl rfl (.inl rfl) ?_
          conv => whnf
          refine CallsF.call [3, 4] [] (s5) rfl rfl rfl rfl rfl (.inl rfl) ?_
          conv => whnf
          rw [show (R.1 != R.1) = false by simp]
          conv => whnf
          refine CallsF.call [0, 1, 2] [] (count2_spec _ _ _ _ _ _ _ _) rfl rfl rfl rfl rfl (.inl rfl) ?_
          conv => whnf
          refine ⟨.inl ⟨_, rfl⟩, ?_⟩
          conv => whnf
          rw [show ((R.2.n : Int) != (R.2.n : Int)) = false by simp]
          conv => whnf
          rw [inc_natK (by omega)]
          refine ⟨(l.length - (i + 1)), [4, 7, 8, 28, 29, 30], [0, 1, 2, 3, 6, 5], [], by omega, rfl, ?_⟩
          conv => whnf
          exact ⟨i + 1, by omega, by omega, R.2, hnx.symm, rfl⟩
      · rw [show decide (((i : Nat) : Int) ≥ 40) = true from decide_eq_true (by omega)]
        conv => whnf
        refine CallsF.call [0, 1, 2] [] (chances2_spec _ _ _ _ _ _ _ _ hpne (by omega)) rfl rfl rfl rfl rfl (.inl rfl) ?_
        conv => whnf
        refine ⟨.inl ⟨_, rfl⟩, ?_⟩
        conv => whnf
        refine CallsF.call [] [4] (same_spec D.p ((D.p.drop 0).take D.p.length) (by omega)) rfl rfl rfl rfl rfl (.inr rfl) ?_
        conv => whnf
        rw [decide_eq_true (take_allK D.p).symm]
        conv => whnf
        refine CallsF.call [] [] (bget_nil f hf a g) rfl rfl rfl rfl rfl (.inl rfl) ?_
        conv => whnf
        refine CallsF.call [] [] (bgets_nil f hf a g) rfl rfl rfl rfl rfl (.inl rfl) ?_
        conv => whnf
        exact ⟨[], [], rfl, rfl, rfl⟩
    · have hd := of_decide_eq_false hd
      conv => whnf
      refine CallsF.call [0, 1, 2] [] (chances2_spec _ _ _ _ _ _ _ _ hpne (by omega)) rfl rfl rfl rfl rfl (.inl rfl) ?_
      conv => whnf
      refine ⟨.inl ⟨_, rfl⟩, ?_⟩
      conv => whnf
      refine CallsF.call [] [4] (same_spec D.p ((D.p.drop 0).take D.p.length) (by omega)) rfl rfl rfl rfl rfl (.inr rfl) ?_
      conv => whnf
      rw [decide_eq_true (take_allK D.p).symm]
      conv => whnf
      refine CallsF.call [] [] (bget_nil f hf a g) rfl rfl rfl rfl rfl (.inl rfl) ?_
      conv => whnf
      refine CallsF.call [] [] (bgets_nil f hf a g) rfl rfl rfl rfl rfl (.inl rfl) ?_
      conv => whnf
      exact ⟨[], [], rfl, rfl, rfl⟩

theorem bgetsL_any {bs : List Int} (hk : okB bs) (hbl : bs.length ≤ 9223372036854775807) (f : List Int) (hfl : f.length ≤ 9223372036854775807) (a g : Int) (l : List Bool) (hl : l.length ≤ 9223372036854775807) : CallsF Tryd.prog 9 [.ri .u8 bs, .agg [.ri .i64 f, iv a, iv g], .ro 1 (l.map fun b => [.bool b])] [] (.bool true) [] := by
  cases bs with
  | nil => exact CallsA.empty (pre := []) (bgetsL_spec (.inl ⟨rfl, rfl⟩) hk hbl f hfl a g l hl) (bgetsL_spec (.inr (.inr (.inr ⟨rfl, rfl⟩))) hk hbl f hfl a g l hl)
  | cons x r => exact bgetsL_spec (.inr (.inr (.inl ⟨rfl, by simp⟩))) hk hbl f hfl a g l hl

end Go.Proofs.TrydN

