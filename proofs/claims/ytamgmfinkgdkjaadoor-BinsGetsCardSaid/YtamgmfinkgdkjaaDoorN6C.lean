/- Layer 6: numbers told by contexts: the walk. -/
import Derived.Test.YtamgmfinkgdkjaaDoorN6A
namespace Go.Proofs.TrydN
open Go Go.AL Go.Proofs

/-- A number's digits told, and one more where none is left. -/
def numK (f : List Int) (a : Int) : Nat → Nat → Dec → Nat → Nat × Dec
  | 0, _, D, v => (v, D)
  | k + 1, i, D, v => match D.told (folN f i) with
    | true => (v, D.get (folN f i))
    | false => numK f a k (i + 1) ((D.get (folN f i)).get a) (match (D.get (folN f i)).told a with | true => 2 * v + 1 | false => 2 * v)
def Dec.numN (d : Dec) (f : List Int) (a g : Int) : Int × Dec := match rightN f a g d.p.length with
  | true => (((numK f a 40 0 d 1).1 : Nat) - 1, (numK f a 40 0 d 1).2)
  | false => (0, d)

theorem numK_in (f : List Int) (a : Int) : ∀ (k i : Nat) (D : Dec) (v : Nat), 1 ≤ v → v < 2 ^ (i + 1) → 1 ≤ (numK f a k i D v).1 ∧ (numK f a k i D v).1 < 2 ^ (i + k + 1)
  | 0, i, D, v, h0, h1 => ⟨h0, h1⟩
  | k + 1, i, D, v, h0, h1 => by
    have hp : 2 ^ (i + 1) ≤ 2 ^ (i + (k + 1) + 1) := Nat.pow_le_pow_right (by omega) (by omega)
    have hs : 2 ^ (i + 1 + 1) = 2 * 2 ^ (i + 1) := by rw [Nat.pow_succ]; omega
    rw [numK]
    cases D.told (folN f i)
    · simp only
      have e : i + (k + 1) + 1 = i + 1 + k + 1 := by omega
      rw [e]
      cases (D.get (folN f i)).told a
      · exact numK_in f a k (i + 1) _ (2 * v) (by omega) (by omega)
      · exact numK_in f a k (i + 1) _ (2 * v + 1) (by omega) (by omega)
    · exact ⟨h0, by show v < _; omega⟩
theorem numK_ok (f : List Int) (a : Int) : ∀ (k i : Nat) (D : Dec) (v : Nat), okD D → D.n + 2 * k + 2 < 67108000 → okD (numK f a k i D v).2 ∧ (numK f a k i D v).2.p.length = D.p.length ∧ (numK f a k i D v).2.n ≤ D.n + 2 * k
  | 0, i, D, v, h, _ => ⟨h, rfl, Nat.le_refl _⟩
  | k + 1, i, D, v, h, hn => by
    obtain ⟨a1, a2, a3⟩ := get_keep h (by omega) (folN f i)
    have l1 : (D.get (folN f i)).n ≤ D.n + 1 := by rw [a3]; split <;> omega
    rw [numK]
    cases D.told (folN f i)
    · obtain ⟨b1, b2, b3⟩ := get_keep a1 (by omega) a
      have l2 : ((D.get (folN f i)).get a).n ≤ D.n + 2 := by rw [b3]; split <;> omega
      obtain ⟨c1, c2, c3⟩ := numK_ok f a k (i + 1) ((D.get (folN f i)).get a) (match (D.get (folN f i)).told a with | true => 2 * v + 1 | false => 2 * v) b1 (by omega)
      exact ⟨c1, by rw [c2, b2, a2], by simp only; omega⟩
    · exact ⟨a1, a2, by show (D.get (folN f i)).n ≤ _; omega⟩
theorem numN_ok {d : Dec} (h : okD d) (hn : d.n < 67000000) (f : List Int) (a g : Int) : okD (d.numN f a g).2 ∧ (d.numN f a g).2.p.length = d.p.length ∧ (d.numN f a g).2.n ≤ d.n + 80 ∧ 0 ≤ (d.numN f a g).1 ∧ (d.numN f a g).1 < 2 ^ 41 := by
  unfold Dec.numN
  cases rightN f a g d.p.length
  · exact ⟨h, rfl, by simp, by simp, by simp⟩
  · obtain ⟨c1, c2, c3⟩ := numK_ok f a 40 0 d 1 h (by omega)
    have := numK_in f a 40 0 d 1 (by omega) (by omega)
    exact ⟨c1, c2, by simp only; omega, by simp only; omega, by simp only; omega⟩

set_option maxRecDepth 10000 in
set_option maxHeartbeats 1000000 in
theorem bget_spec (d : Dec) (h : okD d) (hn : d.n < 67000000) (hpne : d.p ≠ []) (hpl : d.p.length ≤ 64) {f : List Int} (hf : f.length < 4294967296) (a g : Int) : CallsF Tryd.prog 37 [.bp 0 0, .agg [.ri .i64 f, iv a, iv g]] (hD d) (iv (d.numN f a g).1) (hD (d.numN f a g).2) := by
  unfold Dec.numN
  refine e37 ?_
  conv => whnf
  refine CallsF.call [0, 1, 2] [] (chances2_spec _ _ _ _ _ _ _ _ hpne (by omega)) rfl rfl rfl rfl rfl (.inl rfl) ?_
  conv => whnf
  refine ⟨.inl ⟨_, rfl⟩, ?_⟩
  conv => whnf
  refine CallsF.call [] [] (right_spec f hf a g d.p.length) rfl rfl rfl rfl rfl (.inl rfl) ?_
  conv => whnf
  cases hr : rightN f a g d.p.length
  · conv => whnf
    exact ⟨[], [], rfl, rfl, rfl⟩
  have hf0 : 0 < f.length := by simp [rightN] at hr; omega
  have hin := numK_in f a 40 0 d 1 (by omega) (by omega)
  generalize hT : numK f a 40 0 d 1 = T at *
  conv => whnf
  refine LoopA.inv (fun k st => ∃ (i : Nat) (D : Dec) (v : Nat), i + k = 40 ∧ numK f a k i D v = T ∧ okD D ∧ D.n ≤ d.n + 2 * i ∧ v < 2 ^ (i + 1) ∧ st = ⟨[(0, .bp 0 0), (3, .bp 3 0), (5, iv v), (13, iv i)], [cB D.p D.n D.low D.size D.code, pD D.p, rB D.src D.pos D.over, some (.box [.ri .i64 f, iv a, iv g])], 4, 3⟩) 40 [0, 3, 5, 13] [3] [] (by rfl) ?_ ?_
  · conv => whnf
    exact ⟨0, d, 1, by omega, hT, h, by omega, by omega, rfl⟩
  rintro k st ⟨i, D, v, hi, hK, hD, hDn, hv, rfl⟩
  have hp : 2 ^ (i + 1) ≤ 2 ^ 41 := Nat.pow_le_pow_right (by omega) (by omega)
  have hs : 2 ^ (i + 1 + 1) = 2 * 2 ^ (i + 1) := by rw [Nat.pow_succ]; omega
  conv => whnf
  refine ifB_of (fun hd => ?_) (fun hd => ?_)
  · have hd := of_decide_eq_true hd
    obtain ⟨k, rfl⟩ : ∃ k', k = k' + 1 := ⟨k - 1, by omega⟩
    obtain ⟨a1, a2, a3⟩ := get_keep hD (by omega) (folN f i)
    have l1 : (D.get (folN f i)).n ≤ D.n + 1 := by rw [a3]; split <;> omega
    have sp := dget_spec D hD (folN f i)
    have sq := dget_spec (D.get (folN f i)) a1 a
    rw [numK] at hK
    conv => whnf
    refine CallsF.call [] [] (follow_spec hf0 hf a g (i := i) (by omega)) rfl rfl rfl rfl rfl (.inl rfl) ?_
    conv => whnf
    refine CallsF.call [0, 1, 2] [] (sp) rfl rfl rfl rfl rfl (.inl rfl) ?_
    conv => whnf
    cases ht : D.told (folN f i)
    · rw [ht] at hK
      simp only at hK
      obtain ⟨b1, b2, b3⟩ := get_keep a1 (by omega) a
      have l2 : ((D.get (folN f i)).get a).n ≤ D.n + 2 := by rw [b3]; split <;> omega
      conv => whnf
      refine CallsF.call [0, 1, 2] [] (sq) rfl rfl rfl rfl rfl (.inl rfl) ?_
      conv => whnf
      cases hu : (D.get (folN f i)).told a
      · rw [hu] at hK
        simp only at hK
        conv => whnf
        rw [inc_nat (by omega), show IntKind.wrap .i64 (((v : Nat) : Int) * 2) = ((2 * v : Nat) : Int) from by rw [wrap_id (by omega) (by omega)]; omega]
        refine ⟨k, [0, 3, 5, 13], [3], [], by omega, rfl, ?_⟩
        conv => whnf
        exact ⟨i + 1, _, 2 * v, by omega, hK, b1, by omega, by omega, rfl⟩
      · rw [hu] at hK
        simp only at hK
        conv => whnf
        rw [inc_nat (by omega), show IntKind.wrap .i64 (IntKind.wrap .i64 (2 * ((v : Nat) : Int)) + 1) = ((2 * v + 1 : Nat) : Int) from by rw [wrap_id (n := 2 * ((v : Nat) : Int)) (by omega) (by omega), wrap_id (by omega) (by omega)]; omega]
        refine ⟨k, [0, 3, 5, 13], [3], [], by omega, rfl, ?_⟩
        conv => whnf
        exact ⟨i + 1, _, 2 * v + 1, by omega, hK, b1, by omega, by omega, rfl⟩
    · rw [ht] at hK
      simp only at hK
      subst hK
      conv => whnf
      rw [wrap_id (n := ((v : Nat) : Int) - 1) (by omega) (by omega)]
      exact ⟨[], [], rfl, rfl, rfl⟩
  · have hd := of_decide_eq_false hd
    obtain rfl : k = 0 := by omega
    rw [numK] at hK
    subst hK
    conv => whnf
    rw [wrap_id (n := ((v : Nat) : Int) - 1) (by omega) (by omega)]
    exact ⟨[], [], rfl, rfl, rfl⟩

/-- A number with its sign told. -/
def Dec.sgnN (d : Dec) (f : List Int) (a g : Int) : Int × Dec := match decide ((d.numN f a g).1 ≠ 0) with
  | true => (match (d.numN f a g).2.told g with | true => -(d.numN f a g).1 | false => (d.numN f a g).1, (d.numN f a g).2.get g)
  | false => ((d.numN f a g).1, (d.numN f a g).2)

theorem bgets_spec (d : Dec) (h : okD d) (hn : d.n < 66999000) (hpne : d.p ≠ []) (hpl : d.p.length ≤ 64) {f : List Int} (hf : f.length < 4294967296) (a g : Int) : CallsF Tryd.prog 35 [.bp 0 0, .agg [.ri .i64 f, iv a, iv g]] (hD d) (iv (d.sgnN f a g).1) (hD (d.sgnN f a g).2) := by
  obtain ⟨o1, o2, o3, o4, o5⟩ := numN_ok h (by omega) f a g
  have sp := bget_spec d h (by omega) hpne hpl hf a g
  unfold Dec.sgnN
  generalize d.numN f a g = R at *
  obtain ⟨v, D⟩ := R
  simp only at *
  have sq := dget_spec D o1 g
  refine e35 ?_
  conv => whnf
  refine CallsF.call [0, 1, 2] [] (sp) rfl rfl rfl rfl rfl (.inl rfl) ?_
  conv => whnf
  by_cases hv : v = 0
  · rw [show (v != 0) = false by simp [hv], show decide (v ≠ 0) = false from decide_eq_false (by simp [hv])]
    conv => whnf
    exact ⟨[], [], rfl, rfl, rfl⟩
  · rw [show (v != 0) = true by simp [hv], show decide (v ≠ 0) = true from decide_eq_true hv]
    conv => whnf
    refine CallsF.call [0, 1, 2] [] (sq) rfl rfl rfl rfl rfl (.inl rfl) ?_
    conv => whnf
    cases ht : D.told g
    · conv => whnf
      exact ⟨[], [], rfl, rfl, rfl⟩
    · conv => whnf
      rw [wrap_id (n := 0 - v) (by omega) (by omega), Int.zero_sub]
      exact ⟨[], [], rfl, rfl, rfl⟩

end Go.Proofs.TrydN

