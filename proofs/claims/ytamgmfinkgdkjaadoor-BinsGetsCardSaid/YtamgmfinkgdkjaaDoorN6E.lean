/- Layer 6: how many bits a number needs, and what is told of what was put: the plain law; BinsCosts: the walk. -/
import Derived.Test.YtamgmfinkgdkjaaDoorN6D
namespace Go.Proofs.TrydN
open Go Go.AL Go.Proofs

theorem log_mono {x y : Nat} (h : x ≤ y) (h0 : x ≠ 0) : Nat.log2 x ≤ Nat.log2 y := by
  have a := (log_in h0).1
  have b := (log_in (x := y) (by omega)).2
  apply Classical.byContradiction
  intro hc
  have : 2 ^ (Nat.log2 y + 1) ≤ 2 ^ Nat.log2 x := Nat.pow_le_pow_right (by omega) (by omega)
  omega
theorem bitsK_nat {V : Nat} (h : V ≤ 2199023255550) : bitsK (V : Int) = if digN V < 40 then 2 * digN V + 1 else 2 * digN V := by
  unfold bitsK
  rw [show mayN (V : Int) = true by simp [mayN]; omega]
  simp
theorem bitsK_le {V : Nat} (h : V ≤ 2199023255550) : bitsK (V : Int) ≤ 80 := by
  have := digN_in h
  rw [bitsK_nat h]; split <;> omega
theorem bitsK_half {V : Nat} (h : V ≤ 2199023255550) : bitsK ((V / 2 : Nat) : Int) ≤ bitsK (V : Int) := by
  have h2 : digN (V / 2) ≤ digN V := log_mono (by omega) (by omega)
  have := digN_in h
  rw [bitsK_nat h, bitsK_nat (by omega)]
  split <;> split <;> omega
theorem steps_bits (f : List Int) (d : Int) {V : Nat} (h : V ≤ 2199023255550) : (stepsN f d V).length = bitsK (V : Int) := by
  rw [bitsK_nat h]
  unfold stepsN
  rw [List.length_append, digP_len]
  split <;> simp

/-- All contexts of a right set are there. -/
theorem steps_has {f : List Int} {d g : Int} {n : Nat} (h : rightN f d g n = true) (v : Int) : ∀ x ∈ stepsS f d g v, hasK n x.1 = true := by
  simp only [rightN, Bool.and_eq_true, decide_eq_true_eq] at h
  obtain ⟨⟨⟨h1, h2⟩, h3⟩, h4⟩ := h
  have hf : ∀ i, hasK n (folN f i) = true := fun i => by
    rw [List.all_eq_true] at h1
    refine h1 _ ?_
    unfold folN
    rw [List.getD, List.getElem?_eq_getElem (by omega)]
    exact List.getElem_mem _
  intro x hx
  unfold stepsS stepsN at hx
  rw [List.mem_append, List.mem_append] at hx
  rcases hx with (hx | hx) | hx
  · simp only [digP, List.mem_flatMap, List.mem_cons, List.not_mem_nil, or_false] at hx
    obtain ⟨j, _, rfl | rfl⟩ := hx
    · exact hf j
    · exact h3
  · split at hx <;> simp at hx
    subst hx
    exact hf _
  · split at hx <;> simp at hx
    subst hx
    exact h4
theorem hasN_K (c k : Int) : hasN c k = hasK (ctxN c) k := rfl

/-! What was put is told. -/

def decF (d : Dec) (q : List (Int × Bool)) : Dec := q.foldl (fun d x => d.get x.1) d
theorem decF_L (bs : List Int) (c : Int) (q : List (Int × Bool)) : decF (Dec.new bs c) q = decL bs c q := rfl
theorem decF_app (d : Dec) (q r : List (Int × Bool)) : decF d (q ++ r) = decF (decF d q) r := by simp [decF]

/-- A decoder tells these bits. -/
def Tells : Dec → List (Int × Bool) → Prop
  | _, [] => True
  | D, x :: q => D.told x.1 = x.2 ∧ Tells (D.get x.1) q
theorem tells_of : ∀ (q : List (Int × Bool)) (D : Dec), (∀ j (h : j < q.length), (decF D (q.take j)).told q[j].1 = q[j].2) → Tells D q
  | [], _, _ => trivial
  | x :: q, D, h => ⟨h 0 (by simp), tells_of q (D.get x.1) fun j hj => by
      have := h (j + 1) (by simp; omega)
      simpa [decF] using this⟩
theorem tells_app : ∀ (q r : List (Int × Bool)) (D : Dec), Tells D (q ++ r) ↔ Tells D q ∧ Tells (decF D q) r
  | [], r, D => by simp [Tells, decF]
  | x :: q, r, D => by
    simp only [List.cons_append, Tells, tells_app q r, and_assoc]
    rfl

/-- The last m digits and what is behind them. -/
def restP (f : List Int) (a : Int) (V n : Nat) : Nat → List (Int × Bool)
  | 0 => if n < 40 then [(folN f n, true)] else []
  | m + 1 => (folN f (n - (m + 1)), false) :: (a, decide ((V + 1) / 2 ^ m % 2 = 1)) :: restP f a V n m
theorem restP_eq (f : List Int) (a : Int) (V n : Nat) : ∀ m, m ≤ n → restP f a V n m = ((List.range m).flatMap fun j => [(folN f (n - m + j), false), (a, decide ((V + 1) / 2 ^ (m - 1 - j) % 2 = 1))]) ++ (if n < 40 then [(folN f n, true)] else [])
  | 0, _ => by simp [restP]
  | m + 1, h => by
    rw [restP, restP_eq f a V n m (by omega), List.range_succ_eq_map, List.flatMap_cons, List.flatMap_map]
    simp only [Nat.add_zero, Nat.add_sub_cancel, Nat.sub_zero, List.cons_append, List.nil_append]
    congr 3
    apply congrArg (fun g => List.flatMap g (List.range m))
    funext j
    rw [show n - (m + 1) + (j + 1) = n - m + j by omega, show m - (j + 1) = m - 1 - j by omega]
theorem steps_rest (f : List Int) (a : Int) (V : Nat) : stepsN f a V = restP f a V (digN V) (digN V) := by
  rw [restP_eq _ _ _ _ _ (Nat.le_refl _), Nat.sub_self]
  unfold stepsN digP
  simp only [Nat.zero_add]

theorem numK_told (f : List Int) (a : Int) (V : Nat) (hn : digN V ≤ 40) : ∀ (m : Nat) (D : Dec), m ≤ digN V → Tells D (restP f a V (digN V) m) →
    numK f a (40 - digN V + m) (digN V - m) D ((V + 1) / 2 ^ m) = (V + 1, decF D (restP f a V (digN V) m))
  | 0, D, _, ht => by
    rw [Nat.pow_zero, Nat.div_one, Nat.sub_zero, Nat.add_zero]
    rw [restP] at ht ⊢
    by_cases h : digN V < 40
    · rw [if_pos h] at ht ⊢
      obtain ⟨k, hk⟩ : ∃ k, 40 - digN V = k + 1 := ⟨40 - digN V - 1, by omega⟩
      rw [hk, numK, ht.1]
      rfl
    · rw [if_neg h, show 40 - digN V = 0 by omega, numK]
      rfl
  | m + 1, D, hm, ht => by
    rw [restP] at ht ⊢
    obtain ⟨t1, t2, t3⟩ := ht
    have ih := numK_told f a V hn m ((D.get (folN f (digN V - (m + 1)))).get a) (by omega) t3
    rw [← Nat.add_assoc, numK, t1]
    simp only
    simp only at t2
    rw [t2]
    have e : (V + 1) / 2 ^ (m + 1) = (V + 1) / 2 ^ m / 2 := by rw [Nat.pow_succ, Nat.div_div_eq_div_mul]
    rw [show digN V - (m + 1) + 1 = digN V - m by omega, e]
    by_cases h : (V + 1) / 2 ^ m % 2 = 1
    · rw [decide_eq_true h]
      simp only
      rw [show 2 * ((V + 1) / 2 ^ m / 2) + 1 = (V + 1) / 2 ^ m by omega, ih]
      rfl
    · rw [decide_eq_false h]
      simp only
      rw [show 2 * ((V + 1) / 2 ^ m / 2) = (V + 1) / 2 ^ m by omega, ih]
      rfl

theorem sgn_told {f : List Int} {a g : Int} {D : Dec} (hr : rightN f a g D.p.length = true) {v : Int} (hv : v.natAbs ≤ 2199023255550) (ht : Tells D (stepsS f a g v)) : D.sgnN f a g = (v, decF D (stepsS f a g v)) := by
  have hd := digN_in hv
  unfold stepsS at ht ⊢
  rw [tells_app] at ht
  obtain ⟨h1, h2⟩ := ht
  have hl := log_in (x := v.natAbs + 1) (by omega)
  have e1 : (v.natAbs + 1) / 2 ^ digN v.natAbs = 1 := by
    have h1 : 2 ^ digN v.natAbs ≤ v.natAbs + 1 := hl.1
    have h2 : v.natAbs + 1 < 2 ^ (digN v.natAbs + 1) := hl.2
    rw [Nat.pow_succ] at h2
    have a1 := (Nat.le_div_iff_mul_le (Nat.two_pow_pos (digN v.natAbs)) (x := 1) (y := v.natAbs + 1)).2 (by omega)
    have a2 := (Nat.div_lt_iff_lt_mul (Nat.two_pow_pos (digN v.natAbs)) (x := v.natAbs + 1) (y := 2)).2 (by omega)
    omega
  have k := numK_told f a v.natAbs hd (digN v.natAbs) D (Nat.le_refl _) (by rw [← steps_rest]; exact h1)
  rw [Nat.sub_self, e1, ← steps_rest, show 40 - digN v.natAbs + digN v.natAbs = 40 by omega] at k
  have kn : D.numN f a g = ((v.natAbs : Int), decF D (stepsN f a v.natAbs)) := by
    unfold Dec.numN
    rw [hr]
    simp only
    rw [k]
    simp
  unfold Dec.sgnN
  rw [kn]
  simp only
  by_cases hz : v = 0
  · subst hz
    simp
  · rw [show decide ((v.natAbs : Int) ≠ 0) = true from decide_eq_true (by omega)]
    rw [if_pos (by simpa using hz)] at h2 ⊢
    simp only
    have t := h2.1
    simp only at t
    rw [t, decF_app]
    by_cases hn : v < 0
    · rw [decide_eq_true hn]
      simp only [Prod.mk.injEq]
      exact ⟨by omega, rfl⟩
    · rw [decide_eq_false hn]
      simp only [Prod.mk.injEq]
      exact ⟨by omega, rfl⟩

set_option maxRecDepth 10000 in
set_option maxHeartbeats 1000000 in
theorem costs_spec (v : Int) (hv0 : -9223372036854775808 ≤ v) (hv1 : v ≤ 9223372036854775807) : CallsF Tryd.prog 8 [iv v] [] (.bool true) [] := by
  have s1 := bputs0_spec (Enc.new 4) rfl (newE_ok 4) (by decide) (by decide) (by decide) (f := [0, 1]) (by decide) 2 3 v hv1
  have hr : rightN [0, 1] 2 3 (Enc.new 4).p.length = true := by decide +kernel
  refine e8 ?_
  conv => whnf
  refine CallsF.call [] [] (first6_spec) rfl rfl rfl rfl rfl (.inl rfl) ?_
  conv => whnf
  refine CallsA.frz [0] ?_
  conv => whnf
  refine CallsF.call [] [] (newE_spec 4) rfl rfl rfl rfl rfl (.inl rfl) ?_
  conv => whnf
  unfold Enc.putS at s1
  cases hm : mayS [0, 1] 2 3 (Enc.new 4).p.length v
  · rw [hm] at s1
    simp only at s1
    rw [hP0_nil (e := Enc.new 4) rfl] at s1
    have hb : v > 2199023255550 ∨ v < -2199023255550 := by
      unfold mayS at hm
      rw [hr] at hm
      simp [mayN] at hm
      omega
    refine CallsF.call [2, 3, 4] [] (s1) rfl rfl rfl rfl rfl (.inl rfl) ?_
    conv => whnf
    refine CallsF.call [2, 3, 4] [] (count0_spec (Enc.new 4).p 0 (Enc.new 4).low (Enc.new 4).size (Enc.new 4).owed) rfl rfl rfl rfl rfl (.inl rfl) ?_
    conv => whnf
    by_cases h1 : v > 2199023255550
    · rw [show decide (v > 2199023255550) = true from decide_eq_true h1]
      conv => whnf
      exact ⟨[], [], rfl, rfl, rfl⟩
    · rw [show decide (v > 2199023255550) = false from decide_eq_false h1]
      conv => whnf
      exact ⟨[], [], rfl, congrArg AV.bool (decide_eq_true (by omega)), rfl⟩
  rw [hm] at s1
  simp only at s1
  have hm2 : ¬ v < -2199023255550 ∧ v.natAbs ≤ 2199023255550 := by
    unfold mayS at hm
    rw [hr] at hm
    simp [mayN] at hm
    omega
  have hlen := stepsS_len [0, 1] 2 3 hm2.2
  have hn := encL_n 4 (stepsS [0, 1] 2 3 v) (by omega) (fun x hx => by rw [hasN_K]; exact steps_has hr v x hx)
  have hsl : (stepsS [0, 1] 2 3 v).length = bitsK (v.natAbs : Int) + (if v ≠ 0 then 1 else 0) := by
    unfold stepsS
    rw [List.length_append, steps_bits _ _ hm2.2]
    split <;> rfl
  rw [encF_L] at s1
  rw [hsl] at hn
  have b80 := bitsK_le hm2.2
  have bh := bitsK_half hm2.2
  have b1 := bitsK_spec (v.natAbs : Int)
  have b2 := bitsK_spec ((v.natAbs / 2 : Nat) : Int)
  generalize encL 4 (stepsS [0, 1] 2 3 v) = E at *
  generalize bitsK (v.natAbs : Int) = B at *
  have ediv : IntKind.wrap .i64 ((v.natAbs : Int).tdiv 2) = ((v.natAbs / 2 : Nat) : Int) := by
    rw [Int.tdiv_eq_ediv_of_nonneg (by omega), wrap_id (by omega) (by omega)]; omega
  by_cases hb : E.bits = []
  · rw [hP0_nil hb] at s1
    refine CallsF.call [2, 3, 4] [] (s1) rfl rfl rfl rfl rfl (.inl rfl) ?_
    conv => whnf
    rw [abs_eq hm2.1 hv1]
    refine CallsF.call [] [] (b1) rfl rfl rfl rfl rfl (.inl rfl) ?_
    conv => whnf
    by_cases hz : v = 0
    · rw [show (v != 0) = false by simp [hz]]
      rw [if_neg (by simp [hz]), Nat.add_zero] at hn
      conv => whnf
      refine CallsF.call [2, 3, 4] [] (count0_spec E.p E.n E.low E.size E.owed) rfl rfl rfl rfl rfl (.inl rfl) ?_
      conv => whnf
      rw [show ((E.n : Int) == (B : Int)) = true by rw [hn]; exact beq_self_eq_true _]
      conv => whnf
      refine CallsF.call [] [] (b1) rfl rfl rfl rfl rfl (.inl rfl) ?_
      conv => whnf
      rw [ediv]
      refine CallsF.call [] [] (b2) rfl rfl rfl rfl rfl (.inl rfl) ?_
      conv => whnf
      rw [show decide ((B : Int) ≥ ((bitsK ((v.natAbs / 2 : Nat) : Int) : Nat) : Int)) = true from decide_eq_true (by omega)]
      conv => whnf
      refine CallsF.call [] [] (b1) rfl rfl rfl rfl rfl (.inl rfl) ?_
      conv => whnf
      exact ⟨[], [], rfl, congrArg AV.bool (decide_eq_true (by omega)), rfl⟩
    · rw [show (v != 0) = true by simp [hz]]
      rw [if_pos (by simp [hz])] at hn
      conv => whnf
      rw [inc_nat (by omega)]
      refine CallsF.call [2, 3, 4] [] (count0_spec E.p E.n E.low E.size E.owed) rfl rfl rfl rfl rfl (.inl rfl) ?_
      conv => whnf
      rw [show ((E.n : Int) == ((B + 1 : Nat) : Int)) = true by rw [hn]; exact beq_self_eq_true _]
      conv => whnf
      refine CallsF.call [] [] (b1) rfl rfl rfl rfl rfl (.inl rfl) ?_
      conv => whnf
      rw [ediv]
      refine CallsF.call [] [] (b2) rfl rfl rfl rfl rfl (.inl rfl) ?_
      conv => whnf
      rw [show decide ((B : Int) ≥ ((bitsK ((v.natAbs / 2 : Nat) : Int) : Nat) : Int)) = true from decide_eq_true (by omega)]
      conv => whnf
      refine CallsF.call [] [] (b1) rfl rfl rfl rfl rfl (.inl rfl) ?_
      conv => whnf
      exact ⟨[], [], rfl, congrArg AV.bool (decide_eq_true (by omega)), rfl⟩
  · rw [hP0_app hb] at s1
    refine CallsF.call [2, 3, 4] [] (s1) rfl rfl rfl rfl rfl (.inl rfl) ?_
    conv => whnf
    rw [abs_eq hm2.1 hv1]
    refine CallsF.call [] [] (b1) rfl rfl rfl rfl rfl (.inl rfl) ?_
    conv => whnf
    by_cases hz : v = 0
    · rw [show (v != 0) = false by simp [hz]]
      rw [if_neg (by simp [hz]), Nat.add_zero] at hn
      conv => whnf
      refine CallsF.call [2, 3, 4, 5] [] (count1_spec E.p E.n E.low E.size E.owed E.bits) rfl rfl rfl rfl rfl (.inl rfl) ?_
      conv => whnf
      rw [show ((E.n : Int) == (B : Int)) = true by rw [hn]; exact beq_self_eq_true _]
      conv => whnf
      refine CallsF.call [] [] (b1) rfl rfl rfl rfl rfl (.inl rfl) ?_
      conv => whnf
      rw [ediv]
      refine CallsF.call [] [] (b2) rfl rfl rfl rfl rfl (.inl rfl) ?_
      conv => whnf
      rw [show decide ((B : Int) ≥ ((bitsK ((v.natAbs / 2 : Nat) : Int) : Nat) : Int)) = true from decide_eq_true (by omega)]
      conv => whnf
      refine CallsF.call [] [] (b1) rfl rfl rfl rfl rfl (.inl rfl) ?_
      conv => whnf
      exact ⟨[], [], rfl, congrArg AV.bool (decide_eq_true (by omega)), rfl⟩
    · rw [show (v != 0) = true by simp [hz]]
      rw [if_pos (by simp [hz])] at hn
      conv => whnf
      rw [inc_nat (by omega)]
      refine CallsF.call [2, 3, 4, 5] [] (count1_spec E.p E.n E.low E.size E.owed E.bits) rfl rfl rfl rfl rfl (.inl rfl) ?_
      conv => whnf
      rw [show ((E.n : Int) == ((B + 1 : Nat) : Int)) = true by rw [hn]; exact beq_self_eq_true _]
      conv => whnf
      refine CallsF.call [] [] (b1) rfl rfl rfl rfl rfl (.inl rfl) ?_
      conv => whnf
      rw [ediv]
      refine CallsF.call [] [] (b2) rfl rfl rfl rfl rfl (.inl rfl) ?_
      conv => whnf
      rw [show decide ((B : Int) ≥ ((bitsK ((v.natAbs / 2 : Nat) : Int) : Nat) : Int)) = true from decide_eq_true (by omega)]
      conv => whnf
      refine CallsF.call [] [] (b1) rfl rfl rfl rfl rfl (.inl rfl) ?_
      conv => whnf
      exact ⟨[], [], rfl, congrArg AV.bool (decide_eq_true (by omega)), rfl⟩

end Go.Proofs.TrydN

