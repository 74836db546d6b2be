/- Layer 36: do heads and choices fit? The document. -/
import Derived.Test.YthigehjpkpbmcaaAL29
import Derived.Test.YthigehjpkpbmcaaF36
import Derived.Test.YthigehjpkpbmcaaN36L
namespace Go.Proofs.TryN
open Go Go.AL Go.Proofs

theorem fcover_in {n s : Int} (hn : 1 ≤ n ∧ n ≤ 128) (hs : 1 ≤ s ∧ s ≤ 64) : 0 ≤ fcover n s ∧ fcover n s ≤ 128 := by
  unfold fcover
  refine ⟨Int.ediv_nonneg (by omega) (by omega), ?_⟩
  have : (n + 4 * s - 1) / (4 * s) < 129 := (Int.ediv_lt_iff_lt_mul (by omega)).2 (by omega)
  omega

theorem cover24_spec (n s : Int) (hn : 1 ≤ n ∧ n ≤ 128) (hs : 1 ≤ s ∧ s ≤ 64) : CallsF Try.prog 91 [iv n, iv s] [] (iv (fcover n s)) [] := by
  obtain ⟨f1, f2⟩ := fcover_in hn hs
  refine e91 ?_
  conv => whnf
  rw [decide_eq_false (by omega : ¬s < 1)]
  conv => whnf
  rw [decide_eq_false (by omega : ¬s > 256)]
  conv => whnf
  refine LoopA.inv (fun m st => ∃ k : Nat, ((m + k : Nat) : Int) = fcover n s ∧ st = ⟨[(0, iv n), (1, iv s), (5, iv k)], [], 0, 0⟩) (fcover n s).toNat [0, 1, 5] [] [] (by rfl) ?_ ?_
  · conv => whnf
    exact ⟨0, by omega, rfl⟩
  rintro m st ⟨k, hm, rfl⟩
  have hk : 4 * s * (k : Int) ≤ 256 * 128 := Int.mul_le_mul (by omega) (by omega) (by omega) (by omega)
  have hk0 : 0 ≤ 4 * s * (k : Int) := Int.mul_nonneg (by omega) (by omega)
  have e1 : IntKind.wrap .i64 (IntKind.wrap .i64 (4 * s) * (k : Int)) = 4 * s * k := by rw [wrap_id (n := 4 * s) (by omega) (by omega), wrap_id (by omega) (by omega)]
  have hlt : (k : Int) < fcover n s ↔ 4 * s * k < n := by rw [fcover, count_lt (by omega), Int.mul_comm]
  conv => whnf
  rw [e1]
  refine ifB_of (fun h1 => ?_) (fun h1 => ?_)
  · have h1 := of_decide_eq_true h1
    conv => whnf
    refine ⟨m - 1, [0, 1, 5], [], [], by omega, rfl, ?_⟩
    conv => whnf
    rw [inc_nat (by omega)]
    exact ⟨k + 1, by omega, rfl⟩
  · have h1 := of_decide_eq_false h1
    conv => whnf
    have : (k : Int) = fcover n s := by omega
    exact ⟨[], [], rfl, congrArg iv this, rfl⟩

theorem shr_le {l x M : Int} (hM : 0 ≤ M) (h : l ≤ M) (hx : x = 0 ∨ x = 1) : shr l x ≤ M := by
  rcases hx with rfl | rfl
  · rw [shr_zero]; exact h
  · rw [shr_one]; omega

set_option maxRecDepth 10000 in
theorem fits24_spec (w h c b : Int) (rs : List Int) (lx ly sx sy pel : Int) (hv : videoR w h c b = true) (hr : rs = [0] ∨ rs = [0, 1]) (hx : lx ≤ 9223372036854775807) (hy : ly ≤ 9223372036854775807) :
    CallsF Try.prog 100 [vid w h c b, .agg (hdC 9 rs lx ly sx sy pel true)] [] (.bool (fitsH w h c lx ly sx sy pel)) [] := by
  obtain ⟨v1, v2, v3, v4⟩ := videoR_in hv
  have hr' := hr
  refine e100 ?_
  conv => whnf
  refine CallsF.call [] [] (video24_spec w h c b) rfl rfl rfl rfl rfl (.inl rfl) ?_
  conv => whnf
  rw [hv]
  conv => whnf
  refine CallsF.call [] [] (hright23_spec rs lx ly sx sy pel hr hx hy) rfl rfl rfl rfl rfl (.inl rfl) ?_
  conv => whnf
  refine ifB_of (fun h1 => ?_) (fun h1 => ?_)
  · conv => whnf
    refine ⟨[], [], rfl, congrArg AV.bool ?_, rfl⟩
    have h1 : (lapsR lx ly sx sy && inB pel 0 3) = false := by rw [Bool.not_eq_true'] at h1; exact h1
    rw [fitsH, h1]; simp
  have h1 : (lapsR lx ly sx sy && inB pel 0 3) = true := by rw [Bool.not_eq_false'] at h1; exact h1
  have h1' := lapsR_in (Bool.and_eq_true_iff.1 h1).1
  have f1 := fcover_in v1 h1'.1
  have f2 := fcover_in v2 h1'.2
  rcases hr with rfl | rfl
  all_goals
    conv => whnf
    refine LoopA.unroll 4 [2, 3, 5] [0, 1] [] [0, 1] [] (by rfl) ?_
    conv => whnf
    refine CallsF.call [] [] (comp24_spec w h c b 0 _ _ lx ly sx sy pel true hv (by omega)) rfl rfl rfl rfl rfl (.inl rfl) ?_
    conv => whnf
    refine CallsF.call [] [] (laps20_spec (shr lx (hxN 0 c)) (shr ly (hyN 0 c)) (shr sx (hxN 0 c)) (shr sy (hyN 0 c)) (shr_le (by omega) hx (hxN01 _ _)) (shr_le (by omega) hy (hyN01 _ _))) rfl rfl rfl rfl rfl (.inl rfl) ?_
    conv => whnf
    refine ifB_of (fun (h2 : (!compLB lx ly sx sy c 0) = true) => ?_) (fun (h2 : (!compLB lx ly sx sy c 0) = false) => ?_)
    · conv => whnf
      refine ⟨[], [], rfl, congrArg AV.bool ?_, rfl⟩
      have h2 : compLB lx ly sx sy c 0 = false := by simpa using h2
      rw [fitsH, h2]; simp
    have q0 : compLB lx ly sx sy c 0 = true := by simpa using h2
    clear h2
    conv => whnf
    refine ⟨rfl, ?_⟩
    conv => whnf
    refine CallsF.call [] [] (comp24_spec w h c b 1 _ _ lx ly sx sy pel true hv (by omega)) rfl rfl rfl rfl rfl (.inl rfl) ?_
    conv => whnf
    refine CallsF.call [] [] (laps20_spec (shr lx (hxN 1 c)) (shr ly (hyN 1 c)) (shr sx (hxN 1 c)) (shr sy (hyN 1 c)) (shr_le (by omega) hx (hxN01 _ _)) (shr_le (by omega) hy (hyN01 _ _))) rfl rfl rfl rfl rfl (.inl rfl) ?_
    conv => whnf
    refine ifB_of (fun (h2 : (!compLB lx ly sx sy c 1) = true) => ?_) (fun (h2 : (!compLB lx ly sx sy c 1) = false) => ?_)
    · conv => whnf
      refine ⟨[], [], rfl, congrArg AV.bool ?_, rfl⟩
      have h2 : compLB lx ly sx sy c 1 = false := by simpa using h2
      rw [fitsH, h2]; simp
    have q1 : compLB lx ly sx sy c 1 = true := by simpa using h2
    clear h2
    conv => whnf
    refine ⟨rfl, ?_⟩
    conv => whnf
    refine CallsF.call [] [] (comp24_spec w h c b 2 _ _ lx ly sx sy pel true hv (by omega)) rfl rfl rfl rfl rfl (.inl rfl) ?_
    conv => whnf
    refine CallsF.call [] [] (laps20_spec (shr lx (hxN 2 c)) (shr ly (hyN 2 c)) (shr sx (hxN 2 c)) (shr sy (hyN 2 c)) (shr_le (by omega) hx (hxN01 _ _)) (shr_le (by omega) hy (hyN01 _ _))) rfl rfl rfl rfl rfl (.inl rfl) ?_
    conv => whnf
    refine ifB_of (fun (h2 : (!compLB lx ly sx sy c 2) = true) => ?_) (fun (h2 : (!compLB lx ly sx sy c 2) = false) => ?_)
    · conv => whnf
      refine ⟨[], [], rfl, congrArg AV.bool ?_, rfl⟩
      have h2 : compLB lx ly sx sy c 2 = false := by simpa using h2
      rw [fitsH, h2]; simp
    have q2 : compLB lx ly sx sy c 2 = true := by simpa using h2
    clear h2
    conv => whnf
    refine ⟨rfl, ?_⟩
    conv => whnf
    refine CallsF.call [] [] (cover24_spec w sx v1 h1'.1) rfl rfl rfl rfl rfl (.inl rfl) ?_
    conv => whnf
    refine ⟨⟨_, rfl⟩, ?_⟩
    conv => whnf
    refine CallsF.call [] [] (cover24_spec h sy v2 h1'.2) rfl rfl rfl rfl rfl (.inl rfl) ?_
    conv => whnf
    refine ifB_of (fun ha => ?_) (fun ha => ?_)
    · conv => whnf
      refine ⟨[], [], rfl, congrArg AV.bool ?_, rfl⟩
      have : inB (fcover w sx) 1 64 = false := by have := of_decide_eq_true ha; rw [inB, decide_eq_false (by omega)]; rfl
      rw [fitsH, this]; simp
    conv => whnf
    refine ifB_of (fun ha' => ?_) (fun ha' => ?_)
    · conv => whnf
      refine ⟨[], [], rfl, congrArg AV.bool ?_, rfl⟩
      have : inB (fcover w sx) 1 64 = false := by have := of_decide_eq_true ha'; rw [inB, decide_eq_false (p := fcover w sx ≤ 64) (by omega), Bool.and_false]
      rw [fitsH, this]; simp
    conv => whnf
    refine ifB_of (fun hd => ?_) (fun hd => ?_)
    · conv => whnf
      refine ⟨[], [], rfl, congrArg AV.bool ?_, rfl⟩
      have : inB (fcover h sy) 1 64 = false := by have := of_decide_eq_true hd; rw [inB, decide_eq_false (by omega)]; rfl
      rw [fitsH, this]; simp
    conv => whnf
    refine ifB_of (fun hd' => ?_) (fun hd' => ?_)
    · conv => whnf
      refine ⟨[], [], rfl, congrArg AV.bool ?_, rfl⟩
      have : inB (fcover h sy) 1 64 = false := by have := of_decide_eq_true hd'; rw [inB, decide_eq_false (p := fcover h sy ≤ 64) (by omega), Bool.and_false]
      rw [fitsH, this]; simp
    have ha : inB (fcover w sx) 1 64 = true := by have := of_decide_eq_false ha; have := of_decide_eq_false ha'; exact inB_iff.2 (by omega)
    have hd : inB (fcover h sy) 1 64 = true := by have := of_decide_eq_false hd; have := of_decide_eq_false hd'; exact inB_iff.2 (by omega)
    clear ha' hd'
    have hF : fitsH w h c lx ly sx sy pel = ((covB (fcover w sx) (fcover h sy) w h c sx sy 0 && covB (fcover w sx) (fcover h sy) w h c sx sy 1) && covB (fcover w sx) (fcover h sy) w h c sx sy 2) := by rw [fitsH, h1, q0, q1, q2, ha, hd]; simp
    rw [hF]
    clear hF
    have hp : ∀ p, 0 ≤ p ∧ p ≤ 2 → compLB lx ly sx sy c p = true := fun p hp => by rcases three hp with rfl | rfl | rfl <;> assumption
    have ha := inB_iff.1 ha
    have hd := inB_iff.1 hd
    have mul : ∀ x y : Int, 1 ≤ x ∧ x ≤ 64 → 1 ≤ y ∧ y ≤ 64 → IntKind.wrap .i64 (IntKind.wrap .i64 (4 * x) * y) = 4 * x * y := fun x y hx hy => by
      have : 4 * x * y ≤ 256 * 64 := Int.mul_le_mul (by omega) (by omega) (by omega) (by omega)
      have : 0 ≤ 4 * x * y := Int.mul_nonneg (by omega) (by omega)
      rw [wrap_id (n := 4 * x) (by omega) (by omega), wrap_id (by omega) (by omega)]
    generalize fcover w sx = a at *
    generalize fcover h sy = d at *
    conv => whnf
    refine LoopA.unroll 4 [2, 3, 6, 7, 8] [0, 1] [] [0, 1] [] (by rfl) ?_
    conv => whnf
    refine CallsF.call [] [] (comp24_spec w h c b 0 _ _ lx ly sx sy pel true hv (by omega)) rfl rfl rfl rfl rfl (.inl rfl) ?_
    conv => whnf
    refine ifB_of (fun (h1 : decide (IntKind.wrap .i64 (IntKind.wrap .i64 (4 * a) * shr sx (hxN 0 c)) < upN w (hxN 0 c)) = true) => ?_) (fun (h1 : decide (IntKind.wrap .i64 (IntKind.wrap .i64 (4 * a) * shr sx (hxN 0 c)) < upN w (hxN 0 c)) = false) => ?_)
    · conv => whnf
      refine ⟨[], [], rfl, congrArg AV.bool ?_, rfl⟩
      have h1 := of_decide_eq_true h1
      rw [mul _ _ ha (lapsR_in (hp 0 (by omega))).1] at h1
      have : covB a d w h c sx sy 0 = false := by rw [covB, decide_eq_false (by omega)]; rfl
      simp [this]
    conv => whnf
    refine ifB_of (fun (h2 : decide (IntKind.wrap .i64 (IntKind.wrap .i64 (4 * d) * shr sy (hyN 0 c)) < upN h (hyN 0 c)) = true) => ?_) (fun (h2 : decide (IntKind.wrap .i64 (IntKind.wrap .i64 (4 * d) * shr sy (hyN 0 c)) < upN h (hyN 0 c)) = false) => ?_)
    · conv => whnf
      refine ⟨[], [], rfl, congrArg AV.bool ?_, rfl⟩
      have h2 := of_decide_eq_true h2
      rw [mul _ _ hd (lapsR_in (hp 0 (by omega))).2] at h2
      have : covB a d w h c sx sy 0 = false := by rw [covB, decide_eq_false (p := upN h (hyN 0 c) ≤ _) (by omega), Bool.and_false]
      simp [this]
    have r0 : covB a d w h c sx sy 0 = true := by
      have h1 := of_decide_eq_false h1
      have h2 := of_decide_eq_false h2
      rw [mul _ _ ha (lapsR_in (hp 0 (by omega))).1] at h1
      rw [mul _ _ hd (lapsR_in (hp 0 (by omega))).2] at h2
      rw [covB, decide_eq_true (by omega), decide_eq_true (by omega)]; rfl
    clear h1 h2
    conv => whnf
    refine ⟨rfl, ?_⟩
    conv => whnf
    refine CallsF.call [] [] (comp24_spec w h c b 1 _ _ lx ly sx sy pel true hv (by omega)) rfl rfl rfl rfl rfl (.inl rfl) ?_
    conv => whnf
    refine ifB_of (fun (h1 : decide (IntKind.wrap .i64 (IntKind.wrap .i64 (4 * a) * shr sx (hxN 1 c)) < upN w (hxN 1 c)) = true) => ?_) (fun (h1 : decide (IntKind.wrap .i64 (IntKind.wrap .i64 (4 * a) * shr sx (hxN 1 c)) < upN w (hxN 1 c)) = false) => ?_)
    · conv => whnf
      refine ⟨[], [], rfl, congrArg AV.bool ?_, rfl⟩
      have h1 := of_decide_eq_true h1
      rw [mul _ _ ha (lapsR_in (hp 1 (by omega))).1] at h1
      have : covB a d w h c sx sy 1 = false := by rw [covB, decide_eq_false (by omega)]; rfl
      simp [this]
    conv => whnf
    refine ifB_of (fun (h2 : decide (IntKind.wrap .i64 (IntKind.wrap .i64 (4 * d) * shr sy (hyN 1 c)) < upN h (hyN 1 c)) = true) => ?_) (fun (h2 : decide (IntKind.wrap .i64 (IntKind.wrap .i64 (4 * d) * shr sy (hyN 1 c)) < upN h (hyN 1 c)) = false) => ?_)
    · conv => whnf
      refine ⟨[], [], rfl, congrArg AV.bool ?_, rfl⟩
      have h2 := of_decide_eq_true h2
      rw [mul _ _ hd (lapsR_in (hp 1 (by omega))).2] at h2
      have : covB a d w h c sx sy 1 = false := by rw [covB, decide_eq_false (p := upN h (hyN 1 c) ≤ _) (by omega), Bool.and_false]
      simp [this]
    have r1 : covB a d w h c sx sy 1 = true := by
      have h1 := of_decide_eq_false h1
      have h2 := of_decide_eq_false h2
      rw [mul _ _ ha (lapsR_in (hp 1 (by omega))).1] at h1
      rw [mul _ _ hd (lapsR_in (hp 1 (by omega))).2] at h2
      rw [covB, decide_eq_true (by omega), decide_eq_true (by omega)]; rfl
    clear h1 h2
    conv => whnf
    refine ⟨rfl, ?_⟩
    conv => whnf
    refine CallsF.call [] [] (comp24_spec w h c b 2 _ _ lx ly sx sy pel true hv (by omega)) rfl rfl rfl rfl rfl (.inl rfl) ?_
    conv => whnf
    refine ifB_of (fun (h1 : decide (IntKind.wrap .i64 (IntKind.wrap .i64 (4 * a) * shr sx (hxN 2 c)) < upN w (hxN 2 c)) = true) => ?_) (fun (h1 : decide (IntKind.wrap .i64 (IntKind.wrap .i64 (4 * a) * shr sx (hxN 2 c)) < upN w (hxN 2 c)) = false) => ?_)
    · conv => whnf
      refine ⟨[], [], rfl, congrArg AV.bool ?_, rfl⟩
      have h1 := of_decide_eq_true h1
      rw [mul _ _ ha (lapsR_in (hp 2 (by omega))).1] at h1
      have : covB a d w h c sx sy 2 = false := by rw [covB, decide_eq_false (by omega)]; rfl
      simp [this]
    conv => whnf
    refine ifB_of (fun (h2 : decide (IntKind.wrap .i64 (IntKind.wrap .i64 (4 * d) * shr sy (hyN 2 c)) < upN h (hyN 2 c)) = true) => ?_) (fun (h2 : decide (IntKind.wrap .i64 (IntKind.wrap .i64 (4 * d) * shr sy (hyN 2 c)) < upN h (hyN 2 c)) = false) => ?_)
    · conv => whnf
      refine ⟨[], [], rfl, congrArg AV.bool ?_, rfl⟩
      have h2 := of_decide_eq_true h2
      rw [mul _ _ hd (lapsR_in (hp 2 (by omega))).2] at h2
      have : covB a d w h c sx sy 2 = false := by rw [covB, decide_eq_false (p := upN h (hyN 2 c) ≤ _) (by omega), Bool.and_false]
      simp [this]
    have r2 : covB a d w h c sx sy 2 = true := by
      have h1 := of_decide_eq_false h1
      have h2 := of_decide_eq_false h2
      rw [mul _ _ ha (lapsR_in (hp 2 (by omega))).1] at h1
      rw [mul _ _ hd (lapsR_in (hp 2 (by omega))).2] at h2
      rw [covB, decide_eq_true (by omega), decide_eq_true (by omega)]; rfl
    clear h1 h2
    conv => whnf
    refine ⟨rfl, ?_⟩
    conv => whnf
    refine ⟨[], [], rfl, congrArg AV.bool ?_, rfl⟩
    rw [r0, r1, r2]; rfl

set_option maxRecDepth 10000 in
theorem fits31_spec (w h c b n lx ly sx sy pel r l p : Int) (hv : videoR w h c b = true) (hn : n = 1 ∨ n = 2) (hx : lx ≤ 9223372036854775807) (hy : ly ≤ 9223372036854775807) :
    CallsF Try.prog 88 [vid w h c b, iv n, .agg [iv lx, iv ly, iv sx, iv sy, iv pel, iv r, iv l, iv p]] [] (.bool (fitsH w h c lx ly sx sy pel && choiceB r l p)) [] := by
  refine e88 ?_
  conv => whnf
  rw [decide_eq_true (by omega : n ≥ 1)]
  conv => whnf
  rw [decide_eq_true (by omega : n ≤ 2)]
  conv => whnf
  refine CallsF.call [] [] (head31_spec n hn lx ly sx sy pel r l p) rfl rfl rfl rfl rfl (.inl rfl) ?_
  conv => whnf
  refine ⟨⟨_, rfl⟩, ?_⟩
  conv => whnf
  refine CallsF.call [] [] (fits24_spec w h c b _ lx ly sx sy pel hv (by rcases hn with rfl | rfl; exact .inl rfl; exact .inr rfl) hx hy) rfl rfl rfl rfl rfl (.inl rfl) ?_
  conv => whnf
  by_cases h1 : fitsH w h c lx ly sx sy pel = true
  · rw [h1]
    conv => whnf
    iterate 5 (all_goals (try (refine ifB_of (fun _ => ?_) (fun _ => ?_))); all_goals (conv => whnf))
    all_goals (refine ⟨[], [], rfl, congrArg AV.bool ?_, rfl⟩; simp_all [choiceB, inB] <;> omega)
  · have h1 : fitsH w h c lx ly sx sy pel = false := by simpa using h1
    rw [h1]
    conv => whnf
    exact ⟨[], [], rfl, rfl, rfl⟩
end Go.Proofs.TryN

