/- Layer 36: do heads fit? Blocks that cover. -/
import Derived.Test.YthigehjpkpbmcaaAL29
import Derived.Test.YthigehjpkpbmcaaF36
import Derived.Test.YthigehjpkpbmcaaN36J
namespace Go.Proofs.TryN
open Go Go.AL Go.Proofs

theorem count_spec (n s : Int) (hn : 1 ≤ n ∧ n ≤ 128) (hs : 1 ≤ s ∧ s ≤ 64) : CallsF Try.prog 113 [iv n, iv s] [] (iv ((n + s - 1) / s)) [] := by
  refine e113 ?_
  conv => whnf
  rw [decide_eq_false (by omega : ¬n < 1)]
  conv => whnf
  rw [decide_eq_false (by omega : ¬n > 1024)]
  conv => whnf
  rw [decide_eq_false (by omega : ¬s < 1)]
  conv => whnf
  rw [decide_eq_false (by omega : ¬s > 64)]
  conv => whnf
  rw [wrap_id (n := n + s) (by omega) (by omega), wrap_id (n := n + s - 1) (by omega) (by omega)]
  refine need_of ((decide_eq_true (by omega))) ?_
  conv => whnf
  refine ⟨[], [], rfl, congrArg iv ?_, rfl⟩
  have : 0 ≤ (n + s - 1) / s := Int.ediv_nonneg (by omega) (by omega)
  have : (n + s - 1) / s ≤ n + s - 1 := Int.ediv_le_self _ (by omega)
  rw [Int.tdiv_eq_ediv_of_nonneg (by omega), wrap_id (by omega) (by omega)]

theorem count_lt {k n s : Int} (hs : 1 ≤ s) : k < (n + s - 1) / s ↔ k * s < n := by
  have e : k < (n + s - 1) / s ↔ k + 1 ≤ (n + s - 1) / s := by omega
  rw [e, Int.le_ediv_iff_mul_le (by omega), Int.add_mul, Int.one_mul]
  omega

theorem hxN01 (p c : Int) : hxN p c = 0 ∨ hxN p c = 1 := by unfold hxN; split <;> (try split) <;> simp
theorem hyN01 (p c : Int) : hyN p c = 0 ∨ hyN p c = 1 := by unfold hyN; split <;> (try split) <;> simp
theorem upN_in {n x : Int} (h : 1 ≤ n ∧ n ≤ 128) (hx : x = 0 ∨ x = 1) : 1 ≤ upN n x ∧ upN n x ≤ 128 := by
  rcases hx with rfl | rfl
  · rw [upN_zero h]; exact h
  · rw [upN_one h]; omega

def covB (a d w h c sx sy p : Int) : Bool := decide (upN w (hxN p c) ≤ 4 * a * shr sx (hxN p c)) && decide (upN h (hyN p c) ≤ 4 * d * shr sy (hyN p c))

set_option maxRecDepth 10000 in
theorem covers_spec (w h c b num : Int) (rs : List Int) (lx ly sx sy pel : Int) (bare : Bool) (a d : Int) (hv : videoR w h c b = true) (ha : 1 ≤ a ∧ a ≤ 64) (hd : 1 ≤ d ∧ d ≤ 64)
    (hsx : ∀ p, 0 ≤ p ∧ p ≤ 2 → 1 ≤ shr sx (hxN p c) ∧ shr sx (hxN p c) ≤ 64) (hsy : ∀ p, 0 ≤ p ∧ p ≤ 2 → 1 ≤ shr sy (hyN p c) ∧ shr sy (hyN p c) ≤ 64) :
    CallsF Try.prog 107 [vid w h c b, .agg (hdC num rs lx ly sx sy pel bare), iv a, iv d] [] (.bool ((covB a d w h c sx sy 0 && covB a d w h c sx sy 1) && covB a d w h c sx sy 2)) [] := by
  obtain ⟨v1, v2, v3, v4⟩ := videoR_in hv
  have ea : IntKind.wrap .i64 (4 * a) = 4 * a := wrap_id (by omega) (by omega)
  have ed : IntKind.wrap .i64 (4 * d) = 4 * d := wrap_id (by omega) (by omega)
  refine e107 ?_
  conv => whnf
  refine LoopA.unroll 4 [2, 3, 4, 5, 11] [0, 1] [] [0, 1] [] (by rfl) ?_
  conv => whnf
  refine CallsF.call [] [] (rcomp_spec w h c b 0 num rs lx ly sx sy pel bare hv (by omega)) rfl rfl rfl rfl rfl (.inl rfl) ?_
  conv => whnf
  refine CallsF.call [] [] (count_spec (upN w (hxN 0 c)) (shr sx (hxN 0 c)) (upN_in v1 (hxN01 0 c)) (hsx 0 (by omega))) rfl rfl rfl rfl rfl (.inl rfl) ?_
  conv => whnf
  rw [ea]
  refine ifB_of (fun (h1 : decide (4 * a < (upN w (hxN 0 c) + shr sx (hxN 0 c) - 1) / shr sx (hxN 0 c)) = true) => ?_) (fun (h1 : decide (4 * a < (upN w (hxN 0 c) + shr sx (hxN 0 c) - 1) / shr sx (hxN 0 c)) = false) => ?_)
  · conv => whnf
    refine ⟨[], [], rfl, congrArg AV.bool ?_, rfl⟩
    have h1 := (count_lt (hsx 0 (by omega)).1).1 (of_decide_eq_true h1)
    have : covB a d w h c sx sy 0 = false := by rw [covB, decide_eq_false (by omega)]; rfl
    simp [this]
  conv => whnf
  refine CallsF.call [] [] (count_spec (upN h (hyN 0 c)) (shr sy (hyN 0 c)) (upN_in v2 (hyN01 0 c)) (hsy 0 (by omega))) rfl rfl rfl rfl rfl (.inl rfl) ?_
  conv => whnf
  rw [ed]
  refine ifB_of (fun (h2 : decide (4 * d < (upN h (hyN 0 c) + shr sy (hyN 0 c) - 1) / shr sy (hyN 0 c)) = true) => ?_) (fun (h2 : decide (4 * d < (upN h (hyN 0 c) + shr sy (hyN 0 c) - 1) / shr sy (hyN 0 c)) = false) => ?_)
  · conv => whnf
    refine ⟨[], [], rfl, congrArg AV.bool ?_, rfl⟩
    have h2 := (count_lt (hsy 0 (by omega)).1).1 (of_decide_eq_true h2)
    have : covB a d w h c sx sy 0 = false := by rw [covB, decide_eq_false (p := upN h (hyN 0 c) ≤ _) (by omega), Bool.and_false]
    simp [this]
  have q0 : covB a d w h c sx sy 0 = true := by
    have h1 : ¬4 * a * shr sx (hxN 0 c) < upN w (hxN 0 c) := fun z => of_decide_eq_false h1 ((count_lt (hsx 0 (by omega)).1).2 z)
    have h2 : ¬4 * d * shr sy (hyN 0 c) < upN h (hyN 0 c) := fun z => of_decide_eq_false h2 ((count_lt (hsy 0 (by omega)).1).2 z)
    rw [covB, decide_eq_true (by omega), decide_eq_true (by omega)]; rfl
  clear h1 h2
  conv => whnf
  refine ⟨rfl, ?_⟩
  conv => whnf
  refine CallsF.call [] [] (rcomp_spec w h c b 1 num rs lx ly sx sy pel bare hv (by omega)) rfl rfl rfl rfl rfl (.inl rfl) ?_
  conv => whnf
  refine CallsF.call [] [] (count_spec (upN w (hxN 1 c)) (shr sx (hxN 1 c)) (upN_in v1 (hxN01 1 c)) (hsx 1 (by omega))) rfl rfl rfl rfl rfl (.inl rfl) ?_
  conv => whnf
  rw [ea]
  refine ifB_of (fun (h1 : decide (4 * a < (upN w (hxN 1 c) + shr sx (hxN 1 c) - 1) / shr sx (hxN 1 c)) = true) => ?_) (fun (h1 : decide (4 * a < (upN w (hxN 1 c) + shr sx (hxN 1 c) - 1) / shr sx (hxN 1 c)) = false) => ?_)
  · conv => whnf
    refine ⟨[], [], rfl, congrArg AV.bool ?_, rfl⟩
    have h1 := (count_lt (hsx 1 (by omega)).1).1 (of_decide_eq_true h1)
    have : covB a d w h c sx sy 1 = false := by rw [covB, decide_eq_false (by omega)]; rfl
    simp [this]
  conv => whnf
  refine CallsF.call [] [] (count_spec (upN h (hyN 1 c)) (shr sy (hyN 1 c)) (upN_in v2 (hyN01 1 c)) (hsy 1 (by omega))) rfl rfl rfl rfl rfl (.inl rfl) ?_
  conv => whnf
  rw [ed]
  refine ifB_of (fun (h2 : decide (4 * d < (upN h (hyN 1 c) + shr sy (hyN 1 c) - 1) / shr sy (hyN 1 c)) = true) => ?_) (fun (h2 : decide (4 * d < (upN h (hyN 1 c) + shr sy (hyN 1 c) - 1) / shr sy (hyN 1 c)) = false) => ?_)
  · conv => whnf
    refine ⟨[], [], rfl, congrArg AV.bool ?_, rfl⟩
    have h2 := (count_lt (hsy 1 (by omega)).1).1 (of_decide_eq_true h2)
    have : covB a d w h c sx sy 1 = false := by rw [covB, decide_eq_false (p := upN h (hyN 1 c) ≤ _) (by omega), Bool.and_false]
    simp [this]
  have q1 : covB a d w h c sx sy 1 = true := by
    have h1 : ¬4 * a * shr sx (hxN 1 c) < upN w (hxN 1 c) := fun z => of_decide_eq_false h1 ((count_lt (hsx 1 (by omega)).1).2 z)
    have h2 : ¬4 * d * shr sy (hyN 1 c) < upN h (hyN 1 c) := fun z => of_decide_eq_false h2 ((count_lt (hsy 1 (by omega)).1).2 z)
    rw [covB, decide_eq_true (by omega), decide_eq_true (by omega)]; rfl
  clear h1 h2
  conv => whnf
  refine ⟨rfl, ?_⟩
  conv => whnf
  refine CallsF.call [] [] (rcomp_spec w h c b 2 num rs lx ly sx sy pel bare hv (by omega)) rfl rfl rfl rfl rfl (.inl rfl) ?_
  conv => whnf
  refine CallsF.call [] [] (count_spec (upN w (hxN 2 c)) (shr sx (hxN 2 c)) (upN_in v1 (hxN01 2 c)) (hsx 2 (by omega))) rfl rfl rfl rfl rfl (.inl rfl) ?_
  conv => whnf
  rw [ea]
  refine ifB_of (fun (h1 : decide (4 * a < (upN w (hxN 2 c) + shr sx (hxN 2 c) - 1) / shr sx (hxN 2 c)) = true) => ?_) (fun (h1 : decide (4 * a < (upN w (hxN 2 c) + shr sx (hxN 2 c) - 1) / shr sx (hxN 2 c)) = false) => ?_)
  · conv => whnf
    refine ⟨[], [], rfl, congrArg AV.bool ?_, rfl⟩
    have h1 := (count_lt (hsx 2 (by omega)).1).1 (of_decide_eq_true h1)
    have : covB a d w h c sx sy 2 = false := by rw [covB, decide_eq_false (by omega)]; rfl
    simp [this]
  conv => whnf
  refine CallsF.call [] [] (count_spec (upN h (hyN 2 c)) (shr sy (hyN 2 c)) (upN_in v2 (hyN01 2 c)) (hsy 2 (by omega))) rfl rfl rfl rfl rfl (.inl rfl) ?_
  conv => whnf
  rw [ed]
  refine ifB_of (fun (h2 : decide (4 * d < (upN h (hyN 2 c) + shr sy (hyN 2 c) - 1) / shr sy (hyN 2 c)) = true) => ?_) (fun (h2 : decide (4 * d < (upN h (hyN 2 c) + shr sy (hyN 2 c) - 1) / shr sy (hyN 2 c)) = false) => ?_)
  · conv => whnf
    refine ⟨[], [], rfl, congrArg AV.bool ?_, rfl⟩
    have h2 := (count_lt (hsy 2 (by omega)).1).1 (of_decide_eq_true h2)
    have : covB a d w h c sx sy 2 = false := by rw [covB, decide_eq_false (p := upN h (hyN 2 c) ≤ _) (by omega), Bool.and_false]
    simp [this]
  have q2 : covB a d w h c sx sy 2 = true := by
    have h1 : ¬4 * a * shr sx (hxN 2 c) < upN w (hxN 2 c) := fun z => of_decide_eq_false h1 ((count_lt (hsx 2 (by omega)).1).2 z)
    have h2 : ¬4 * d * shr sy (hyN 2 c) < upN h (hyN 2 c) := fun z => of_decide_eq_false h2 ((count_lt (hsy 2 (by omega)).1).2 z)
    rw [covB, decide_eq_true (by omega), decide_eq_true (by omega)]; rfl
  clear h1 h2
  conv => whnf
  refine ⟨rfl, ?_⟩
  conv => whnf
  refine ⟨[], [], rfl, congrArg AV.bool ?_, rfl⟩
  rw [q0, q1, q2]; rfl
end Go.Proofs.TryN

