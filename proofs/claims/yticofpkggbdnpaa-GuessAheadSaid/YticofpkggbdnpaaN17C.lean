/- Layer 17: what stands beside. -/
import Derived.Test.YticofpkggbdnpaaN17B
namespace Go.Proofs.TryN
open Go Go.AL Go.Proofs

def besL (x y : Int) : List (Int × Int) := (if 1 ≤ x then [(x - 1, y)] else []) ++ ((if 1 ≤ y then [(x, y - 1)] else []) ++ (if 1 ≤ x ∧ 1 ≤ y then [(x - 1, y - 1)] else []))
def besR (x y : Int) : List (List AV) := (besL x y).map fun p => [iv p.1, iv p.2]

set_option maxRecDepth 10000 in
theorem beside_spec (x y : Int) (h0 : 0 ≤ x ∧ x ≤ 2 ^ 50) (h1 : 0 ≤ y ∧ y ≤ 2 ^ 50) : CallsF Try.prog 21 [iv x, iv y] [] (.ro 2 (besR x y)) [] := by
  have w0x : IntKind.wrap .i64 (x - 0) = x := by rw [Int.sub_zero]; exact wrap_id (by omega) (by omega)
  have w1x : IntKind.wrap .i64 (x - 1) = x - 1 := wrap_id (by omega) (by omega)
  have w0y : IntKind.wrap .i64 (y - 0) = y := by rw [Int.sub_zero]; exact wrap_id (by omega) (by omega)
  have w1y : IntKind.wrap .i64 (y - 1) = y - 1 := wrap_id (by omega) (by omega)
  refine CallsF.le ?_
  refine e21 ?_
  conv => whnf
  by_cases hx : 1 ≤ x <;> by_cases hy : 1 ≤ y
  · refine LoopA.steps 4 [0, 1, 5, 11, 12, 13] [0] [] (by rfl) ?_
    conv => whnf
    refine ifB_of (fun _ => ?_) (fun h => absurd h (by simp; omega))
    conv => whnf
    refine ifB_of (fun _ => ?_) (fun h => absurd h (by simp; omega))
    conv => whnf
    refine pt_of [0, 1, 5, 11, 12, 13] [0, 3] [] (by rfl) ?_
    conv => whnf
    refine ifB_of (fun _ => ?_) (fun h => absurd h (by simp; omega))
    conv => whnf
    refine ifB_of (fun _ => ?_) (fun h => absurd h (by simp; omega))
    conv => whnf
    refine pt_of [0, 1, 5, 11, 12, 13] [0, 4] [] (by rfl) ?_
    conv => whnf
    refine ifB_of (fun _ => ?_) (fun h => absurd h (by simp; omega))
    conv => whnf
    refine ifB_of (fun _ => ?_) (fun h => absurd h (by simp; omega))
    conv => whnf
    refine pt_of [0, 1, 5, 11, 12, 13] [0, 4] [] (by rfl) ?_
    conv => whnf
    exact ⟨[], [1], rfl, AV.le.of_eq (Eq.trans (b := AV.ro 2 [[iv (IntKind.wrap .i64 (x - 1)), iv (IntKind.wrap .i64 (y - 0))], [iv (IntKind.wrap .i64 (x - 0)), iv (IntKind.wrap .i64 (y - 1))], [iv (IntKind.wrap .i64 (x - 1)), iv (IntKind.wrap .i64 (y - 1))]]) rfl (by simp only [besR, besL, hx, hy, w0x, w1x, w0y, w1y]; rfl)), rfl⟩
  · refine LoopA.steps 4 [0, 1, 5, 11, 12, 13] [0] [] (by rfl) ?_
    conv => whnf
    refine ifB_of (fun _ => ?_) (fun h => absurd h (by simp; omega))
    conv => whnf
    refine ifB_of (fun _ => ?_) (fun h => absurd h (by simp; omega))
    conv => whnf
    refine pt_of [0, 1, 5, 11, 12, 13] [0, 3] [] (by rfl) ?_
    conv => whnf
    refine ifB_of (fun _ => ?_) (fun h => absurd h (by simp; omega))
    conv => whnf
    refine ifB_of (fun h => absurd h (by simp; omega)) (fun _ => ?_)
    conv => whnf
    refine pt_of [0, 1, 5, 11, 12, 13] [0, 1] [] (by rfl) ?_
    conv => whnf
    refine ifB_of (fun _ => ?_) (fun h => absurd h (by simp; omega))
    conv => whnf
    refine ifB_of (fun h => absurd h (by simp; omega)) (fun _ => ?_)
    conv => whnf
    refine pt_of [0, 1, 5, 11, 12, 13] [0, 1] [] (by rfl) ?_
    conv => whnf
    exact ⟨[], [1], rfl, AV.le.of_eq (Eq.trans (b := AV.ro 2 [[iv (IntKind.wrap .i64 (x - 1)), iv (IntKind.wrap .i64 (y - 0))]]) rfl (by simp only [besR, besL, hx, hy, w1x, w0y]; rfl)), rfl⟩
  · refine LoopA.steps 4 [0, 1, 5, 11, 12, 13] [0] [] (by rfl) ?_
    conv => whnf
    refine ifB_of (fun h => absurd h (by simp; omega)) (fun _ => ?_)
    conv => whnf
    refine pt_of [0, 1, 5, 11, 12, 13] [0] [] (by rfl) ?_
    conv => whnf
    refine ifB_of (fun _ => ?_) (fun h => absurd h (by simp; omega))
    conv => whnf
    refine ifB_of (fun _ => ?_) (fun h => absurd h (by simp; omega))
    conv => whnf
    refine pt_of [0, 1, 5, 11, 12, 13] [0, 3] [] (by rfl) ?_
    conv => whnf
    refine ifB_of (fun h => absurd h (by simp; omega)) (fun _ => ?_)
    conv => whnf
    refine pt_of [0, 1, 5, 11, 12, 13] [0, 1] [] (by rfl) ?_
    conv => whnf
    exact ⟨[], [1], rfl, AV.le.of_eq (Eq.trans (b := AV.ro 2 [[iv (IntKind.wrap .i64 (x - 0)), iv (IntKind.wrap .i64 (y - 1))]]) rfl (by simp only [besR, besL, hx, hy, w0x, w1y]; rfl)), rfl⟩
  · refine LoopA.steps 4 [0, 1, 5, 11, 12, 13] [0] [] (by rfl) ?_
    conv => whnf
    refine ifB_of (fun h => absurd h (by simp; omega)) (fun _ => ?_)
    conv => whnf
    refine pt_of [0, 1, 5, 11, 12, 13] [0] [] (by rfl) ?_
    conv => whnf
    refine ifB_of (fun _ => ?_) (fun h => absurd h (by simp; omega))
    conv => whnf
    refine ifB_of (fun h => absurd h (by simp; omega)) (fun _ => ?_)
    conv => whnf
    refine pt_of [0, 1, 5, 11, 12, 13] [0] [] (by rfl) ?_
    conv => whnf
    refine ifB_of (fun h => absurd h (by simp; omega)) (fun _ => ?_)
    conv => whnf
    refine pt_of [0, 1, 5, 11, 12, 13] [0] [] (by rfl) ?_
    conv => whnf
    exact ⟨[], [], rfl, by simp [besR, besL, hx, hy]; exact AV.le.snil_o 2, rfl⟩
end Go.Proofs.TryN

