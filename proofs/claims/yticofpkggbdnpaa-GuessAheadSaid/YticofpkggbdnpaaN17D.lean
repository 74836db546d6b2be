/- Layer 17: the blocks beside a block. -/
import Derived.Test.YticofpkggbdnpaaN17C
namespace Go.Proofs.TryN
open Go Go.AL Go.Proofs

def nearL (f : Fld) (x y : Int) : List Blk := if f.here x y = true then (besL x y).map fun p => f.at p.1 p.2 else []

theorem here_near {f : Fld} {x y u v : Int} (h : f.here x y = true) (hu : 0 ≤ u ∧ u ≤ x) (hv : 0 ≤ v ∧ v ≤ y) : f.here u v = true := by
  simp only [Fld.here, inF, Bool.and_eq_true, decide_eq_true_eq] at h ⊢
  obtain ⟨h1, ⟨h2, h3⟩, h4, h5⟩ := h
  exact ⟨h1, ⟨by omega, by omega⟩, by omega, by omega⟩

theorem idx_at {f : Fld} {u v : Int} (h : f.here u v = true) : ∃ P : Nat, IntKind.wrap .i64 (IntKind.wrap .i64 (IntKind.wrap .i64 (v * 4) * f.a) + u) = (P : Int) ∧ ∃ hP : P < f.bs.length, f.at u v = f.bs[P] := by
  obtain ⟨_, k1, k2, k3, k4, k5, k6, k7, k8, k9⟩ := here_in h
  obtain ⟨P, hP⟩ : ∃ P : Nat, 4 * f.a * v + u = (P : Nat) := ⟨(4 * f.a * v + u).toNat, by omega⟩
  have hPl : P < f.bs.length := by omega
  have e : v * 4 * f.a = 4 * f.a * v := by grind
  refine ⟨P, ?_, hPl, by rw [Fld.at, hP, Int.toNat_natCast]; simp [List.getD_eq_getElem?_getD, hPl]⟩
  rw [wrap_id (n := v * 4) (by omega) (by omega), e, wrap_id (n := 4 * f.a * v) (by omega) (by omega), hP, wrap_id (by omega) (by omega)]

set_option maxRecDepth 10000 in
theorem blocks_spec (f : Fld) (x y : Int) : CallsF Try.prog 24 [f.av, iv x, iv y] [] (.ro 9 ((nearL f x y).map Blk.row)) [] := by
  refine CallsF.le ?_
  refine e24 ?_
  conv => whnf
  refine CallsF.call [] [] (at_spec f x y) rfl rfl rfl rfl rfl (.inl rfl) ?_
  conv => whnf
  rw [atV]
  cases hh : f.here x y
  · conv => whnf
    exact ⟨[], [], rfl, by rw [nearL, hh]; exact AV.le.snil_o 9, rfl⟩
  obtain ⟨_, k1, k2, k3, k4, k5, k6, k7, k8, k9⟩ := here_in hh
  obtain ⟨rows, hr⟩ : ∃ rows, f.bs.map Blk.row = rows := ⟨_, rfl⟩
  have hrow : ∀ (P : Nat) (h : P < f.bs.length), nth rows (P : Int).toNat = some f.bs[P].row := fun P h => by
    rw [Int.toNat_natCast, nth_get, ← hr, List.getElem?_map, List.getElem?_eq_getElem h]; rfl
  conv => whnf
  refine CallsF.call [] [] (beside_spec x y (by omega) (by omega)) rfl rfl rfl rfl rfl (.inl rfl) ?_
  conv => whnf
  by_cases hx : 1 ≤ x <;> by_cases hy : 1 ≤ y
  · have eb : besR x y = [[iv (x - 1), iv y], [iv x, iv (y - 1)], [iv (x - 1), iv (y - 1)]] := by simp [besR, besL, hx, hy]
    have en : nearL f x y = [f.at (x - 1) y, f.at x (y - 1), f.at (x - 1) (y - 1)] := by simp [nearL, hh, besL, hx, hy]
    obtain ⟨P0, e0, hP0, b0⟩ := idx_at (u := (x - 1)) (v := y) (here_near hh (by omega) (by omega))
    obtain ⟨P1, e1, hP1, b1⟩ := idx_at (u := x) (v := (y - 1)) (here_near hh (by omega) (by omega))
    obtain ⟨P2, e2, hP2, b2⟩ := idx_at (u := (x - 1)) (v := (y - 1)) (here_near hh (by omega) (by omega))
    rw [eb, en]
    conv => whnf
    refine LoopA.steps 4 [3, 9, 23, 24, 25] [0] [] (by rfl) ?_
    conv => whnf
    rw [hr, e0, aop_idxS_ro (hrow _ hP0) rfl rfl]
    conv => whnf
    refine pt_of [3, 9, 23, 24, 25] [0, 3] [] (by rfl) ?_
    conv => whnf
    rw [e1, aop_idxS_ro (hrow _ hP1) rfl rfl]
    conv => whnf
    refine pt_of [3, 9, 23, 24, 25] [0, 4] [] (by rfl) ?_
    conv => whnf
    rw [e2, aop_idxS_ro (hrow _ hP2) rfl rfl]
    conv => whnf
    refine pt_of [3, 9, 23, 24, 25] [0, 4] [] (by rfl) ?_
    conv => whnf
    exact ⟨[], [1], rfl, AV.le.of_eq (Eq.trans (b := AV.ro 9 [f.bs[P0].row, f.bs[P1].row, f.bs[P2].row]) rfl (by rw [b0, b1, b2]; rfl)), rfl⟩
  · have eb : besR x y = [[iv (x - 1), iv y]] := by simp [besR, besL, hx, hy]
    have en : nearL f x y = [f.at (x - 1) y] := by simp [nearL, hh, besL, hx, hy]
    obtain ⟨P0, e0, hP0, b0⟩ := idx_at (u := (x - 1)) (v := y) (here_near hh (by omega) (by omega))
    rw [eb, en]
    conv => whnf
    refine LoopA.steps 2 [3, 9, 23, 24, 25] [0] [] (by rfl) ?_
    conv => whnf
    rw [hr, e0, aop_idxS_ro (hrow _ hP0) rfl rfl]
    conv => whnf
    refine pt_of [3, 9, 23, 24, 25] [0, 3] [] (by rfl) ?_
    conv => whnf
    exact ⟨[], [1], rfl, AV.le.of_eq (Eq.trans (b := AV.ro 9 [f.bs[P0].row]) rfl (by rw [b0]; rfl)), rfl⟩
  · have eb : besR x y = [[iv x, iv (y - 1)]] := by simp [besR, besL, hx, hy]
    have en : nearL f x y = [f.at x (y - 1)] := by simp [nearL, hh, besL, hx, hy]
    obtain ⟨P0, e0, hP0, b0⟩ := idx_at (u := x) (v := (y - 1)) (here_near hh (by omega) (by omega))
    rw [eb, en]
    conv => whnf
    refine LoopA.steps 2 [3, 9, 23, 24, 25] [0] [] (by rfl) ?_
    conv => whnf
    rw [hr, e0, aop_idxS_ro (hrow _ hP0) rfl rfl]
    conv => whnf
    refine pt_of [3, 9, 23, 24, 25] [0, 3] [] (by rfl) ?_
    conv => whnf
    exact ⟨[], [1], rfl, AV.le.of_eq (Eq.trans (b := AV.ro 9 [f.bs[P0].row]) rfl (by rw [b0]; rfl)), rfl⟩
  · have eb : besR x y = [] := by simp [besR, besL, hx, hy]
    have en : nearL f x y = [] := by simp [nearL, hh, besL, hx, hy]
    rw [eb, en]
    conv => whnf
    refine LoopA.steps 1 [3, 9, 23, 24, 25] [0] [] (by rfl) ?_
    conv => whnf
    exact ⟨[], [], rfl, AV.le.snil_o 9, rfl⟩
end Go.Proofs.TryN

