/- Layer 17: the blocks beside a block, by the document. -/
import Derived.Test.YticofpkggbdnpaaN17D
namespace Go.Proofs.TryN
open Go Go.AL Go.Proofs

theorem here_not {f : Fld} {u v : Int} (h : u < 0 ∨ v < 0) : ¬ f.here u v = true := by
  simp only [Fld.here, inF, Bool.and_eq_true, decide_eq_true_eq]
  omega

set_option maxRecDepth 10000 in
theorem near_spec (f : Fld) (x y : Int) : CallsF Try.prog 19 [f.av, iv x, iv y] [] (.ro 9 ((nearL f x y).map Blk.row)) [] := by
  refine CallsF.le ?_
  refine e19 ?_
  conv => whnf
  refine CallsF.call [] [] (at16_spec f x y) rfl rfl rfl rfl rfl (.inl rfl) ?_
  conv => whnf
  rw [atV]
  cases hh : f.here x y
  · conv => whnf
    exact ⟨[], [], rfl, by rw [nearL, hh]; exact AV.le.snil_o 9, rfl⟩
  obtain ⟨_, k1, k2, k3, k4, k5, k6, k7, k8, k9⟩ := here_in hh
  have w1x : IntKind.wrap .i64 (x - 1) = x - 1 := wrap_id (by omega) (by omega)
  have w1y : IntKind.wrap .i64 (y - 1) = y - 1 := wrap_id (by omega) (by omega)
  conv => whnf
  by_cases hx : 1 ≤ x <;> by_cases hy : 1 ≤ y
  · have en : nearL f x y = [f.at (x - 1) y, f.at x (y - 1), f.at (x - 1) (y - 1)] := by simp [nearL, hh, besL, hx, hy]
    rw [en]
    rw [w1x]
    refine CallsF.call [] [] (at16_spec f (x - 1) y) rfl rfl rfl rfl rfl (.inl rfl) ?_
    conv => whnf
    rw [atV, if_pos (here_near hh (u := (x - 1)) (v := y) (by omega) (by omega))]
    conv => whnf
    rw [w1y]
    refine CallsF.call [] [] (at16_spec f x (y - 1)) rfl rfl rfl rfl rfl (.inl rfl) ?_
    conv => whnf
    rw [atV, if_pos (here_near hh (u := x) (v := (y - 1)) (by omega) (by omega))]
    conv => whnf
    rw [w1x, w1y]
    refine CallsF.call [] [] (at16_spec f (x - 1) (y - 1)) rfl rfl rfl rfl rfl (.inl rfl) ?_
    conv => whnf
    rw [atV, if_pos (here_near hh (u := (x - 1)) (v := (y - 1)) (by omega) (by omega))]
    conv => whnf
    exact ⟨[], [8], rfl, AV.le.of_eq (Eq.trans (b := AV.ro 9 [(f.at (x - 1) y).row, (f.at x (y - 1)).row, (f.at (x - 1) (y - 1)).row]) rfl rfl), rfl⟩
  · have en : nearL f x y = [f.at (x - 1) y] := by simp [nearL, hh, besL, hx, hy]
    rw [en]
    rw [w1x]
    refine CallsF.call [] [] (at16_spec f (x - 1) y) rfl rfl rfl rfl rfl (.inl rfl) ?_
    conv => whnf
    rw [atV, if_pos (here_near hh (u := (x - 1)) (v := y) (by omega) (by omega))]
    conv => whnf
    rw [w1y]
    refine CallsF.call [] [] (at16_spec f x (y - 1)) rfl rfl rfl rfl rfl (.inl rfl) ?_
    conv => whnf
    rw [atV, if_neg (here_not (u := x) (v := (y - 1)) (by omega))]
    conv => whnf
    rw [w1x, w1y]
    refine CallsF.call [] [] (at16_spec f (x - 1) (y - 1)) rfl rfl rfl rfl rfl (.inl rfl) ?_
    conv => whnf
    rw [atV, if_neg (here_not (u := (x - 1)) (v := (y - 1)) (by omega))]
    conv => whnf
    exact ⟨[], [4], rfl, AV.le.of_eq (Eq.trans (b := AV.ro 9 [(f.at (x - 1) y).row]) rfl rfl), rfl⟩
  · have en : nearL f x y = [f.at x (y - 1)] := by simp [nearL, hh, besL, hx, hy]
    rw [en]
    rw [w1x]
    refine CallsF.call [] [] (at16_spec f (x - 1) y) rfl rfl rfl rfl rfl (.inl rfl) ?_
    conv => whnf
    rw [atV, if_neg (here_not (u := (x - 1)) (v := y) (by omega))]
    conv => whnf
    rw [w1y]
    refine CallsF.call [] [] (at16_spec f x (y - 1)) rfl rfl rfl rfl rfl (.inl rfl) ?_
    conv => whnf
    rw [atV, if_pos (here_near hh (u := x) (v := (y - 1)) (by omega) (by omega))]
    conv => whnf
    rw [w1x, w1y]
    refine CallsF.call [] [] (at16_spec f (x - 1) (y - 1)) rfl rfl rfl rfl rfl (.inl rfl) ?_
    conv => whnf
    rw [atV, if_neg (here_not (u := (x - 1)) (v := (y - 1)) (by omega))]
    conv => whnf
    exact ⟨[], [4], rfl, AV.le.of_eq (Eq.trans (b := AV.ro 9 [(f.at x (y - 1)).row]) rfl rfl), rfl⟩
  · have en : nearL f x y = [] := by simp [nearL, hh, besL, hx, hy]
    rw [en]
    rw [w1x]
    refine CallsF.call [] [] (at16_spec f (x - 1) y) rfl rfl rfl rfl rfl (.inl rfl) ?_
    conv => whnf
    rw [atV, if_neg (here_not (u := (x - 1)) (v := y) (by omega))]
    conv => whnf
    rw [w1y]
    refine CallsF.call [] [] (at16_spec f x (y - 1)) rfl rfl rfl rfl rfl (.inl rfl) ?_
    conv => whnf
    rw [atV, if_neg (here_not (u := x) (v := (y - 1)) (by omega))]
    conv => whnf
    rw [w1x, w1y]
    refine CallsF.call [] [] (at16_spec f (x - 1) (y - 1)) rfl rfl rfl rfl rfl (.inl rfl) ?_
    conv => whnf
    rw [atV, if_neg (here_not (u := (x - 1)) (v := (y - 1)) (by omega))]
    conv => whnf
    exact ⟨[], [], rfl, AV.le.snil_o 9, rfl⟩
end Go.Proofs.TryN

