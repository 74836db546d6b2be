/- Law 17: GuessTells. -/
import Derived.Test.YticofpkggbdnpaaN17Q
namespace Go.Proofs.TryN
open Go Go.AL Go.Proofs

theorem vecN_agg (r : Int) (l : List Blk) : ∃ a b : Int, vecN r l = .agg [iv a, iv b] := by
  unfold vecN vecV
  split
  · exact ⟨_, _, rfl⟩
  · split
    · exact ⟨_, _, rfl⟩
    · exact ⟨_, _, rfl⟩

theorem vneq {a b : Int} : (!((a == a) && ((b == b) && true))) = false := by simp

set_option maxRecDepth 10000 in
theorem GuessTells_spec (f : Fld) (x y k : Int) : CallsA Try.prog 3 [f.av, .agg [iv x, iv y], iv k] [] (fun r _ => r = .bool true) := by
  have hv0 := vec_spec f 0 x y
  have hw0 := rvec_spec f 0 x y
  obtain ⟨a0, b0, he0⟩ := vecN_agg 0 (nearL f x y)
  rw [he0] at hv0 hw0
  have hv1 := vec_spec f 1 x y
  have hw1 := rvec_spec f 1 x y
  obtain ⟨a1, b1, he1⟩ := vecN_agg 1 (nearL f x y)
  rw [he1] at hv1 hw1
  have hv2 := vec_spec f 2 x y
  have hw2 := rvec_spec f 2 x y
  obtain ⟨a2, b2, he2⟩ := vecN_agg 2 (nearL f x y)
  rw [he2] at hv2 hw2
  have hv3 := vec_spec f k x y
  have hw3 := rvec_spec f k x y
  obtain ⟨a3, b3, he3⟩ := vecN_agg k (nearL f x y)
  rw [he3] at hv3 hw3
  refine e3 ?_
  conv => whnf
  refine CallsF.call [] [] first17_spec rfl rfl rfl rfl rfl (.inl rfl) ?_
  conv => whnf
  refine ifB_of (fun h1 => ?_) (fun h1 => ?_)
  · conv => whnf
    exact ⟨[], [], rfl, rfl⟩
  conv => whnf
  refine ifB_of (fun h2 => ?_) (fun h2 => ?_)
  · conv => whnf
    exact ⟨[], [], rfl, rfl⟩
  conv => whnf
  refine CallsF.call [] [] (split_spec f k) rfl rfl rfl rfl rfl (.inl rfl) ?_
  conv => whnf
  refine ⟨⟨_, rfl⟩, ?_⟩
  conv => whnf
  refine CallsF.call [] [] (rsplit_spec f k) rfl rfl rfl rfl rfl (.inl rfl) ?_
  conv => whnf
  rw [bne_self_eq_false]
  conv => whnf
  refine CallsF.call [] [] (mode_spec f x y) rfl rfl rfl rfl rfl (.inl rfl) ?_
  conv => whnf
  refine ⟨⟨_, rfl⟩, ?_⟩
  conv => whnf
  refine CallsF.call [] [] (rmode_spec f x y) rfl rfl rfl rfl rfl (.inl rfl) ?_
  conv => whnf
  rw [bne_self_eq_false]
  conv => whnf
  refine CallsF.call [] [] (global_spec f x y) rfl rfl rfl rfl rfl (.inl rfl) ?_
  conv => whnf
  refine ⟨⟨_, rfl⟩, ?_⟩
  conv => whnf
  refine CallsF.call [] [] (rglobal_spec f x y) rfl rfl rfl rfl rfl (.inl rfl) ?_
  conv => whnf
  rw [beq_self_eq_true]
  conv => whnf
  refine LoopA.unroll 5 [3, 7, 8, 57, 58, 59] [0, 2] [] [0, 1] [] (by rfl) ?_
  conv => whnf
  refine CallsF.call [] [] hv0 rfl rfl rfl rfl rfl (.inl rfl) ?_
  conv => whnf
  refine ⟨⟨_, rfl⟩, ?_⟩
  conv => whnf
  refine CallsF.call [] [] hw0 rfl rfl rfl rfl rfl (.inl rfl) ?_
  conv => whnf
  rw [vneq]
  conv => whnf
  refine CallsF.call [] [] (dc_spec f 0 x y) rfl rfl rfl rfl rfl (.inl rfl) ?_
  conv => whnf
  refine ⟨⟨_, rfl⟩, ?_⟩
  conv => whnf
  refine CallsF.call [] [] (rdc_spec f 0 x y) rfl rfl rfl rfl rfl (.inl rfl) ?_
  conv => whnf
  rw [bne_self_eq_false]
  conv => whnf
  refine ⟨rfl, ?_⟩
  conv => whnf
  refine CallsF.call [] [] hv1 rfl rfl rfl rfl rfl (.inl rfl) ?_
  conv => whnf
  refine ⟨⟨_, rfl⟩, ?_⟩
  conv => whnf
  refine CallsF.call [] [] hw1 rfl rfl rfl rfl rfl (.inl rfl) ?_
  conv => whnf
  rw [vneq]
  conv => whnf
  refine CallsF.call [] [] (dc_spec f 1 x y) rfl rfl rfl rfl rfl (.inl rfl) ?_
  conv => whnf
  refine ⟨⟨_, rfl⟩, ?_⟩
  conv => whnf
  refine CallsF.call [] [] (rdc_spec f 1 x y) rfl rfl rfl rfl rfl (.inl rfl) ?_
  conv => whnf
  rw [bne_self_eq_false]
  conv => whnf
  refine ⟨rfl, ?_⟩
  conv => whnf
  refine CallsF.call [] [] hv2 rfl rfl rfl rfl rfl (.inl rfl) ?_
  conv => whnf
  refine ⟨⟨_, rfl⟩, ?_⟩
  conv => whnf
  refine CallsF.call [] [] hw2 rfl rfl rfl rfl rfl (.inl rfl) ?_
  conv => whnf
  rw [vneq]
  conv => whnf
  refine CallsF.call [] [] (dc_spec f 2 x y) rfl rfl rfl rfl rfl (.inl rfl) ?_
  conv => whnf
  refine ⟨⟨_, rfl⟩, ?_⟩
  conv => whnf
  refine CallsF.call [] [] (rdc_spec f 2 x y) rfl rfl rfl rfl rfl (.inl rfl) ?_
  conv => whnf
  rw [bne_self_eq_false]
  conv => whnf
  refine ⟨rfl, ?_⟩
  conv => whnf
  refine CallsF.call [] [] hv3 rfl rfl rfl rfl rfl (.inl rfl) ?_
  conv => whnf
  refine ⟨⟨_, rfl⟩, ?_⟩
  conv => whnf
  refine CallsF.call [] [] hw3 rfl rfl rfl rfl rfl (.inl rfl) ?_
  conv => whnf
  rw [vneq]
  conv => whnf
  refine CallsF.call [] [] (dc_spec f k x y) rfl rfl rfl rfl rfl (.inl rfl) ?_
  conv => whnf
  refine ⟨⟨_, rfl⟩, ?_⟩
  conv => whnf
  refine CallsF.call [] [] (rdc_spec f k x y) rfl rfl rfl rfl rfl (.inl rfl) ?_
  conv => whnf
  rw [bne_self_eq_false]
  conv => whnf
  refine ⟨rfl, ?_⟩
  conv => whnf
  exact ⟨[], [], rfl, rfl⟩
end Go.Proofs.TryN

