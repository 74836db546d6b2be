/- Layer 36: BoundTells. -/
import Derived.Test.YthigehjpkpbmcaaAL29
import Derived.Test.YthigehjpkpbmcaaF36
import Derived.Test.YthigehjpkpbmcaaN36R
namespace Go.Proofs.TryN
open Go Go.AL Go.Proofs

set_option maxRecDepth 10000 in
theorem BoundTells_spec (f d : Int) (a b : List Int) (m : Bool) (x y z n : Int) (ha : a.length = 7) (hb : b.length = 7) :
    CallsA Try.prog 7 [sh f d a b m, .agg [iv x, iv y, iv z], iv n] [] (fun r _ => r = .bool true) := by
  obtain ⟨a0, a1, a2, a3, a4, a5, a6, rfl⟩ := len7 ha
  obtain ⟨b0, b1, b2, b3, b4, b5, b6, rfl⟩ := len7 hb
  refine e7 ?_
  conv => whnf
  refine CallsF.call [] [] first36_spec rfl rfl rfl rfl rfl (.inl rfl) ?_
  conv => whnf
  refine CallsF.call [] [] (coder_spec n) rfl rfl rfl rfl rfl (.inl rfl) ?_
  conv => whnf
  refine CallsF.call [] [] (coder36_spec n) rfl rfl rfl rfl rfl (.inl rfl) ?_
  conv => whnf
  rw [beq_self_eq_true]
  conv => whnf
  refine CallsF.call [] [] (band_spec f d _ _ m x y z ha hb) rfl rfl rfl rfl rfl (.inl rfl) ?_
  conv => whnf
  refine ⟨⟨_, rfl⟩, ?_⟩
  conv => whnf
  refine CallsF.call [] [] (band36_spec f d _ _ m x y z ha hb) rfl rfl rfl rfl rfl (.inl rfl) ?_
  conv => whnf
  rw [beq_self_eq_true]
  conv => whnf
  refine CallsF.call [] [] (comp_spec f d _ _ m y z ha hb) rfl rfl rfl rfl rfl (.inl rfl) ?_
  conv => whnf
  refine ⟨⟨_, rfl⟩, ?_⟩
  conv => whnf
  refine CallsF.call [] [] (comp36_spec f d _ _ m y z ha hb) rfl rfl rfl rfl rfl (.inl rfl) ?_
  conv => whnf
  rw [beq_self_eq_true]
  conv => whnf
  refine CallsF.call [] [] (motion_spec n) rfl rfl rfl rfl rfl (.inl rfl) ?_
  conv => whnf
  refine CallsF.call [] [] (motion36_spec n) rfl rfl rfl rfl rfl (.inl rfl) ?_
  conv => whnf
  rw [beq_self_eq_true]
  exact ⟨[], [], rfl, rfl⟩
end Go.Proofs.TryN

