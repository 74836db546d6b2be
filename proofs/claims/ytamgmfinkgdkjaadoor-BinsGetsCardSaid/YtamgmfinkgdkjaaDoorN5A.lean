/- Layer 5: chances, as numbers: the walk of lut. -/
import Derived.Test.YtamgmfinkgdkjaaDoorF56
namespace Go.Proofs.TrydN
open Go Go.AL Go.Proofs


def stepN (i : Int) : Int := i * (i + 384) / 96
def lessN (p : Int) : Int := p - stepN (p / 256)
def moreN (p : Int) : Int := p + stepN (255 - p / 256)

theorem stepN_in {i : Int} (h0 : 0 ≤ i) (h1 : i ≤ 255) : 0 ≤ stepN i ∧ stepN i ≤ 7 * i ∧ i * (i + 384) ≤ 163000 ∧ 0 ≤ i * (i + 384) := by
  have a : i * (i + 384) ≤ i * 639 := Int.mul_le_mul_of_nonneg_left (by omega) h0
  have b : 0 ≤ i * (i + 384) := Int.mul_nonneg h0 (by omega)
  unfold stepN
  omega

/-- A chance that may be. -/
def okP (p : Int) : Prop := 4 ≤ p ∧ p ≤ 65535

theorem lessN_ok {p : Int} (h : okP p) : okP (lessN p) := by
  unfold okP at *
  have := stepN_in (i := p / 256) (by omega) (by omega)
  have := h.1
  unfold lessN
  by_cases h0 : p / 256 = 0
  · rw [h0]; unfold stepN; simp; omega
  · omega
theorem moreN_ok {p : Int} (h : okP p) : okP (moreN p) := by
  unfold okP at *
  have := stepN_in (i := 255 - p / 256) (by omega) (by omega)
  unfold moreN
  omega

theorem lclamp_spec {p : Int} (h0 : 0 ≤ p) (h1 : p ≤ 65535) : CallsF Tryd.prog 90 [iv p] [] (iv p) [] := by
  refine e90 ?_
  conv => whnf
  refine ⟨[], [], rfl, congrArg iv ?_, rfl⟩
  rw [if_neg (by omega), if_neg (by omega)]

theorem step_spec {i : Int} (h0 : 0 ≤ i) (h1 : i ≤ 255) : CallsF Tryd.prog 91 [iv i] [] (iv (stepN i)) [] := by
  obtain ⟨k0, k1, k2, k3⟩ := stepN_in h0 h1
  refine e91 ?_
  conv => whnf
  refine ifB_of (fun h => absurd h (by simp; omega)) (fun _ => ?_)
  conv => whnf
  refine ifB_of (fun h => absurd h (by simp; omega)) (fun _ => ?_)
  conv => whnf
  refine ⟨[], [], rfl, congrArg iv ?_, rfl⟩
  rw [wrap_id (n := i + 384) (by omega) (by omega), wrap_id (n := i * (i + 384)) (by omega) (by omega), Int.tdiv_eq_ediv_of_nonneg k3]
  exact wrap_id (by unfold stepN at *; omega) (by unfold stepN at *; omega)

theorem shr8 {p : Int} : p.fdiv (2 ^ min (Int.toNat 8) IntKind.i64.bits) = p / 256 := Int.fdiv_eq_ediv_of_nonneg p (by decide)
theorem shr16 {p : Int} : p.fdiv (2 ^ min (Int.toNat 16) IntKind.i64.bits) = p / 65536 := Int.fdiv_eq_ediv_of_nonneg p (by decide)

theorem less_spec {p : Int} (h : okP p) : CallsF Tryd.prog 74 [iv p] [] (iv (lessN p)) [] := by
  have k := lessN_ok h
  unfold okP at h k
  refine e74 ?_
  conv => whnf
  refine CallsF.call [] [] (lclamp_spec (p := p) (by omega) (by omega)) rfl rfl rfl rfl rfl (.inl rfl) ?_
  conv => whnf
  rw [shr8]
  refine CallsF.call [] [] (step_spec (i := p / 256) (by omega) (by omega)) rfl rfl rfl rfl rfl (.inl rfl) ?_
  conv => whnf
  refine ⟨[], [], rfl, congrArg iv ?_, rfl⟩
  exact wrap_id (by unfold lessN at k; omega) (by unfold lessN at k; omega)

theorem more_spec {p : Int} (h : okP p) : CallsF Tryd.prog 75 [iv p] [] (iv (moreN p)) [] := by
  have k := moreN_ok h
  unfold okP at h k
  refine e75 ?_
  conv => whnf
  refine CallsF.call [] [] (lclamp_spec (p := p) (by omega) (by omega)) rfl rfl rfl rfl rfl (.inl rfl) ?_
  conv => whnf
  rw [shr8, wrap_id (n := 255 - p / 256) (by omega) (by omega)]
  refine CallsF.call [] [] (step_spec (i := 255 - p / 256) (by omega) (by omega)) rfl rfl rfl rfl rfl (.inl rfl) ?_
  conv => whnf
  refine ⟨[], [], rfl, congrArg iv ?_, rfl⟩
  exact wrap_id (by unfold moreN at k; omega) (by unfold moreN at k; omega)

end Go.Proofs.TrydN

