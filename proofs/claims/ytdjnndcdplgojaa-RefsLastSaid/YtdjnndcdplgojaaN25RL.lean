/- RefsLast: whatever the input, the call returns true and leaves its arguments as they were; no condition. -/
import Derived.Test.YtdjnndcdplgojaaN25S
import Derived.Test.YtdjnndcdplgojaaAL20
import Derived.Test.YtdjnndcdplgojaaRows
namespace Go.Proofs.Ytdjnndcdplgojaa.RefsLast
open Go.ChangeShapes Go.WideShapes Go.ChangeAt Go.RowKit Go.AL

theorem wfr {k : IntKind} {n : Int} (h : (Lit.int k n).wf = true) : k.min ≤ n ∧ n ≤ k.max := by
  unfold Lit.wf at h
  simp at h
  omega


theorem own : ownKnob Try.prog.godebug = none := by kernel_rfl
theorem laidOut : laidOutB Try.prog = true := by kernel_rfl

set_option maxRecDepth 100000 in
theorem lifted (os : Os) (started : os.Started) (H : Type) (enc : TypeId × Value → H) :
    ReturnsInHanded {} Try.checked os 5 .any (Rows.refsLastSpec.pre6 enc Try.prog Try.f5 Rows.refsLastRow.domain false) (Rows.refsLastSpec.post enc Try.prog Try.f5 false true false false) := by
  refine returnsInHanded_of_change (C := Try.checked) own started (by kernel_rfl) Try.func5
    (ChangeSpec.witness6 (enc := enc) (C := Try.checked) false ⟨#[], #[.int .u8 0, .int .u16 0], []⟩ 8 (by kernel_rfl) (by kernel_rfl) (by kernel_rfl) (by kernel_rfl)) ?_
  intro W base args ds gs before hval0 hW hcnd _
  have hval : ∀ (j : Nat) t v, Try.f5.params[j]? = some t → args[j]? = some v → Value.okWide Try.prog W .any base t v := hval0
  have hW' := hW
  obtain ⟨p, q, hA0, hV, rfl, hfz, hnd⟩ := hW
  have hA : DataW.TrodAll enc Try.prog W 0 (fun _ => true) true Try.f5.params.toList args.toList ds p := hA0
  rw [Try.params5] at hA hval
  obtain ⟨v0, vs0, d0, ds0, p0, q0, hargs, rfl, rfl, h0, r0⟩ := trodAll_cons hA
  obtain ⟨v1, vs1, d1, ds1, p1, q1, rfl, rfl, rfl, h1, r1⟩ := trodAll_cons r0
  obtain ⟨rfl, rfl, rfl⟩ := trodAll_nil r1
  obtain rfl : args = #[v0, v1] := by cases args; simp_all
  obtain ⟨rfl, rfl⟩ := trodVars_none hV
  obtain ⟨x0, g0, s0⟩ := arg_one (n := 9) (l := .int .u8) (by kernel_rfl) (by kernel_rfl) (hval 0 _ v0 rfl rfl) h0
  obtain ⟨x1, g1, s1⟩ := arg_one (n := 9) (l := .int .u16) (by kernel_rfl) (by kernel_rfl) (hval 1 _ v1 rfl rfl) h1
  simp only [CT.has] at g0 g1
  obtain ⟨n, rfl, wn⟩ := g0
  obtain ⟨f, rfl, wf⟩ := g1
  refine (CallsA.law (CallsA.mono (TryN.last_spec n f (wfr wn) (wfr wf)) fun _ _ h => h.1) ⟨_, Try.func5, by kernel_rfl, by decide +kernel⟩ (TabW.none (by kernel_rfl)) rfl ?_).mono fun e W' ⟨he, hB⟩ => ⟨_, he, ?_⟩
  · intro i x u hx hu
    match i, hx, hu with
    | 0, hx, hu => simp at hx hu; subst hx hu; exact s0
    | 1, hx, hu => simp at hx hu; subst hx hu; exact s1
  · exact post_law laidOut (by kernel_rfl) rfl (by kernel_rfl) rfl hW' rfl hB

theorem holds : Rows.RefsLastSaid :=
  OpenClaim.holds_of_wide 5 Try.f5 rfl rfl rfl rfl rfl rfl rfl ⟨rfl, rfl, rfl, rfl, rfl⟩ rfl rfl rfl rfl rfl (by kernel_rfl) Try.func5 (by kernel_rfl)
    (of_decide_eq_true (by kernel_rfl)) (by unfold Func.isWrapper; first | (rw [if_pos (by decide +kernel)]; kernel_rfl) | (rw [if_neg (by decide +kernel)]; exact ⟨rfl, rfl⟩))
    (fun os started H enc _ => lifted os started H enc)
#print axioms holds
end Go.Proofs.Ytdjnndcdplgojaa.RefsLast

