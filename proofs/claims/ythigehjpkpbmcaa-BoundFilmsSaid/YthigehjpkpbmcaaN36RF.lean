/- BoundFilms: whatever the input, the call returns true and leaves its arguments as they were; no condition. -/
import Derived.Test.YthigehjpkpbmcaaN36R
import Derived.Test.YthigehjpkpbmcaaAL21
import Derived.Test.YthigehjpkpbmcaaRows
namespace Go.Proofs.Ythigehjpkpbmcaa.BoundFilms
open Go.ChangeShapes Go.WideShapes Go.ChangeAt Go.RowKit Go.AL

theorem wf_le {n : Int} (h : (Lit.int .i64 n).wf = true) : n ≤ 9223372036854775807 := by
  unfold Lit.wf at h
  simp at h
  have e : IntKind.i64.max = 9223372036854775807 := by rfl
  omega

theorem own : ownKnob Try.prog.godebug = none := by kernel_rfl
theorem laidOut : laidOutB Try.prog = true := by kernel_rfl

set_option maxRecDepth 100000 in
theorem lifted (os : Os) (started : os.Started) (H : Type) (enc : TypeId × Value → H) :
    ReturnsInHanded {} Try.checked os 8 .any (Rows.boundFilmsSpec.pre6 enc Try.prog Try.f8 Rows.boundFilmsRow.domain false) (Rows.boundFilmsSpec.post enc Try.prog Try.f8 false true false false) := by
  refine returnsInHanded_of_change (C := Try.checked) own started (by kernel_rfl) Try.func8
    (ChangeSpec.witness6 (enc := enc) (C := Try.checked) false ⟨#[], #[.agg #[.int .i64 0, .int .i64 0, .int .i64 0, .int .i64 0, .int .i64 0, .int .i64 0, .int .i64 0, .int .i64 0, .int .i64 0, .int .i64 0, .int .i64 0, .int .i64 0, .int .i64 0, .int .i64 0, .int .i64 0, .int .i64 0, .int .i64 0, .int .i64 0, .int .i64 0, .int .i64 0, .bool false, .int .i64 0, .int .i64 0, .int .i64 0, .int .i64 0, .int .i64 0, .int .i64 0, .int .i64 0, .int .i64 0, .int .i64 0, .int .i64 0, .bool false, .bool false, .int .i64 0, .int .i64 0], .int .i64 0], []⟩ 8 (by kernel_rfl) (by kernel_rfl) (by kernel_rfl) (by kernel_rfl)) ?_
  intro W base args ds gs before hval0 hW hcnd _
  have hval : ∀ (j : Nat) t v, Try.f8.params[j]? = some t → args[j]? = some v → Value.okWide Try.prog W .any base t v := hval0
  have hW' := hW
  obtain ⟨p, q, hA0, hV, rfl, hfz, hnd⟩ := hW
  have hA : DataW.TrodAll enc Try.prog W 0 (fun _ => true) true Try.f8.params.toList args.toList ds p := hA0
  rw [Try.params8] at hA hval
  obtain ⟨v0, vs0, d0, ds0, p0, q0, hargs, rfl, rfl, h0, r0⟩ := trodAll_cons hA
  obtain ⟨v1, vs1, d1, ds1, p1, q1, rfl, rfl, rfl, h1, r1⟩ := trodAll_cons r0
  obtain ⟨rfl, rfl, rfl⟩ := trodAll_nil r1
  obtain rfl : args = #[v0, v1] := by cases args; simp_all
  obtain ⟨rfl, rfl⟩ := trodVars_none hV
  obtain ⟨xs0, g0, s0⟩ := arg_agg (n := 12) (l := [.int .i64, .int .i64, .int .i64, .int .i64, .int .i64, .int .i64, .int .i64, .int .i64, .int .i64, .int .i64, .int .i64, .int .i64, .int .i64, .int .i64, .int .i64, .int .i64, .int .i64, .int .i64, .int .i64, .int .i64, .bool, .int .i64, .int .i64, .int .i64, .int .i64, .int .i64, .int .i64, .int .i64, .int .i64, .int .i64, .int .i64, .bool, .bool, .int .i64, .int .i64]) (by kernel_rfl) (by kernel_rfl) (hval 0 _ v0 rfl rfl) h0
  obtain ⟨x1, g1, s1⟩ := arg_one (n := 9) (l := .int .i64) (by kernel_rfl) (by kernel_rfl) (hval 1 _ v1 rfl rfl) h1
  simp only [CT.hasL, CT.has] at g0 g1
  obtain ⟨_, _, rfl, ⟨w, rfl, _⟩, _, _, rfl, ⟨h, rfl, _⟩, _, _, rfl, ⟨c, rfl, _⟩, _, _, rfl, ⟨b, rfl, _⟩, _, _, rfl, ⟨f, rfl, _⟩, _, _, rfl, ⟨d, rfl, _⟩, _, _, rfl, ⟨a0, rfl, _⟩, _, _, rfl, ⟨a1, rfl, _⟩, _, _, rfl, ⟨a2, rfl, _⟩, _, _, rfl, ⟨a3, rfl, _⟩, _, _, rfl, ⟨a4, rfl, _⟩, _, _, rfl, ⟨a5, rfl, _⟩, _, _, rfl, ⟨a6, rfl, _⟩, _, _, rfl, ⟨b0, rfl, _⟩, _, _, rfl, ⟨b1, rfl, _⟩, _, _, rfl, ⟨b2, rfl, _⟩, _, _, rfl, ⟨b3, rfl, _⟩, _, _, rfl, ⟨b4, rfl, _⟩, _, _, rfl, ⟨b5, rfl, _⟩, _, _, rfl, ⟨b6, rfl, _⟩, _, _, rfl, ⟨m, rfl⟩, _, _, rfl, ⟨lx, rfl, hlx⟩, _, _, rfl, ⟨ly, rfl, hly⟩, _, _, rfl, ⟨sx, rfl, _⟩, _, _, rfl, ⟨sy, rfl, _⟩, _, _, rfl, ⟨pel, rfl, _⟩, _, _, rfl, ⟨r, rfl, _⟩, _, _, rfl, ⟨l, rfl, _⟩, _, _, rfl, ⟨p, rfl, _⟩, _, _, rfl, ⟨gp, rfl, _⟩, _, _, rfl, ⟨gb, rfl, _⟩, _, _, rfl, ⟨gl, rfl⟩, _, _, rfl, ⟨ll, rfl⟩, _, _, rfl, ⟨q, rfl, _⟩, _, _, rfl, ⟨tg, rfl, _⟩, rfl⟩ := g0
  obtain ⟨n, rfl, _⟩ := g1
  refine (CallsA.law (TryN.BoundFilms_spec ⟨w, h, c, b, f, d, [a0, a1, a2, a3, a4, a5, a6], [b0, b1, b2, b3, b4, b5, b6], m, lx, ly, sx, sy, pel, r, l, p, gp, gb, gl, ll, q, tg⟩ n rfl rfl (wf_le hlx) (wf_le hly)) rfl ?_).mono fun e W' ⟨he, hB⟩ => ⟨_, he, ?_⟩
  · intro i x u hx hu
    match i, hx, hu with
    | 0, hx, hu => simp at hx hu; subst hx hu; exact s0
    | 1, hx, hu => simp at hx hu; subst hx hu; exact s1
  · exact post_law laidOut (by kernel_rfl) rfl (by kernel_rfl) rfl hW' rfl hB

theorem holds : Rows.BoundFilmsSaid :=
  OpenClaim.holds_of_wide 8 Try.f8 rfl rfl rfl rfl rfl rfl rfl ⟨rfl, rfl, rfl, rfl, rfl⟩ rfl rfl rfl rfl rfl (by kernel_rfl) Try.func8 (by kernel_rfl)
    (of_decide_eq_true (by kernel_rfl)) (by unfold Func.isWrapper; first | (rw [if_pos (by decide +kernel)]; kernel_rfl) | (rw [if_neg (by decide +kernel)]; exact ⟨rfl, rfl⟩))
    (fun os started H enc _ => lifted os started H enc)
#print axioms holds
end Go.Proofs.Ythigehjpkpbmcaa.BoundFilms

