/- RefsPlay: whatever the input, the call returns true and leaves its arguments as they were; no condition. -/
import Derived.Test.YtdjnndcdplgojaaN25K
import Derived.Test.YtdjnndcdplgojaaAL20
import Derived.Test.YtdjnndcdplgojaaRows
namespace Go.Proofs.Ytdjnndcdplgojaa.RefsPlay
open Go.ChangeShapes Go.WideShapes Go.ChangeAt Go.RowKit Go.AL

theorem ops_of {rows : List (List AV)} (h : ∀ r ∈ rows, CT.hasL [.int .i64, .int .i64, .int .i64] r) : ∃ L : List TryN.Op, rows = L.map TryN.Op.row := by
  induction rows with
  | nil => exact ⟨[], rfl⟩
  | cons r rs ih =>
    obtain ⟨fs, hb⟩ := ih fun x hx => h x (by simp [hx])
    have hr := h r (by simp)
    simp only [CT.hasL, CT.has] at hr
    obtain ⟨_, _, rfl, ⟨k, rfl, _⟩, _, _, rfl, ⟨n, rfl, _⟩, _, _, rfl, ⟨v, rfl, _⟩, rfl⟩ := hr
    exact ⟨⟨k, n, v⟩ :: fs, by rw [hb]; rfl⟩


theorem own : ownKnob Try.prog.godebug = none := by kernel_rfl
theorem laidOut : laidOutB Try.prog = true := by kernel_rfl

set_option maxRecDepth 100000 in
theorem lifted (os : Os) (started : os.Started) (H : Type) (enc : TypeId × Value → H) :
    ReturnsInHanded {} Try.checked os 3 .any (Rows.refsPlaySpec.pre6 enc Try.prog Try.f3 Rows.refsPlayRow.domain false) (Rows.refsPlaySpec.post enc Try.prog Try.f3 false true false false) := by
  refine returnsInHanded_of_change (C := Try.checked) own started (by kernel_rfl) Try.func3
    (ChangeSpec.witness6 (enc := enc) (C := Try.checked) false ⟨#[], #[.slice none 0 0], []⟩ 8 (by kernel_rfl) (by kernel_rfl) (by kernel_rfl) (by kernel_rfl)) ?_
  intro W base args ds gs before hval0 hW hcnd _
  have hval : ∀ (j : Nat) t v, Try.f3.params[j]? = some t → args[j]? = some v → Value.okWide Try.prog W .any base t v := hval0
  have hW' := hW
  obtain ⟨p, q, hA0, hV, rfl, hfz, hnd⟩ := hW
  have hA : DataW.TrodAll enc Try.prog W 0 (fun _ => true) true Try.f3.params.toList args.toList ds p := hA0
  rw [Try.params3] at hA hval
  obtain ⟨v0, vs0, d0, ds0, p0, q0, hargs, rfl, rfl, h0, r0⟩ := trodAll_cons hA
  obtain ⟨rfl, rfl, rfl⟩ := trodAll_nil r0
  obtain rfl : args = #[v0] := by cases args; simp_all
  obtain ⟨rfl, rfl⟩ := trodVars_none hV
  obtain ⟨x0, g0, s0⟩ := arg_one (n := 9) (l := .rows [.int .i64, .int .i64, .int .i64]) (by kernel_rfl) (by kernel_rfl) (hval 0 _ v0 rfl rfl) h0
  simp only [CT.hasL, CT.has] at g0
  obtain ⟨rws, rfl, mx, wr⟩ := g0
  obtain ⟨L, rfl⟩ := ops_of (by simpa only [CT.hasL, CT.has] using wr)
  refine (CallsA.law (CallsA.mono (TryN.play_spec L (by rw [List.length_map] at mx; unfold maxLen at mx; omega)) fun _ _ h => h.1) ⟨_, Try.func3, by kernel_rfl, by decide +kernel⟩ (TabW.none (by kernel_rfl)) rfl ?_).mono fun e W' ⟨he, hB⟩ => ⟨_, he, ?_⟩
  · intro i x u hx hu
    match i, hx, hu with
    | 0, hx, hu => simp at hx hu; subst hx hu; exact s0
  · exact post_law laidOut (by kernel_rfl) rfl (by kernel_rfl) rfl hW' rfl hB

theorem holds : Rows.RefsPlaySaid :=
  OpenClaim.holds_of_wide 3 Try.f3 rfl rfl rfl rfl rfl rfl rfl ⟨rfl, rfl, rfl, rfl, rfl⟩ rfl rfl rfl rfl rfl (by kernel_rfl) Try.func3 (by kernel_rfl)
    (of_decide_eq_true (by kernel_rfl)) (by unfold Func.isWrapper; first | (rw [if_pos (by decide +kernel)]; kernel_rfl) | (rw [if_neg (by decide +kernel)]; exact ⟨rfl, rfl⟩))
    (fun os started H enc _ => lifted os started H enc)
#print axioms holds
end Go.Proofs.Ytdjnndcdplgojaa.RefsPlay

