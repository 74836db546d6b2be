/- GuessAhead: whatever the input, the call returns true and leaves its arguments as they were; no condition. -/
import Derived.Test.YticofpkggbdnpaaN17U
import Derived.Test.YticofpkggbdnpaaAL21
import Derived.Test.YticofpkggbdnpaaRows
namespace Go.Proofs.Yticofpkggbdnpaa.GuessAhead
open Go.ChangeShapes Go.WideShapes Go.ChangeAt Go.RowKit Go.AL

theorem blks_of {rows : List (List AV)} (h : ∀ r ∈ rows, CT.hasL [.int .i64, .bool, .int .i64, .int .i64, .int .i64, .int .i64, .int .i64, .int .i64, .int .i64] r) : ∃ bs : List TryN.Blk, rows = bs.map TryN.Blk.row := by
  induction rows with
  | nil => exact ⟨[], rfl⟩
  | cons r rs ih =>
    obtain ⟨bs, hb⟩ := ih fun x hx => h x (by simp [hx])
    have hr := h r (by simp)
    simp only [CT.hasL, CT.has] at hr
    obtain ⟨_, _, rfl, ⟨m, rfl, _⟩, _, _, rfl, ⟨g, rfl⟩, _, _, rfl, ⟨x0, rfl, _⟩, _, _, rfl, ⟨y0, rfl, _⟩, _, _, rfl, ⟨x1, rfl, _⟩, _, _, rfl, ⟨y1, rfl, _⟩, _, _, rfl, ⟨d0, rfl, _⟩, _, _, rfl, ⟨d1, rfl, _⟩, _, _, rfl, ⟨d2, rfl, _⟩, rfl⟩ := hr
    exact ⟨⟨m, g, x0, y0, x1, y1, d0, d1, d2⟩ :: bs, by rw [hb]; rfl⟩

theorem wf8 {n : Int} (h : (Lit.int .u8 n).wf = true) : 0 ≤ n ∧ n ≤ 255 := by
  unfold Lit.wf at h
  simp at h
  have e : IntKind.u8.max = 255 := by rfl
  have e' : IntKind.u8.min = 0 := by rfl
  omega

theorem own : ownKnob Try.prog.godebug = none := by kernel_rfl
theorem laidOut : laidOutB Try.prog = true := by kernel_rfl

set_option maxRecDepth 100000 in
theorem lifted (os : Os) (started : os.Started) (H : Type) (enc : TypeId × Value → H) :
    ReturnsInHanded {} Try.checked os 5 .any (Rows.guessAheadSpec.pre6 enc Try.prog Try.f5 Rows.guessAheadRow.domain false) (Rows.guessAheadSpec.post enc Try.prog Try.f5 false true false false) := by
  refine returnsInHanded_of_change (C := Try.checked) own started (by kernel_rfl) Try.func5
    (ChangeSpec.witness6 (enc := enc) (C := Try.checked) false ⟨#[], #[.agg #[.int .i64 0, .int .i64 0, .slice none 0 0, .slice none 0 0], .agg #[.int .u8 0, .int .u8 0], .agg #[.int .i64 0, .bool false, .int .i64 0, .int .i64 0, .int .i64 0, .int .i64 0, .int .i64 0, .int .i64 0, .int .i64 0]], []⟩ 8 (by kernel_rfl) (by kernel_rfl) (by kernel_rfl) (by kernel_rfl)) ?_
  intro W base args ds gs before hval0 hW hcnd _
  have hval : ∀ (j : Nat) t v, Try.f5.params[j]? = some t → args[j]? = some v → Value.okWide Try.prog W .any base t v := hval0
  have hW' := hW
  obtain ⟨p, q, hA0, hV, rfl, hfz, hnd⟩ := hW
  have hA : DataW.TrodAll enc Try.prog W 0 (fun _ => true) true Try.f5.params.toList args.toList ds p := hA0
  rw [Try.params5] at hA hval
  obtain ⟨v0, vs0, d0, ds0, p0, q0, hargs, rfl, rfl, h0, r0⟩ := trodAll_cons hA
  obtain ⟨v1, vs1, d1, ds1, p1, q1, rfl, rfl, rfl, h1, r1⟩ := trodAll_cons r0
  obtain ⟨v2, vs2, d2, ds2, p2, q2, rfl, rfl, rfl, h2, r2⟩ := trodAll_cons r1
  obtain ⟨rfl, rfl, rfl⟩ := trodAll_nil r2
  obtain rfl : args = #[v0, v1, v2] := by cases args; simp_all
  obtain ⟨rfl, rfl⟩ := trodVars_none hV
  obtain ⟨xs0, g0, s0⟩ := arg_agg (n := 12) (l := [.int .i64, .int .i64, .ints .i64, .rows [.int .i64, .bool, .int .i64, .int .i64, .int .i64, .int .i64, .int .i64, .int .i64, .int .i64]]) (by kernel_rfl) (by kernel_rfl) (hval 0 _ v0 rfl rfl) h0
  obtain ⟨xs1, g1, s1⟩ := arg_agg (n := 12) (l := [.int .u8, .int .u8]) (by kernel_rfl) (by kernel_rfl) (hval 1 _ v1 rfl rfl) h1
  obtain ⟨xs2, g2, s2⟩ := arg_agg (n := 12) (l := [.int .i64, .bool, .int .i64, .int .i64, .int .i64, .int .i64, .int .i64, .int .i64, .int .i64]) (by kernel_rfl) (by kernel_rfl) (hval 2 _ v2 rfl rfl) h2
  simp only [CT.hasL, CT.has] at g0 g1 g2
  obtain ⟨_, _, rfl, ⟨a, rfl, _⟩, _, _, rfl, ⟨d, rfl, _⟩, _, _, rfl, ⟨sp, rfl, _⟩, _, _, rfl, ⟨rws, rfl, _, wrws⟩, rfl⟩ := g0
  obtain ⟨_, _, rfl, ⟨p8, rfl, wp8⟩, _, _, rfl, ⟨q8, rfl, wq8⟩, rfl⟩ := g1
  obtain ⟨_, _, rfl, ⟨m, rfl, _⟩, _, _, rfl, ⟨g, rfl⟩, _, _, rfl, ⟨x0, rfl, _⟩, _, _, rfl, ⟨y0, rfl, _⟩, _, _, rfl, ⟨x1, rfl, _⟩, _, _, rfl, ⟨y1, rfl, _⟩, _, _, rfl, ⟨e0, rfl, _⟩, _, _, rfl, ⟨e1, rfl, _⟩, _, _, rfl, ⟨e2, rfl, _⟩, rfl⟩ := g2
  obtain ⟨bs, rfl⟩ := blks_of (by simpa only [CT.hasL, CT.has] using wrws)
  refine (CallsA.law (TryN.GuessAhead_spec ⟨a, d, sp, bs⟩ p8 q8 ⟨m, g, x0, y0, x1, y1, e0, e1, e2⟩ (wf8 wp8) (wf8 wq8)) rfl ?_).mono fun e W' ⟨he, hB⟩ => ⟨_, he, ?_⟩
  · intro i x u hx hu
    match i, hx, hu with
    | 0, hx, hu => simp at hx hu; subst hx hu; exact s0
    | 1, hx, hu => simp at hx hu; subst hx hu; exact s1
    | 2, hx, hu => simp at hx hu; subst hx hu; exact s2
  · exact post_law laidOut (by kernel_rfl) rfl (by kernel_rfl) rfl hW' rfl hB

theorem holds : Rows.GuessAheadSaid :=
  OpenClaim.holds_of_wide 5 Try.f5 rfl rfl rfl rfl rfl rfl rfl ⟨rfl, rfl, rfl, rfl, rfl⟩ rfl rfl rfl rfl rfl (by kernel_rfl) Try.func5 (by kernel_rfl)
    (of_decide_eq_true (by kernel_rfl)) (by unfold Func.isWrapper; first | (rw [if_pos (by decide +kernel)]; kernel_rfl) | (rw [if_neg (by decide +kernel)]; exact ⟨rfl, rfl⟩))
    (fun os started H enc _ => lifted os started H enc)
#print axioms holds
end Go.Proofs.Yticofpkggbdnpaa.GuessAhead

