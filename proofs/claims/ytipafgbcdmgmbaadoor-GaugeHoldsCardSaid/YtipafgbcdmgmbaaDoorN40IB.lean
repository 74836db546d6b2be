/- GaugeHolds: whatever the input, the call returns true and leaves its arguments as they were; no condition. -/
import Derived.Test.YtipafgbcdmgmbaaDoorN40I
import Derived.Test.YtipafgbcdmgmbaaDoorAL20
import Derived.Test.YtipafgbcdmgmbaaDoorTie
import Derived.Test.YtipafgbcdmgmbaaDoorCards
import Derived.LaidMore
import Derived.Lay
import Derived.SevenTiedAt
import Derived.Stop.Joined
namespace Go.Proofs.YtipafgbcdmgmbaaDoor.GaugeHolds
open Go.ChangeShapes Go.WideShapes Go.ChangeAt Go.RowKit Go.AL

theorem ok_of {v : List Int} (h : ∀ n ∈ v, (Lit.int .i64 n).wf = true) : ∀ n ∈ v, TrydN.okI n := by
  intro x hx
  have := h x hx
  unfold Lit.wf at this
  simp at this
  have e : IntKind.i64.max = 9223372036854775807 := by rfl
  have e' : IntKind.i64.min = -9223372036854775808 := by rfl
  unfold TrydN.okI
  omega

theorem wf8 {n : Int} (h : (Lit.int .u8 n).wf = true) : 0 ≤ n ∧ n ≤ 255 := by
  unfold Lit.wf at h
  simp at h
  have e : IntKind.u8.max = 255 := by rfl
  have e' : IntKind.u8.min = 0 := by rfl
  omega


theorem own : ownKnob Tryd.prog.godebug = none := by kernel_rfl
theorem laidOut : laidOutB Tryd.prog = true := by kernel_rfl

set_option maxRecDepth 100000 in
theorem lifted (os : Os) (started : os.Started) (H : Type) (enc : TypeId × Value → H) :
    ReturnsInHanded {} Tryd.checked os 5 .any (fun w args => (Rows.gaugeHoldsSpec.pre enc Tryd.prog Tryd.f5 Rows.gaugeHoldsRow.domain false w args ∧ laidMetH Tryd.prog Rows.gaugeHoldsRow.laid w) ∧ sizedMet enc Tryd.prog Tryd.f5 (OpenSpec.ofChange Rows.gaugeHoldsSpec) false w args) (Rows.gaugeHoldsSpec.post enc Tryd.prog Tryd.f5 false true false false) := by
  refine returnsInHanded_of_change_and (C := Tryd.checked) (X := fun w _ => laidMetH Tryd.prog Rows.gaugeHoldsRow.laid w) (fun _ _ _ hh h => h.of_heap hh) own started (by kernel_rfl) Tryd.func5
    (ChangeSpec.witness_shaped (enc := enc) (C := Tryd.checked) (os := os) (X := fun w _ => laidMetH Tryd.prog Rows.gaugeHoldsRow.laid w) false (World.laidAll Tryd.prog os Rows.gaugeHoldsRow.laid) #[.agg #[.int .i64 0, .int .i64 0, .slice none 0 0], .agg #[.int .i64 0, .int .i64 0, .slice none 0 0], .int .u8 0] 8 (World.laidAll_os _ _ _)
      (World.shaped_of_ZipB (by kernel_rfl) (by kernel_rfl)) (by kernel_rfl) (by kernel_rfl) (by kernel_rfl)
      (by rw [MakeChecks.laidMetH_plain _ _ _ (by kernel_rfl)]; exact laidMet_laidAll _ (by kernel_rfl) (by kernel_rfl))) ?_
  intro W base args ds gs before hval0 hW _ _ _ _
  have hval : ∀ (j : Nat) t v, Tryd.f5.params[j]? = some t → args[j]? = some v → Value.okWide Tryd.prog W .any base t v := hval0
  have hW' := hW
  obtain ⟨p, q, hA0, hV, rfl, hfz, hnd⟩ := hW
  have hA : DataW.TrodAll enc Tryd.prog W 0 (fun _ => true) true Tryd.f5.params.toList args.toList ds p := hA0
  rw [Tryd.params5] at hA hval
  obtain ⟨v0, vs0, d0, ds0, p0, q0, hargs, rfl, rfl, h0, r0⟩ := trodAll_cons hA
  obtain ⟨v1, vs1, d1, ds1, p1, q1, rfl, rfl, rfl, h1, r1⟩ := trodAll_cons r0
  obtain ⟨v2, vs2, d2, ds2, p2, q2, rfl, rfl, rfl, h2, r2⟩ := trodAll_cons r1
  obtain ⟨rfl, rfl, rfl⟩ := trodAll_nil r2
  obtain rfl : args = #[v0, v1, v2] := by cases args; simp_all
  obtain ⟨rfl, rfl⟩ := trodVars_none hV
  obtain ⟨xs0, g0, s0⟩ := arg_agg (n := 12) (l := [.int .i64, .int .i64, .ints .i64]) (by kernel_rfl) (by kernel_rfl) (hval 0 _ v0 rfl rfl) h0
  obtain ⟨xs1, g1, s1⟩ := arg_agg (n := 12) (l := [.int .i64, .int .i64, .ints .i64]) (by kernel_rfl) (by kernel_rfl) (hval 1 _ v1 rfl rfl) h1
  obtain ⟨x2, g2, s2⟩ := arg_one (n := 9) (l := .int .u8) (by kernel_rfl) (by kernel_rfl) (hval 2 _ v2 rfl rfl) h2
  simp only [CT.hasL, CT.has] at g0 g1 g2
  obtain ⟨_, _, rfl, ⟨wp, rfl, _⟩, _, _, rfl, ⟨hp, rfl, _⟩, _, _, rfl, ⟨lp, rfl, mp, op⟩, rfl⟩ := g0
  obtain ⟨_, _, rfl, ⟨wq, rfl, _⟩, _, _, rfl, ⟨hq, rfl, _⟩, _, _, rfl, ⟨lq, rfl, mq, oq⟩, rfl⟩ := g1
  obtain ⟨c8, rfl, w8⟩ := g2
  refine (CallsA.law (CallsA.mono (TrydN.holds_spec wp hp lp wq hq lq c8 (ok_of op) (ok_of oq) (wf8 w8)) fun _ _ h => h.1) rfl ?_).mono fun e W' ⟨he, hB⟩ => ⟨_, he, ?_⟩
  · intro i x u hx hu
    match i, hx, hu with
    | 0, hx, hu => simp at hx hu; subst hx hu; exact s0
    | 1, hx, hu => simp at hx hu; subst hx hu; exact s1
    | 2, hx, hu => simp at hx hu; subst hx hu; exact s2
  · exact post_law laidOut (by kernel_rfl) rfl (by kernel_rfl) rfl hW' rfl hB

theorem row_holds : Rows.GaugeHoldsSaid :=
  OpenClaim.holds_of_wide 5 Tryd.f5 rfl rfl rfl rfl rfl rfl rfl ⟨rfl, rfl, rfl, rfl, rfl⟩ rfl rfl rfl rfl rfl (by kernel_rfl) Tryd.func5 (by kernel_rfl)
    (of_decide_eq_true (by kernel_rfl)) (by unfold Func.isWrapper; first | (rw [if_pos (by decide +kernel)]; kernel_rfl) | (rw [if_neg (by decide +kernel)]; exact ⟨rfl, rfl⟩))
    (fun os started H enc _ => lifted os started H enc)
theorem holds : Rows.GaugeHoldsCardSaid :=
  Claim7.holds_tied_plain_at .later [] [.data, .data, .data] true (true, "a770e75a86bd556b6619f8da9bc5e1ee3c0ec93a99155b636b369219251acf30") false row_holds (fun _ h => by cases h) (by kernel_rfl) (fun _ h => by cases h) gaugeHolds_row_tie rfl ⟨rfl, rfl⟩ (by kernel_rfl) rfl
    (fun f fn hf hfn => by
      obtain rfl : f = 5 := Option.some.inj ((show Tryd.prog.funcNamed "shingle/shinglelaw40.GaugeHolds" = some 5 by kernel_rfl).symm.trans hf) |>.symm
      obtain rfl : fn = Tryd.f5 := (Option.some.inj (Tryd.func5.symm.trans hfn)).symm
      exact ⟨by kernel_rfl, fun j t ht => by
        have hm : t ∈ Tryd.f5.params.toList := Array.mem_toList_iff.2 (Array.mem_of_getElem? ht)
        have hall : (Tryd.f5.params.toList.all fun u => !Tryd.prog.wantsStandIn u) = true := by kernel_rfl
        exact (show Tryd.prog.wantsStandIn t = false by simpa using List.all_eq_true.1 hall t hm)⟩)
    (by kernel_rfl)
#print axioms holds
end Go.Proofs.YtipafgbcdmgmbaaDoor.GaugeHolds

