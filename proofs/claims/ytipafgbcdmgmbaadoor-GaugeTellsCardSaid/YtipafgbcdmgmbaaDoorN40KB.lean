/- GaugeTells: whatever the input, the call returns true and leaves its arguments as they were; no condition. -/
import Derived.Test.YtipafgbcdmgmbaaDoorN40K
import Derived.Test.YtipafgbcdmgmbaaDoorAL20
import Derived.Test.YtipafgbcdmgmbaaDoorTie
import Derived.Test.YtipafgbcdmgmbaaDoorCards
import Derived.LaidMore
import Derived.Lay
import Derived.SevenTiedAt
import Derived.Stop.Joined
namespace Go.Proofs.YtipafgbcdmgmbaaDoor.GaugeTells
open Go.ChangeShapes Go.WideShapes Go.ChangeAt Go.RowKit Go.AL

theorem ok_of {v : List Int} (h : ∀ n ∈ v, (Lit.int .i64 n).wf = true) : ∀ n ∈ v, TrydN.okI n := by
  intro x hx
  have := h x hx
  unfold Lit.wf at this
  simp at this
  have e : IntKind.i64.max = 9223372036854775807 := by rfl
  have e' : IntKind.i64.min = -9223372036854775808 := by rfl
  unfold TrydN.okI
  omega

theorem frs_of {rows : List (List AV)} (h : ∀ r ∈ rows, CT.hasL [.int .i64, .int .i64, .ints .i64, .int .i64, .int .i64, .ints .i64, .int .i64, .int .i64, .ints .i64] r) : ∃ fs : List TrydN.Fr, rows = fs.map TrydN.Fr.row ∧ ∀ f ∈ fs, f.ok := by
  induction rows with
  | nil => exact ⟨[], rfl, fun f hf => by cases hf⟩
  | cons r rs ih =>
    obtain ⟨fs, hb, hok⟩ := ih fun x hx => h x (by simp [hx])
    have hr := h r (by simp)
    simp only [CT.hasL, CT.has] at hr
    obtain ⟨_, _, rfl, ⟨w0, rfl, _⟩, _, _, rfl, ⟨h0, rfl, _⟩, _, _, rfl, ⟨l0, rfl, m0, o0⟩, _, _, rfl, ⟨w1, rfl, _⟩, _, _, rfl, ⟨h1, rfl, _⟩, _, _, rfl, ⟨l1, rfl, m1, o1⟩, _, _, rfl, ⟨w2, rfl, _⟩, _, _, rfl, ⟨h2, rfl, _⟩, _, _, rfl, ⟨l2, rfl, m2, o2⟩, rfl⟩ := hr
    refine ⟨⟨⟨w0, h0, l0⟩, ⟨w1, h1, l1⟩, ⟨w2, h2, l2⟩⟩ :: fs, by rw [hb]; rfl, fun f hf => ?_⟩
    rcases List.mem_cons.1 hf with rfl | hf
    · exact ⟨ok_of o0, ok_of o1, ok_of o2⟩
    · exact hok f hf


theorem own : ownKnob Tryd.prog.godebug = none := by kernel_rfl
theorem laidOut : laidOutB Tryd.prog = true := by kernel_rfl

set_option maxRecDepth 100000 in
theorem lifted (os : Os) (started : os.Started) (H : Type) (enc : TypeId × Value → H) :
    ReturnsInHanded {} Tryd.checked os 6 .any (fun w args => (Rows.gaugeTellsSpec.pre enc Tryd.prog Tryd.f6 Rows.gaugeTellsRow.domain false w args ∧ laidMetH Tryd.prog Rows.gaugeTellsRow.laid w) ∧ sizedMet enc Tryd.prog Tryd.f6 (OpenSpec.ofChange Rows.gaugeTellsSpec) false w args) (Rows.gaugeTellsSpec.post enc Tryd.prog Tryd.f6 false true false false) := by
  refine returnsInHanded_of_change_and (C := Tryd.checked) (X := fun w _ => laidMetH Tryd.prog Rows.gaugeTellsRow.laid w) (fun _ _ _ hh h => h.of_heap hh) own started (by kernel_rfl) Tryd.func6
    (ChangeSpec.witness_shaped (enc := enc) (C := Tryd.checked) (os := os) (X := fun w _ => laidMetH Tryd.prog Rows.gaugeTellsRow.laid w) false (World.laidAll Tryd.prog os Rows.gaugeTellsRow.laid) #[.slice none 0 0, .slice none 0 0] 8 (World.laidAll_os _ _ _)
      (World.shaped_of_ZipB (by kernel_rfl) (by kernel_rfl)) (by kernel_rfl) (by kernel_rfl) (by kernel_rfl)
      (by rw [MakeChecks.laidMetH_plain _ _ _ (by kernel_rfl)]; exact laidMet_laidAll _ (by kernel_rfl) (by kernel_rfl))) ?_
  intro W base args ds gs before hval0 hW _ _ _ _
  have hval : ∀ (j : Nat) t v, Tryd.f6.params[j]? = some t → args[j]? = some v → Value.okWide Tryd.prog W .any base t v := hval0
  have hW' := hW
  obtain ⟨p, q, hA0, hV, rfl, hfz, hnd⟩ := hW
  have hA : DataW.TrodAll enc Tryd.prog W 0 (fun _ => true) true Tryd.f6.params.toList args.toList ds p := hA0
  rw [Tryd.params6] at hA hval
  obtain ⟨v0, vs0, d0, ds0, p0, q0, hargs, rfl, rfl, h0, r0⟩ := trodAll_cons hA
  obtain ⟨v1, vs1, d1, ds1, p1, q1, rfl, rfl, rfl, h1, r1⟩ := trodAll_cons r0
  obtain ⟨rfl, rfl, rfl⟩ := trodAll_nil r1
  obtain rfl : args = #[v0, v1] := by cases args; simp_all
  obtain ⟨rfl, rfl⟩ := trodVars_none hV
  obtain ⟨x0, g0, s0⟩ := arg_one (n := 9) (l := .rows [.int .i64, .int .i64, .ints .i64, .int .i64, .int .i64, .ints .i64, .int .i64, .int .i64, .ints .i64]) (by kernel_rfl) (by kernel_rfl) (hval 0 _ v0 rfl rfl) h0
  obtain ⟨x1, g1, s1⟩ := arg_one (n := 9) (l := .rows [.int .i64, .int .i64, .ints .i64, .int .i64, .int .i64, .ints .i64, .int .i64, .int .i64, .ints .i64]) (by kernel_rfl) (by kernel_rfl) (hval 1 _ v1 rfl rfl) h1
  simp only [CT.hasL, CT.has] at g0 g1
  obtain ⟨rwsa, rfl, mxa, wra⟩ := g0
  obtain ⟨rwsb, rfl, mxb, wrb⟩ := g1
  obtain ⟨fs, rfl, hfs⟩ := frs_of (by simpa only [CT.hasL, CT.has] using wra)
  obtain ⟨gs, rfl, hgs⟩ := frs_of (by simpa only [CT.hasL, CT.has] using wrb)
  refine (CallsA.law (CallsA.mono (TrydN.tells_spec fs gs (by rw [List.length_map] at mxa; unfold maxLen at mxa; omega) (by rw [List.length_map] at mxb; unfold maxLen at mxb; omega) hfs hgs) fun _ _ h => h.1) rfl ?_).mono fun e W' ⟨he, hB⟩ => ⟨_, he, ?_⟩
  · intro i x u hx hu
    match i, hx, hu with
    | 0, hx, hu => simp at hx hu; subst hx hu; exact s0
    | 1, hx, hu => simp at hx hu; subst hx hu; exact s1
  · exact post_law laidOut (by kernel_rfl) rfl (by kernel_rfl) rfl hW' rfl hB

theorem row_holds : Rows.GaugeTellsSaid :=
  OpenClaim.holds_of_wide 6 Tryd.f6 rfl rfl rfl rfl rfl rfl rfl ⟨rfl, rfl, rfl, rfl, rfl⟩ rfl rfl rfl rfl rfl (by kernel_rfl) Tryd.func6 (by kernel_rfl)
    (of_decide_eq_true (by kernel_rfl)) (by unfold Func.isWrapper; first | (rw [if_pos (by decide +kernel)]; kernel_rfl) | (rw [if_neg (by decide +kernel)]; exact ⟨rfl, rfl⟩))
    (fun os started H enc _ => lifted os started H enc)
theorem holds : Rows.GaugeTellsCardSaid :=
  Claim7.holds_tied_plain_at .later [] [.data, .data, .data] true (true, "a770e75a86bd556b6619f8da9bc5e1ee3c0ec93a99155b636b369219251acf30") false row_holds (fun _ h => by cases h) (by kernel_rfl) (fun _ h => by cases h) gaugeTells_row_tie rfl ⟨rfl, rfl⟩ (by kernel_rfl) rfl
    (fun f fn hf hfn => by
      obtain rfl : f = 6 := Option.some.inj ((show Tryd.prog.funcNamed "shingle/shinglelaw40.GaugeTells" = some 6 by kernel_rfl).symm.trans hf) |>.symm
      obtain rfl : fn = Tryd.f6 := (Option.some.inj (Tryd.func6.symm.trans hfn)).symm
      exact ⟨by kernel_rfl, fun j t ht => by
        have hm : t ∈ Tryd.f6.params.toList := Array.mem_toList_iff.2 (Array.mem_of_getElem? ht)
        have hall : (Tryd.f6.params.toList.all fun u => !Tryd.prog.wantsStandIn u) = true := by kernel_rfl
        exact (show Tryd.prog.wantsStandIn t = false by simpa using List.all_eq_true.1 hall t hm)⟩)
    (by kernel_rfl)
#print axioms holds
end Go.Proofs.YtipafgbcdmgmbaaDoor.GaugeTells

