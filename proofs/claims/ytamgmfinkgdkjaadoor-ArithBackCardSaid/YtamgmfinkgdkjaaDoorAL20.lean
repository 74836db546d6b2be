/- A law's row: from what a call comes to, to the row's 'post'. Seat-independent. -/
import Derived.Test.YtamgmfinkgdkjaaDoorAL19
import Derived.ProofKit
import Derived.WalkKit
import Derived.OpenShut
namespace Go.AL
open Go.ChangeShapes Go.WideShapes Go.ChangeAt Go.RowKit
variable {P : Program} {H : Type} {enc : TypeId × Value → H}

/-- From a world: all that is there stays as it is. -/
theorem CallsA.law {f : FuncId} {xs : List AV} {b : Bool} (h : CallsA P f xs [] fun r _ => r = .bool b) {vs : Array Value} {w : World} (hl : xs.length = vs.size)
    (hr : ∀ (i : Nat) x v, xs[i]? = some x → vs[i]? = some v → Go.AL.Rel w (fun b => b < w.heap.size) .nil x v) :
    Calls P f vs w fun e w' => e = .returned (.bool b) ∧ Below w.heap.size w w' := by
  have H0 : HRel ⟨w, fun b => b < w.heap.size, .nil⟩ [] :=
    ⟨rfl, rfl, fun k b hb => by simp at hb, fun k k' b b' cb base base' hb => by simp at hb, fun b hb => hb⟩
  refine (h.2 _ vs H0 hl hr).mono ?_
  rintro e w' ⟨v, r, h', E', rfl, rfl, rfl, X, _, hv⟩
  cases hv
  exact ⟨rfl, X.os, X.tape, X.output, X.size, fun k hk => X.same k hk fun ⟨i, base, p, h1, _⟩ => by simp [Shp.nil] at h1⟩

/-- Each type can be read and is a row of the table. -/
def rowed (P : Program) (ts : List TypeId) : Bool := ts.all fun t => P.readableRec t && decide (t < P.types.size)

theorem trodAll_stays (hl : laidOutB P = true) {W W' : World} (hb : Below W.heap.size W W') {sp : Nat → Bool} : ∀ {ts : List TypeId} {vs : List Value} {ds : List (DataW H)} {ps : List MemPlace},
    rowed P ts = true → DataW.TrodAll enc P W 0 (fun _ => true) true ts vs ds ps → (∀ p ∈ ps, sp p.block = true) → DataW.TrodAll enc P W' 0 sp true ts vs ds ps
  | [], vs, ds, ps, _, h, _ => by
    obtain ⟨rfl, rfl, rfl⟩ := trodAll_nil h
    exact trodAll_mk0
  | t :: ts, vs, ds, ps, hr, h, hs => by
    have hlt := h.lt
    obtain ⟨v, vs, d, ds, p, q, rfl, rfl, rfl, h0, h1⟩ := trodAll_cons h
    simp only [rowed, List.all_cons, Bool.and_eq_true, decide_eq_true_eq] at hr
    refine trodAll_cons_mk (WideElems.Trod_stays hl hr.1.1 hr.1.2 h0 (fun x hx => hb.same (hlt x (List.mem_append.2 (.inl hx)))) (fun x hx => hs x (List.mem_append.2 (.inl hx)))) ?_
    exact trodAll_stays hl hb hr.2 h1 fun x hx => hs x (List.mem_append.2 (.inr hx))

/-- The row's 'post' of a law that answers true and leaves all as it was. -/
theorem post_law {f : Func} {s : ChangeSpec} {apart fresh handsOn again : Bool} {W W' : World} {args : Array Value} {ds : List (DataW H)} {before : List MemPlace} {tb : TypeId}
    (hl : laidOutB P = true) (hp : rowed P f.params.toList = true) (hres : f.resultTypes = #[tb]) (hb : P.underlying tb = some .bool) (hvars : s.vars = [])
    (hW : DataW.Whole enc P f.params.toList s.vars apart W args.toList ds [] before) (hfn : s.fn H (ds ++ []) = { results := [.lit (.bool true)], args := ds })
    (hB : Below W.heap.size W W') : s.post enc P f apart fresh handsOn again W args (.bool true) W' := by
  have hlt := hW.lt
  obtain ⟨p, q, hA, hV, rfl, hz, hn⟩ := hW
  have hV0 := hV
  rw [hvars] at hV
  obtain ⟨_, rfl⟩ := trodVars_none hV
  have hW0 : DataW.Whole enc P f.params.toList s.vars apart W args.toList ds [] (p ++ []) := ⟨p, [], hA, hV0, rfl, hz, hn⟩
  have hlp : ∀ x ∈ p, x.block < W.heap.size := fun x hx => hlt x (List.mem_append.2 (.inl hx))
  have hrl : (Value.bool true).resultList f.resultTypes.size = [.bool true] := by rw [hres]; rfl
  have hV' : ∀ sp, DataW.TrodVars enc P W' sp s.vars [] [] := fun sp => by rw [hvars]; trivial
  have hR : ∀ (b : Nat) (sp : Nat → Bool) (hd : Bool), DataW.TrodAll enc P W' b sp hd f.resultTypes.toList ((Value.bool true).resultList f.resultTypes.size) [DataW.lit (.bool true)] [] := fun b sp hd => by
    rw [hrl, hres]
    exact trodAll_cons_mk (shut_bool hb _) trodAll_mk0
  refine ⟨ds, [], p ++ [], [], p, [], hW0, ?_, ?_, ?_, ?_, fun _ => ⟨?_, ?_⟩⟩
  · rw [hfn]; exact hR _ _ _
  · rw [hfn]; exact trodAll_stays hl hB hp hA fun x hx => by simpa using hlp x hx
  · rw [hfn]; exact hV' _
  · exact hB.frame _
  · intro j t r h1 h2
    rw [hres] at h1
    rw [hrl] at h2
    cases j with
    | zero => simp at h1 h2; subst h1 h2; exact okWide_bool_mk hb _
    | succ j => simp at h1
  · refine ⟨[DataW.lit (.bool true)] ++ ds, [], p ++ [], ⟨p, [], ?_, hV' _, rfl, ?_, hn⟩, fun x hx _ => hx⟩
    · exact trodAll_append (trodAll_stays (sp := fun _ => true) hl hB hp hA fun _ _ => rfl) (hR _ (fun _ => true) _)
    · intro b off hx
      rw [hB.frozen (p := ⟨b, off, none⟩) (hlt _ hx)]
      exact hz b off hx

end Go.AL
