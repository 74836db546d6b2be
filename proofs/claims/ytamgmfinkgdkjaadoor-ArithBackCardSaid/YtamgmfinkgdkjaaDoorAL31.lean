/- Loops round by round, each with what it keeps; answers seen as others. Seat-independent. -/
import Derived.Test.YtamgmfinkgdkjaaDoorAL29
namespace Go.AL
variable {P : Program}

def LoopS (body : (AExit → St → Prop) → St → Prop) (Q : AExit → St → Prop) : Nat → St → Prop
  | 0, _ => False
  | n + 1, st => body (fun e st' => match e with
      | .normal => PtK (LoopS body Q n) st'
      | e => Q e st') st

/-- A loop, round by round: at each head it is said what is kept. -/
theorem LoopA.steps {c : ACode} {Q : AExit → St → Prop} {st : St} (n : Nat) (live keep fz : List Nat) (hok : okKeep st.n0 st.hn (keep ++ fz) = true) (h : st.fnorm live keep fz (LoopS (wpA P c) Q n)) : LoopA (wpA P c) Q st := by
  refine ⟨LoopS (wpA P c) Q, ⟨n, live, keep, fz, hok, (St.fnorm_iff ..).1 h⟩, fun n st h => ?_⟩
  cases n with
  | zero => exact h.elim
  | succ n =>
    refine wpA_mono c ?_ h
    intro e st h
    cases e with
    | normal =>
      simp only at h
      unfold PtK at h
      obtain ⟨live, keep, fz, h1, h2⟩ := h
      exact ⟨n, live, keep, fz, Nat.lt_succ_self _, h1, h2⟩
    | exit id => exact h
    | ret => exact h

/-- What is answered is seen as another. -/
theorem CallsA.le {f : FuncId} {args : List AV} {h : AHeap} {R R' : AV → AHeap → Prop} (hc : CallsA P f args h R) (hl : ∀ r h', R r h' → ∃ r', r.le r' ∧ R' r' h') : CallsA P f args h R' := by
  refine ⟨hc.1, fun E cs H hlen ha => (hc.2 E cs H hlen ha).mono ?_⟩
  rintro e w' ⟨v, r, h', E', h1, h2, h3, h4, h5, h6⟩
  obtain ⟨r', h7, h8⟩ := hl r h' h2
  exact ⟨v, r', h', E', h1, h8, h3, h4, h5, h7 _ _ _ _ h6⟩

theorem CallsF.le {f : FuncId} {args : List AV} {h hv : AHeap} {v : AV} (hc : CallsA P f args h fun r h' => r.le v ∧ h' = hv) : CallsF P f args h v hv :=
  hc.le fun _ _ ⟨h1, h2⟩ => ⟨v, h1, rfl, h2⟩

theorem CallsF.weak {f : FuncId} {args args' : List AV} {h hv : AHeap} {v : AV} (hl : LeL args args') (hc : CallsF P f args' h v hv) : CallsF P f args h v hv := CallsA.weak hl hc

theorem AV.le.of_eq {x y : AV} (h : x = y) : x.le y := h ▸ AV.le.refl x
end Go.AL
