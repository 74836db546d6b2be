/- Calls that leave all that there was (of the library, by contracts from elsewhere). Seat-independent. -/
import Derived.Below
import Derived.Test.YtipafgbcdmgmbaaDoorAL28
namespace Go.AL
open Go.RowKit
variable {P : Program}

theorem Ext.below {E : Env} {h : AHeap} (H : HRel E h) {w' : World} (B : Below E.w.heap.size E.w w') : Ext E ⟨w', E.F, E.S⟩ where
  os := B.os
  tape := B.tape
  output := B.output
  size := B.size
  frz _ h := h
  same b hb _ := B.block b hb
  rho _ _ h := h
  sh _ _ _ h := h
  rlen := H.rlen
  own _ hb := .inl hb
  nfrz _ hb := .inl hb
  cap b c e f hb := ⟨c, e, f, by
    have : b < E.w.heap.size := by
      rw [Array.getElem?_eq_some_iff] at hb
      exact hb.1
    rw [B.block b this]; exact hb, rfl⟩
  off := H.off

theorem HRel.below {E : Env} {h : AHeap} (H : HRel E h) {w' : World} (B : Below E.w.heap.size E.w w') : HRel ⟨w', E.F, E.S⟩ h where
  sh := H.sh
  len := H.len
  blk k b hb := by
    obtain ⟨h0, cb, base, c, e, h1, h2, h3, h4, h5⟩ := H.blk k b hb
    have hlt : cb < E.w.heap.size := by
      rw [Array.getElem?_eq_some_iff] at h2
      exact h2.1
    refine ⟨h0, cb, base, c, e, h1, (B.block cb hlt).trans h2, h3, h4, fun i j x hx => ?_⟩
    obtain ⟨v, hv1, hv2⟩ := h5 i j x hx
    exact ⟨v, hv1, inner_mono (Ext.below H B) H.frz b hv2⟩
  inj := H.inj
  frz b hb := Nat.lt_of_lt_of_le (H.frz b hb) B.size

theorem CallsF.below {f : FuncId} {args : List AV} {h : AHeap} {r : AV} (he : Enters P f) (hc : ∀ (E : Env) (cs : Array Value), HRel E h → TabW P E.F E.w → args.length = cs.size → (∀ (i : Nat) x v, args[i]? = some x → cs[i]? = some v → E.R x v) →
    Calls P f cs E.w fun e w' => ∃ u, e = .returned u ∧ (∀ w F S, Go.AL.Rel w F S r u) ∧ Below E.w.heap.size E.w w') : CallsF P f args h r h :=
  ⟨he, fun E cs H hT hl ha => (hc E cs H hT hl ha).mono fun _ w' ⟨u, h1, h2, h3⟩ => ⟨u, r, h, ⟨w', E.F, E.S⟩, h1, ⟨rfl, rfl⟩, rfl, Ext.below H h3, H.below h3, h2 _ _ _⟩⟩

end Go.AL
