/- Calls that leave all that there was (of the library, by contracts from elsewhere). Seat-independent. -/
import Derived.Below
import Derived.Test.YtdjnndcdplgojaaAL28
namespace Go.AL
open Go.RowKit
variable {P : Program}

theorem Ext.below {E : Env} {h : AHeap} (H : HRel E h) {w' : World} (B : Below E.w.heap.size E.w w') : Ext E ⟨w', E.F, E.S⟩ where
  os := B.os
  tape := B.tape
  output := B.output
  size := B.size
  frz _ h := h
  same b hb _ := B.block b hb
  rho _ _ h := h
  sh _ _ _ h := h
  rlen := H.rlen
  own _ hb := .inl hb
  nfrz _ hb := .inl hb
  mcap b es q hb := ⟨es, q, by rw [B.block b (Array.getElem?_eq_some_iff.1 hb).1]; exact hb⟩
  cap b c e f hb := ⟨c, e, f, by
    have : b < E.w.heap.size := by
      rw [Array.getElem?_eq_some_iff] at hb
      exact hb.1
    rw [B.block b this]; exact hb, rfl, rfl⟩
  off := H.off

theorem HRel.below {E : Env} {h : AHeap} (H : HRel E h) {w' : World} (B : Below E.w.heap.size E.w w') : HRel ⟨w', E.F, E.S⟩ h where
  sh := H.sh
  len := H.len
  blk k b hb := by
    obtain ⟨h0, cb, base, c, e, h1, h2, h3, h4, h5⟩ := H.blk k b hb
    have hlt : cb < E.w.heap.size := by
      rw [Array.getElem?_eq_some_iff] at h2
      exact h2.1
    refine ⟨h0, cb, base, c, e, h1, (B.block cb hlt).trans h2, h3, h4, fun i j x hx => ?_⟩
    obtain ⟨v, hv1, hv2⟩ := h5 i j x hx
    exact ⟨v, hv1, inner_mono (Ext.below H B) H.frz b hv2⟩
  inj := H.inj
  frz b hb := Nat.lt_of_lt_of_le (H.frz b hb) B.size

theorem CallsF.below {f : FuncId} {args : List AV} {h : AHeap} {r : AV} (he : Enters P f) (hc : ∀ (E : Env) (cs : Array Value), HRel E h → TabW P E.F E.w → args.length = cs.size → (∀ (i : Nat) x v, args[i]? = some x → cs[i]? = some v → E.R x v) →
    Calls P f cs E.w fun e w' => ∃ u, e = .returned u ∧ (∀ w F S, Go.AL.Rel w F S r u) ∧ Below E.w.heap.size E.w w') : CallsF P f args h r h :=
  fun E cs H hT hl ha => .inl ⟨he, (hc E cs H hT hl ha).mono fun _ w' ⟨u, h1, h2, h3⟩ => ⟨u, r, h, ⟨w', E.F, E.S⟩, h1, ⟨rfl, rfl⟩, rfl, Ext.below H h3, H.below h3, h2 _ _ _⟩⟩

/-- Such a call that hands back what stands in a block of its own, which stays as it is. -/
theorem Ext.belowZ {E : Env} {h : AHeap} (H : HRel E h) {w' : World} (B : Below E.w.heap.size E.w w') {g : Nat} (hg : E.w.heap.size ≤ g) : Ext E ⟨w', fun b => E.F b ∨ b = g, E.S⟩ :=
  { Ext.below H B with frz := fun _ h => .inl h, nfrz := fun _ hb => hb.imp id fun he => .inr (by rw [he]; exact hg) }

theorem HRel.belowZ {E : Env} {h : AHeap} (H : HRel E h) {w' : World} (B : Below E.w.heap.size E.w w') {g : Nat} (hg : E.w.heap.size ≤ g) (hl : g < w'.heap.size) : HRel ⟨w', fun b => E.F b ∨ b = g, E.S⟩ h where
  sh := H.sh
  len := H.len
  blk k b hb := by
    obtain ⟨h0, cb, base, c, e, h1, h2, h3, h4, h5⟩ := H.blk k b hb
    have hlt : cb < E.w.heap.size := by
      rw [Array.getElem?_eq_some_iff] at h2
      exact h2.1
    refine ⟨h0, cb, base, c, e, h1, (B.block cb hlt).trans h2, fun hf => hf.elim h3 fun he => by omega, h4, fun i j x hx => ?_⟩
    obtain ⟨v, hv1, hv2⟩ := h5 i j x hx
    exact ⟨v, hv1, inner_mono (Ext.belowZ H B hg) H.frz b hv2⟩
  inj := H.inj
  frz b hb := hb.elim (fun hb => Nat.lt_of_lt_of_le (H.frz b hb) B.size) fun he => by rw [he]; exact hl

theorem CallsF.belowZ {f : FuncId} {args : List AV} {h : AHeap} {r : AV} (he : Enters P f) (hc : ∀ (E : Env) (cs : Array Value), HRel E h → TabW P E.F E.w → args.length = cs.size → (∀ (i : Nat) x v, args[i]? = some x → cs[i]? = some v → E.R x v) →
    Calls P f cs E.w fun e w' => ∃ u g, e = .returned u ∧ E.w.heap.size ≤ g ∧ g < w'.heap.size ∧ Go.AL.Rel w' (fun b => E.F b ∨ b = g) .nil r u ∧ Below E.w.heap.size E.w w') : CallsF P f args h r h :=
  fun E cs H hT hl ha => .inl ⟨he, (hc E cs H hT hl ha).mono fun _ w' ⟨u, g, h1, h2, h3, h4, h5⟩ =>
    ⟨u, r, h, ⟨w', fun b => E.F b ∨ b = g, E.S⟩, h1, ⟨rfl, rfl⟩, rfl, Ext.belowZ H h5 h2, H.belowZ h5 h2 h3, h4.nil_to _⟩⟩

end Go.AL
