/- A function that is handed a slice in an own block, seen with all its room: the block is given up, and what is answered lies in a block of its own. Seat-independent. -/
import Derived.Lib.Overlaps
import Derived.Test.YtlnglbddnhabfaaAL28
namespace Go.AL
variable {P : Program}

/-- A value that hangs on nothing, or on a later block than the first. -/
def away : AV → Bool
  | .sl (_ + 1) _ _ => true
  | x => closed x

def notBox : Option ABlk → Bool
  | some (.box _) => false
  | _ => true

/-- The first block's room is told. -/
def Env.wide (E : Env) (p : Nat × Nat) : Env := { E with S := ⟨E.S.ρ, E.S.sh.set 0 (some p)⟩ }

theorem wide_own {E : Env} {p q : Nat × Nat} (h0 : E.S.sh[0]? = some (some q)) {b : Nat} : (E.wide p).S.own b ↔ E.S.own b := by
  have hlt : 0 < E.S.sh.length := (List.getElem?_eq_some_iff.1 h0).1
  constructor
  · rintro ⟨k, base, r, h1, h2⟩
    by_cases hk : k = 0
    · subst hk; exact ⟨0, base, q, h1, h0⟩
    · refine ⟨k, base, r, h1, ?_⟩
      simp only [Env.wide] at h2
      rwa [List.getElem?_set, if_neg (by omega)] at h2
  · rintro ⟨k, base, r, h1, h2⟩
    by_cases hk : k = 0
    · subst hk; exact ⟨0, base, p, h1, by simp only [Env.wide]; rw [List.getElem?_set, if_pos rfl, if_pos hlt]⟩
    · exact ⟨k, base, r, h1, by simp only [Env.wide]; rw [List.getElem?_set, if_neg (by omega)]; exact h2⟩

/-- Back to what was told at first, where the first block is given up. -/
theorem Ext.narrow {E E' : Env} {h : AHeap} (H : HRel E h) {p q : Nat × Nat} (h0 : E.S.sh[0]? = some (some q)) (X : Ext (E.wide p) E') (hd : ∀ r, E'.S.sh[0]? ≠ some (some r)) : Ext E E' where
  os := X.os
  tape := X.tape
  output := X.output
  size := X.size
  frz := X.frz
  same b hb hn := X.same b hb fun ho => hn ((wide_own h0).1 ho)
  rho := X.rho
  sh k r hk hr := by
    have hk0 : k ≠ 0 := fun he => by subst he; exact hd r hr
    have := X.sh k r (by simpa [Env.wide] using hk) hr
    simp only [Env.wide] at this
    rwa [List.getElem?_set, if_neg (by omega)] at this
  rlen := H.rlen
  own b hb := (X.own b hb).imp (wide_own h0).1 id
  nfrz b hb := (X.nfrz b hb).imp id fun h => h.imp (wide_own h0).1 id
  cap := X.cap
  off := H.off

def junkRows (q s : Nat) : List (List AV) := List.replicate q (List.replicate s .undef)

theorem HRel.wide {E : Env} {s : Nat} {rows : List (List AV)} {hr : AHeap} (H : HRel E (some (.arr s rows) :: hr)) (hb : hr.all notBox = true) {q cb base : Nat} (h0 : E.S.ρ[0]? = some (cb, base)) {c : Array Value} {e f} (hc : E.w.heap[cb]? = some (Obj.cells c e f))
    (hs : base + (rows.length + q) * s ≤ c.size) : HRel (E.wide (s, rows.length + q)) (some (.arr s (rows ++ junkRows q s)) :: hr) := by
  have hget : ∀ k b, (some (ABlk.arr s (rows ++ junkRows q s)) :: hr)[k]? = some (some b) → (k = 0 ∧ b = .arr s (rows ++ junkRows q s) ∧ (some (ABlk.arr s rows) :: hr)[k]? = some (some (.arr s rows))) ∨ (k ≠ 0 ∧ (some (ABlk.arr s rows) :: hr)[k]? = some (some b) ∧ notBox (some b) = true) := by
    intro k b hk
    cases k with
    | zero => simp at hk; exact .inl ⟨rfl, hk.symm, rfl⟩
    | succ k =>
      simp only [List.getElem?_cons_succ] at hk ⊢
      exact .inr ⟨by omega, hk, List.all_eq_true.1 hb _ (List.mem_of_getElem? hk)⟩
  refine ⟨?_, H.len, fun k b hk => ?_, fun k k' b b' cb base base' h1 h2 h3 h4 => ?_, H.frz⟩
  · simp only [Env.wide]
    rw [H.sh]
    simp [ABlk.shape, junkRows]
  · rcases hget k b hk with ⟨rfl, rfl, hk0⟩ | ⟨hk0, hk1, hk2⟩
    · obtain ⟨g0, cb', base', c', e', g1, g2, g3, g4, g5⟩ := H.blk 0 _ hk0
      rw [h0] at g1
      obtain ⟨rfl, rfl⟩ := Prod.mk.inj (Option.some.inj g1)
      rw [g2] at hc
      obtain ⟨rfl, rfl, rfl⟩ := Obj.cells.inj (Option.some.inj hc)
      refine ⟨fun i row hi => ?_, cb, base, c', e', h0, g2, g3, by simpa [ABlk.shape, junkRows] using hs, fun i j x hx => ?_⟩
      · rw [List.getElem?_append] at hi
        split at hi
        · exact g0 i row hi
        · rw [junkRows, List.getElem?_replicate] at hi
          split at hi
          · obtain rfl := Option.some.inj hi; simp
          · cases hi
      · simp only [ABlk.cell, Option.bind_eq_some_iff] at hx
        obtain ⟨row, hi, hx⟩ := hx
        rw [List.getElem?_append] at hi
        split at hi
        · exact g5 i j x (by simp [ABlk.cell, hi, hx])
        · rw [junkRows, List.getElem?_replicate] at hi
          split at hi
          · obtain rfl := Option.some.inj hi
            rw [List.getElem?_replicate] at hx
            split at hx
            · obtain rfl := Option.some.inj hx
              have hlt : i * s + s ≤ (rows.length + q) * s := by rw [← Nat.succ_mul]; exact Nat.mul_le_mul_right _ (by omega)
              refine ⟨c'[base + i * s + j]'(by omega), ?_, .undef _ _⟩
              simp only [ABlk.shape]
              exact Array.getElem?_eq_getElem _
            · cases hx
          · cases hi
    · obtain ⟨g0, cb', base', c', e', g1, g2, g3, g4, g5⟩ := H.blk k b hk1
      refine ⟨g0, cb', base', c', e', g1, g2, g3, g4, fun i j x hx => ?_⟩
      obtain ⟨v, hv, hR⟩ := g5 i j x hx
      refine ⟨v, hv, ?_⟩
      cases b with
      | box cs => cases hk2
      | ia => exact hR
      | arr => exact hR
  · have key : ∀ k b, (some (ABlk.arr s (rows ++ junkRows q s)) :: hr)[k]? = some (some b) → ∃ b', (some (ABlk.arr s rows) :: hr)[k]? = some (some b') := fun k b hk => by
      rcases hget k b hk with ⟨_, _, h⟩ | ⟨_, h, _⟩
      · exact ⟨_, h⟩
      · exact ⟨_, h⟩
    obtain ⟨c1, d1⟩ := key k b h1
    obtain ⟨c2, d2⟩ := key k' b' h2
    exact H.inj k k' c1 c2 cb base base' d1 d2 h3 h4

/-- **A SLICE WITH ALL ITS ROOM.** -/
theorem CallsA.full {f : FuncId} {s n n' : Nat} {rows rows' : List (List AV)} (hn : n = rows.length) (hn' : n' = rows'.length) {rest : List AV} (hra : rest.all away = true) {hr : AHeap} (hb : hr.all notBox = true)
    (hc : ∀ q, CallsA P f (.slc 0 0 n (n + q) :: rest) (some (.arr s (rows ++ junkRows q s)) :: hr) fun r h' =>
      (∃ rows2, r = .slc 0 0 n' (n + q) ∧ h' = some (.arr s rows2) :: hr ∧ rows2.take n' = rows') ∨ (∃ b0, r = .sl (hr.length + 1) 0 n' ∧ h' = b0 :: hr ++ [some (.arr s rows')])) :
    CallsF P f (.sl 0 0 n :: rest) (some (.arr s rows) :: hr) (.sl (hr.length + 1) 0 n') (none :: hr ++ [some (.arr s rows')]) := by
  subst hn
  intro E cs H hT hlen ha
  have h0lt : 0 < cs.size := by simp at hlen; omega
  have hv0 := ha 0 _ cs[0] rfl (Array.getElem?_eq_getElem h0lt)
  obtain ⟨cb, base, off, cap, he, h1, h3, h2⟩ := rel_sl hv0
  have hsh0 : E.S.sh[0]? = some (some (s, rows.length)) := H.live.2 ⟨_, rfl, rfl⟩
  obtain ⟨g1, g2, g3, c, e, ff, g4, g5⟩ := h3 _ _ hsh0
  have hcap : rows.length + (cap - rows.length) = cap := by omega
  have H2 := H.wide hb (q := cap - rows.length) h1 g4 (by rw [hcap]; simpa using g5)
  rw [hcap] at H2
  have hq := hc (cap - rows.length)
  rw [hcap] at hq
  refine (hq (E.wide (s, cap)) cs H2 hT (by simpa using hlen) (fun i x v hx hv => ?_)).mono ?_
  · cases i with
    | zero =>
      simp only [List.getElem?_cons_zero, Option.some.injEq] at hx
      subst hx
      rw [Array.getElem?_eq_getElem h0lt] at hv
      obtain rfl := Option.some.inj hv
      rw [he]
      refine .slc _ _ _ _ _ cb base off h1 (fun s' N hN => ?_) h2
      simp only [Env.wide] at hN
      rw [List.getElem?_set, if_pos rfl] at hN
      split at hN <;> try (cases hN; done)
      obtain ⟨rfl, rfl⟩ := Prod.mk.inj (Option.some.inj (Option.some.inj hN))
      exact ⟨g1, by omega, c, e, ff, g4, by simpa using g5⟩
    | succ i =>
      simp only [List.getElem?_cons_succ] at hx
      have hR := ha (i + 1) x v (by simpa using hx) hv
      have haw := List.all_eq_true.1 hra x (List.mem_of_getElem? hx)
      by_cases hsl : ∃ k i n, x = .sl (k + 1) i n
      · obtain ⟨k, i, n, rfl⟩ := hsl
        obtain ⟨cb', base', off', cap', rfl, k1, k3, k2⟩ := rel_sl hR
        refine .sl _ _ _ _ cb' base' off' _ k1 (fun s' N hN => k3 s' N ?_) k2
        simp only [Env.wide] at hN
        rwa [List.getElem?_set, if_neg (by omega)] at hN
      · have hcl : closed x = true := by
          unfold away at haw
          split at haw
          · exact absurd ⟨_, _, _, rfl⟩ hsl
          · exact haw
        exact (closed_nil hcl hR).nil_to _
  · rintro e' w' ⟨v, r, h', E', rfl, hR, rfl, X, H', hv⟩
    rcases hR with ⟨rows2, rfl, rfl, hr2⟩ | ⟨b0, rfl, rfl⟩
    · obtain ⟨cb', base', off', rfl, k1, k3, k2⟩ := rel_slc hv
      obtain ⟨l1, l2, c', e'', f', l4, l5⟩ := k3 _ _ (H'.live.2 ⟨_, rfl, rfl⟩)
      try simp only [ABlk.shape] at l1 l2 l5
      have hlt2 : n' ≤ rows2.length := by omega
      have hfit := (H'.blk 0 _ rfl).1
      have G : Grows E' (.arr s rows2) (.arr s rows') 0 n' 0 [] := by
        refine ⟨by simp [ABlk.shape, hn'], fun i row hi => ?_, rfl, fun _ => rfl, by simp, by simp, by simpa [ABlk.shape] using hlt2, fun i' j' x hx => ?_⟩
        · rw [← hr2, List.getElem?_take] at hi
          split at hi
          · exact hfit i row hi
          · cases hi
        · simp only [ABlk.cell, Option.bind_eq_some_iff] at hx
          obtain ⟨row, hi, hx⟩ := hx
          rw [← hr2, List.getElem?_take] at hi
          split at hi <;> try (cases hi; done)
          have hf := hfit i' row hi
          have hj := (List.getElem?_eq_some_iff.1 hx).1
          exact ⟨by simp only [ABlk.shape]; omega, .inl ⟨by omega, by simp [ABlk.cell, hi, hx]⟩⟩
      obtain ⟨E2, m1, m2, m3, m4⟩ := grow_in P H' (k := 0) (b := .arr s rows2) (b' := .arr s rows') rfl k1 G
        (cap := cap) ⟨c', e'', f', l4, by simp only [ABlk.shape]; rw [l2]; exact l5⟩ (by omega) (by simpa [ABlk.shape] using l1)
      have hw : E2.w = E'.w := by
        have : (storeCells ⟨cb', off' + n' * (ABlk.arr s rows2).shape.1, none⟩ [] 0).run P E'.w = .ok () E'.w := by simp [storeCells]
        rw [this] at m1
        exact (Result.ok.inj m1).2.symm
      refine ⟨_, _, _, E2, rfl, ⟨rfl, rfl⟩, hw, Ext.narrow H hsh0 (X.trans m2) (fun r hr => ?_), m3, m4⟩
      rw [m3.sh] at hr
      simp [lset] at hr
    · have Hk := H'.kill 0
      refine ⟨_, _, _, E'.kill 0, rfl, ⟨rfl, rfl⟩, rfl, Ext.narrow H hsh0 (X.trans (H'.ext_kill 0)) (fun r hr => ?_), Hk, hv.ext (H'.ext_kill 0) H'.frz⟩
      rw [Hk.sh] at hr
      simp [lset] at hr

/-- Two slices in two own blocks don't overlap. -/
theorem CallsA.overlaps {f : FuncId} {fn : Func} {tS tR e : TypeId} {size : Nat} (hf : P.funcs[f]? = some fn) (hname : (fn.name == "runtime.NumGoroutine") = false) (hbody : fn.body.isNone = true) (hnx : Extern.findNext fn = none)
    (he : Extern.find fn = some (Extern.SlicesOverlaps.overlaps #[tS, tS] #[tR])) (ht : P.underlying tS = some (.slice e)) (hz : ∀ w, (Go.sizeOf e).run P w = .ok size w)
    {k1 i1 n1 k2 i2 n2 c2 s1 s2 : Nat} {r1 r2 : List (List AV)} {hp : AHeap} (h1 : hp[k1]? = some (some (.arr s1 r1))) (h2 : hp[k2]? = some (some (.arr s2 r2))) (hne : k1 ≠ k2) (hpos : 0 < n2) (hs : 0 < s2)
    {K : AV → AHeap → Prop} (hK : K (.bool false) hp) : CallsA P f [.sl k1 i1 n1, .slc k2 i2 n2 c2] hp K := by
  intro E cs H hT hlen ha
  obtain ⟨cs⟩ := cs
  match cs, hlen with
  | [v, u], _ =>
    obtain ⟨ca, ba, oa, capa, rfl, a1, a3, a2⟩ := rel_sl (ha 0 _ v rfl rfl)
    obtain ⟨cb, bb, ob, rfl, b1, b3, b2⟩ := rel_slc (ha 1 _ u rfl rfl)
    obtain ⟨_, ca', ba', c, ee, g1, g2, g3, g4, _⟩ := H.blk k1 _ h1
    rw [a1] at g1
    obtain ⟨rfl, rfl⟩ := Prod.mk.inj (Option.some.inj g1)
    obtain ⟨_, cb', bb', c', ee', l1, l2, l3, l4, _⟩ := H.blk k2 _ h2
    rw [b1] at l1
    obtain ⟨rfl, rfl⟩ := Prod.mk.inj (Option.some.inj l1)
    obtain ⟨m1, m2, _⟩ := b3 _ _ (H.live.2 ⟨_, h2, rfl⟩)
    simp only [ABlk.shape] at m1 m2 l4
    have hcab : ca ≠ cb := fun he => hne (H.inj k1 k2 _ _ ca ba bb h1 h2 a1 (by rw [b1, he]))
    have hsz : c'.size ≠ 0 := by
      have : 1 * 1 ≤ r2.length * s2 := Nat.mul_le_mul (by omega) hs
      omega
    refine .inr ⟨.bool false, E.w, ?_, _, _, _, E, rfl, hK, rfl, H.ext_refl, H, .bool ..⟩
    rw [run_callFunc_extern hf hname hbody hnx he]
    have := Lib.run_overlaps_apart E.w tS tR e ht size hz ⟨ca, oa, none⟩ ⟨cb, ob, none⟩ n1 capa n2 c2 hcab ee ee' c.size c'.size (by simp [World.shape?, g2]) (by simp [World.shape?, l2]) hsz (by simp [World.frozen?, g2]) (by simp [World.frozen?, g2])
    rw [this]
    rfl

end Go.AL
