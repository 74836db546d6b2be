/- The abstract heap through reads, writes and new blocks. Seat-independent. -/
import Derived.Test.YtamgmfinkgdkjaaDoorAL3
import Derived.Laws.CopyRow
import Derived.Laws.Cells
import Derived.Laws.Tables
namespace Go.AL

theorem nth_eq {α : Type} : ∀ (l : List α) (n : Nat), nth l n = l[n]?
  | [], n => by simp [nth]
  | _ :: _, 0 => rfl
  | _ :: l, n + 1 => by simp [nth, nth_eq l n]

theorem lset_eq {α : Type} : ∀ (l : List α) (n : Nat) (x : α), lset l n x = l.set n x
  | [], n, x => by simp [lset]
  | _ :: _, 0, _ => rfl
  | _ :: l, n + 1, x => by simp [lset, lset_eq l n x]

theorem f0_iff (x : AV) (K : AV → Prop) : f0 x K ↔ K x := by cases x <;> exact Iff.rfl
theorem fL_iff {f : AV → (AV → Prop) → Prop} (hf : ∀ x K, f x K ↔ K x) : ∀ (l : List AV) (K : List AV → Prop), fL f l K ↔ K l
  | [], _ => Iff.rfl
  | x :: xs, K => by simp only [fL]; rw [hf, fL_iff hf xs]
theorem f1_iff (x : AV) (K : AV → Prop) : f1 x K ↔ K x := by
  cases x <;> simp only [f1] <;> first | exact fL_iff f0_iff _ _ | exact f0_iff _ _
theorem f2_iff (x : AV) (K : AV → Prop) : f2 x K ↔ K x := by
  cases x <;> simp only [f2] <;> first | exact fL_iff f1_iff _ _ | exact f1_iff _ _
theorem fB_iff (x : ABlk) (K : ABlk → Prop) : fB x K ↔ K x := by
  cases x <;> simp only [fB]; exact fL_iff f0_iff _ _
theorem hset_iff : ∀ (h : AHeap) (k : Nat) b (K : AHeap → Prop), hset h k b K ↔ K (lset h k b)
  | [], _, _, _ => Iff.rfl
  | _ :: _, 0, _, _ => Iff.rfl
  | x :: xs, n + 1, b, K => by simp only [hset, lset]; rw [hset_iff xs n b]
theorem hpush_iff : ∀ (h : AHeap) b (K : AHeap → Prop), hpush h b K ↔ K (h ++ [b])
  | [], _, _ => Iff.rfl
  | x :: xs, b, K => by simp only [hpush]; rw [hpush_iff xs b]; rfl

def Eff.hn (e : Eff) (n : Nat) : Nat :=
  match e with
  | .push _ | .move _ _ => n + 1
  | _ => n

theorem Eff.go_iff (e : Eff) (h : AHeap) (n : Nat) (K : AHeap → Nat → Prop) : e.go h n K ↔ K (e.app h) (e.hn n) := by
  cases e <;> simp only [Eff.go, Eff.app, Eff.hn, fB_iff, hset_iff, hpush_iff]

theorem Eff.hn_eq (e : Eff) (h : AHeap) (n : Nat) (hn : n = h.length) : e.hn n = (e.app h).length := by
  cases e <;> simp [Eff.hn, Eff.app, lset_eq, hn]

/-! ### Facts of a heap -/

variable {E : Env} {h : AHeap}

theorem HRel.rlen (H : HRel E h) : E.S.ρ.length = E.S.sh.length := by rw [H.len, H.sh, List.length_map]

theorem HRel.live (H : HRel E h) {k : Nat} {p} : E.S.sh[k]? = some (some p) ↔ ∃ b, h[k]? = some (some b) ∧ b.shape = p := by
  rw [H.sh, List.getElem?_map]
  cases hk : h[k]? with
  | none => simp
  | some b => cases b <;> simp

theorem HRel.off (H : HRel E h) (b : Nat) (hb : E.F b) : ¬ E.S.own b := by
  rintro ⟨k, base, p, h1, h2⟩
  obtain ⟨blk, h3, _⟩ := H.live.1 h2
  obtain ⟨_, cb, base', c, e, h4, _, h5, _⟩ := H.blk k blk h3
  rw [h1] at h4
  obtain ⟨rfl, rfl⟩ := Prod.mk.inj (Option.some.inj h4)
  exact h5 hb

theorem HRel.ext_refl (H : HRel E h) : Ext E E := Ext.refl H.rlen H.off

theorem HRel.own_lt (H : HRel E h) {b : Nat} (hb : E.S.own b) : b < E.w.heap.size := by
  obtain ⟨k, base, p, h1, h2⟩ := hb
  obtain ⟨blk, h3, _⟩ := H.live.1 h2
  obtain ⟨_, cb, base', c, e, h4, h5, _⟩ := H.blk k blk h3
  rw [h1] at h4
  obtain ⟨rfl, rfl⟩ := Prod.mk.inj (Option.some.inj h4)
  exact (Array.getElem?_eq_some_iff.1 h5).1

theorem HRel.own_of (H : HRel E h) {k : Nat} {b : ABlk} (hk : h[k]? = some (some b)) {cb base : Nat} (hr : E.S.ρ[k]? = some (cb, base)) : E.S.own cb :=
  ⟨k, base, b.shape, hr, H.live.2 ⟨b, hk, rfl⟩⟩

theorem inner_mono {E E' : Env} (hE : Ext E E') (hz : ∀ b, E.F b → b < E.w.heap.size) (b : ABlk) {x : AV} {v : Value}
    (h : Go.AL.Rel E.w E.F (b.inner E.S) x v) : Go.AL.Rel E'.w E'.F (b.inner E'.S) x v := by
  cases b with
  | box cs => exact Rel.ext hE hz h
  | ia k xs =>
    exact Rel.mono hE.frz (fun b o hb => cell_of_heap (hE.same b (hz b hb) (hE.off b hb)) _ _) h _ (fun _ _ h => h) (fun _ _ _ _ h => h) hE.cap
  | arr s rows =>
    exact Rel.mono hE.frz (fun b o hb => cell_of_heap (hE.same b (hz b hb) (hE.off b hb)) _ _) h _ (fun _ _ h => h) (fun _ _ _ _ h => h) hE.cap

/-- Row g holds other cells, as many. -/
def Env.setRow (E : Env) (g : Nat) (c : Array Value) : Env := { E with w := E.w.setRow g c }

theorem setRow_other (w : World) (g : Nat) (c : Array Value) {b : Nat} (h : b ≠ g) : (w.setRow g c).heap[b]? = w.heap[b]? := by
  simp only [World.setRow, Array.getElem?_modify]
  rw [if_neg (by omega)]

theorem setRow_size (w : World) (g : Nat) (c : Array Value) : (w.setRow g c).heap.size = w.heap.size := by simp [World.setRow]

theorem HRel.ext_setRow (H : HRel E h) {g : Nat} (hg : E.S.own g) {c : Array Value} {e} {f} (hc : E.w.heap[g]? = some (.cells c e f)) {c' : Array Value} (hs : c'.size = c.size) :
    Ext E (E.setRow g c') where
  os := rfl
  tape := rfl
  output := rfl
  size := by simp [Env.setRow]
  frz _ h := h
  same b _ hn := setRow_other _ _ _ (fun e => hn (e ▸ hg))
  rho _ _ h := h
  sh _ _ _ h := h
  rlen := H.rlen
  own _ h := .inl h
  nfrz _ h := .inl h
  cap b c₀ e₀ f₀ hb := by
    by_cases hbg : b = g
    · subst hbg
      rw [hb] at hc
      obtain ⟨rfl, rfl, rfl⟩ := Obj.cells.inj (Option.some.inj hc)
      exact ⟨c', _, _, setRow_heap _ _ _ _ _ _ hb, hs⟩
    · exact ⟨c₀, e₀, f₀, by rw [← hb]; exact setRow_other _ _ _ hbg, rfl⟩
  off := H.off

/-- A block is given other contents of its shape. -/
theorem HRel.set (H : HRel E h) {k : Nat} {b b' : ABlk} (hk : h[k]? = some (some b)) {cb base : Nat} (hr : E.S.ρ[k]? = some (cb, base)) {c : Array Value} {e}
    (hc : E.w.heap[cb]? = some (.cells c e (0, 0))) {c' : Array Value} (hs : c'.size = c.size) (hsh : b'.shape = b.shape) (hfit : b'.fits)
    (hcells : ∀ i j x, b'.cell i j = some x → ∃ v, c'[base + i * b'.shape.1 + j]? = some v ∧ Go.AL.Rel E.w E.F (b'.inner E.S) x v) :
    HRel (E.setRow cb c') (lset h k (some b')) := by
  have hX := H.ext_setRow (H.own_of hk hr) hc hs
  have hklt : k < h.length := (List.getElem?_eq_some_iff.1 hk).1
  refine ⟨?_, ?_, ?_, ?_, fun b hb => by rw [Env.setRow, setRow_size]; exact H.frz b hb⟩
  · show E.S.sh = _
    rw [H.sh, lset_eq]
    apply List.ext_getElem?
    intro i
    rw [List.getElem?_map, List.getElem?_map, List.getElem?_set]
    by_cases hi : k = i
    · subst hi; rw [if_pos rfl, if_pos hklt, hk]; simp [hsh]
    · simp [hi]
  · show E.S.ρ.length = _
    rw [H.len, lset_eq, List.length_set]
  · intro i bi hi
    rw [lset_eq, List.getElem?_set] at hi
    by_cases hik : k = i
    · subst hik
      rw [if_pos rfl, if_pos hklt] at hi
      obtain rfl := Option.some.inj (Option.some.inj hi)
      obtain ⟨_, cb₁, base₁, c₁, e₁, h1, h2, h3, h4, _⟩ := H.blk k b hk
      rw [hr] at h1
      obtain ⟨rfl, rfl⟩ := Prod.mk.inj (Option.some.inj h1)
      rw [hc] at h2
      obtain ⟨rfl, rfl, -⟩ := Obj.cells.inj (Option.some.inj h2)
      refine ⟨hfit, cb, base, c', e, hr, setRow_heap _ _ _ _ _ _ hc, h3, by rw [hsh, hs]; exact h4, fun i j x hx => ?_⟩
      obtain ⟨v, hv1, hv2⟩ := hcells i j x hx
      exact ⟨v, hv1, inner_mono hX H.frz _ hv2⟩
    · rw [if_neg hik] at hi
      obtain ⟨h0, cb₁, base₁, c₁, e₁, h1, h2, h3, h4, h5⟩ := H.blk i bi hi
      have hne : cb₁ ≠ cb := fun hcb => by
        subst hcb
        by_cases hb : base₁ = base
        · subst hb; exact hik (H.inj k i b bi _ _ _ hk hi hr h1)
        · exact hik (H.inj k i b bi _ _ _ hk hi hr h1)
      refine ⟨h0, cb₁, base₁, c₁, e₁, h1, by rw [← h2]; exact setRow_other _ _ _ hne, h3, h4, fun i j x hx => ?_⟩
      obtain ⟨v, hv1, hv2⟩ := h5 i j x hx
      exact ⟨v, hv1, inner_mono hX H.frz _ hv2⟩
  · intro i i' bi bi' cb₁ ba ba' h1 h2 h3 h4
    have back : ∀ (j : Nat) bj, (lset h k (some b'))[j]? = some (some bj) → ∃ bj', h[j]? = some (some bj') := by
      intro j bj hj
      rw [lset_eq, List.getElem?_set] at hj
      by_cases hkj : k = j
      · subst hkj; exact ⟨b, hk⟩
      · rw [if_neg hkj] at hj; exact ⟨bj, hj⟩
    obtain ⟨_, q1⟩ := back i bi h1
    obtain ⟨_, q2⟩ := back i' bi' h2
    exact H.inj i i' _ _ cb₁ ba ba' q1 q2 h3 h4

/-- A new block. -/
def Env.push (E : Env) (o : Obj) (p : Nat × Nat) : Env :=
  { E with w := E.w.alloc o, S := ⟨E.S.ρ ++ [(E.w.heap.size, 0)], E.S.sh ++ [some p]⟩ }

theorem HRel.ext_push (H : HRel E h) (o : Obj) (p : Nat × Nat) : Ext E (E.push o p) where
  os := rfl
  tape := rfl
  output := rfl
  size := by simp [Env.push]
  frz _ h := h
  same b hb _ := by simp only [Env.push, World.alloc, Array.getElem?_push]; rw [if_neg (by omega)]
  rho k q hq := by simp only [Env.push]; rw [List.getElem?_append_left (List.getElem?_eq_some_iff.1 hq).1]; exact hq
  sh k q hk hq := by simp only [Env.push] at hq; rw [List.getElem?_append_left hk] at hq; exact hq
  rlen := H.rlen
  own b hb := by
    obtain ⟨k, base, q, h1, h2⟩ := hb
    simp only [Env.push] at h1 h2
    by_cases hk : k < E.S.ρ.length
    · rw [List.getElem?_append_left hk] at h1
      rw [List.getElem?_append_left (by rw [← H.rlen]; exact hk)] at h2
      exact .inl ⟨k, base, q, h1, h2⟩
    · rw [List.getElem?_append_right (by omega)] at h1
      have : k - E.S.ρ.length = 0 := by
        rcases Nat.eq_zero_or_pos (k - E.S.ρ.length) with h | h
        · exact h
        · rw [List.getElem?_eq_none (by simp; omega)] at h1; cases h1
      rw [this] at h1
      simp at h1
      exact .inr (by omega)
  nfrz _ h := .inl h
  cap b c e f hb := ⟨c, e, f, by
    simp only [Env.push, World.alloc, Array.getElem?_push]
    rw [if_neg (by have := (Array.getElem?_eq_some_iff.1 hb).1; omega)]; exact hb, rfl⟩
  off := H.off

theorem HRel.push (H : HRel E h) (b : ABlk) (c : Array Value) (e : TypeId) (hfit : b.fits) (hsz : b.shape.2 * b.shape.1 ≤ c.size)
    (hcells : ∀ i j x, b.cell i j = some x → ∃ v, c[i * b.shape.1 + j]? = some v ∧ Go.AL.Rel E.w E.F (b.inner E.S) x v) :
    HRel (E.push (.cells c e) b.shape) (h ++ [some b]) := by
  have hX := H.ext_push (.cells c e) b.shape
  refine ⟨?_, ?_, ?_, ?_, fun b hb => Nat.lt_of_lt_of_le (H.frz b hb) hX.size⟩
  · simp [Env.push, H.sh]
  · simp [Env.push, H.len]
  · intro k bk hk
    by_cases hlt : k < h.length
    · rw [List.getElem?_append_left hlt] at hk
      obtain ⟨h0, cb₁, base₁, c₁, e₁, h1, h2, h3, h4, h5⟩ := H.blk k bk hk
      refine ⟨h0, cb₁, base₁, c₁, e₁, hX.rho _ _ h1, ?_, h3, h4, fun i j x hx => ?_⟩
      · simp only [Env.push, World.alloc, Array.getElem?_push]
        rw [if_neg (by have := (Array.getElem?_eq_some_iff.1 h2).1; omega)]; exact h2
      · obtain ⟨v, hv1, hv2⟩ := h5 i j x hx
        exact ⟨v, hv1, inner_mono hX H.frz _ hv2⟩
    · rw [List.getElem?_append_right (by omega)] at hk
      have h0 : k - h.length = 0 := by
        rcases Nat.eq_zero_or_pos (k - h.length) with h' | h'
        · exact h'
        · rw [List.getElem?_eq_none (by simp; omega)] at hk; cases hk
      have hkl : k = h.length := by omega
      rw [h0] at hk
      simp at hk
      subst hk hkl
      refine ⟨hfit, E.w.heap.size, 0, c, e, ?_, ?_, fun hf => absurd (H.frz _ hf) (Nat.lt_irrefl _), by simpa using hsz, fun i j x hx => ?_⟩
      · simp [Env.push, ← H.len]
      · show (E.w.heap.push _)[_]? = _
        simp
      · obtain ⟨v, hv1, hv2⟩ := hcells i j x hx
        exact ⟨v, by simpa using hv1, inner_mono hX H.frz _ hv2⟩
  · intro i i' bi bi' cb₁ ba ba' h1 h2 h3 h4
    have key : ∀ (j : Nat) bj base, (h ++ [some b])[j]? = some (some bj) → (E.push (.cells c e) b.shape).S.ρ[j]? = some (cb₁, base) →
        (j < h.length ∧ h[j]? = some (some bj) ∧ E.S.ρ[j]? = some (cb₁, base) ∧ cb₁ < E.w.heap.size) ∨ (j = h.length ∧ cb₁ = E.w.heap.size) := by
      intro j bj base hj hrj
      simp only [Env.push] at hrj
      by_cases hlt : j < h.length
      · rw [List.getElem?_append_left hlt] at hj
        rw [List.getElem?_append_left (by rw [H.len]; exact hlt)] at hrj
        exact .inl ⟨hlt, hj, hrj, H.own_lt (H.own_of hj hrj)⟩
      · have hj' : j = h.length := by
          rcases Nat.lt_or_ge h.length j with h' | h'
          · rw [List.getElem?_eq_none (by simp; omega)] at hj; cases hj
          · omega
        subst hj'
        rw [List.getElem?_append_right (by rw [H.len]; omega)] at hrj
        rw [H.len] at hrj
        simp at hrj
        exact .inr ⟨rfl, hrj.1.symm⟩
    rcases key i bi ba h1 h3 with ⟨a1, a2, a3, a4⟩ | ⟨a1, a2⟩ <;> rcases key i' bi' ba' h2 h4 with ⟨b1, b2, b3, b4⟩ | ⟨b1, b2⟩
    · exact H.inj _ _ _ _ _ _ _ a2 b2 a3 b3
    · omega
    · omega
    · omega

/-- A block that nobody names. -/
def Env.junk (E : Env) (o : Obj) : Env := { E with w := E.w.alloc o }

theorem HRel.ext_junk (H : HRel E h) (o : Obj) : Ext E (E.junk o) where
  os := rfl
  tape := rfl
  output := rfl
  size := by simp [Env.junk]
  frz _ h := h
  same b hb _ := by simp only [Env.junk, World.alloc, Array.getElem?_push]; rw [if_neg (by omega)]
  rho _ _ h := h
  sh _ _ _ h := h
  rlen := H.rlen
  own _ h := .inl h
  nfrz _ h := .inl h
  cap b c e f hb := ⟨c, e, f, by
    simp only [Env.junk, World.alloc, Array.getElem?_push]
    rw [if_neg (by have := (Array.getElem?_eq_some_iff.1 hb).1; omega)]; exact hb, rfl⟩
  off := H.off

theorem HRel.junk (H : HRel E h) (o : Obj) : HRel (E.junk o) h := by
  have hX := H.ext_junk o
  refine ⟨H.sh, H.len, fun k bk hk => ?_, H.inj, fun b hb => Nat.lt_of_lt_of_le (H.frz b hb) hX.size⟩
  obtain ⟨h0, cb₁, base₁, c₁, e₁, h1, h2, h3, h4, h5⟩ := H.blk k bk hk
  refine ⟨h0, cb₁, base₁, c₁, e₁, h1, ?_, h3, h4, fun i j x hx => ?_⟩
  · simp only [Env.junk, World.alloc, Array.getElem?_push]
    rw [if_neg (by have := (Array.getElem?_eq_some_iff.1 h2).1; omega)]; exact h2
  · obtain ⟨v, hv1, hv2⟩ := h5 i j x hx
    exact ⟨v, hv1, inner_mono hX H.frz _ hv2⟩

end Go.AL
