/- The abstract heap through reads, writes and new blocks. Seat-independent. -/
import Derived.Test.YtdjnndcdplgojaaAL3
import Derived.Laws.CopyRow
import Derived.Laws.Cells
import Derived.Laws.Tables
namespace Go.AL

theorem nth_eq {α : Type} : ∀ (l : List α) (n : Nat), nth l n = l[n]?
  | [], n => by simp [nth]
  | _ :: _, 0 => rfl
  | _ :: l, n + 1 => by simp [nth, nth_eq l n]

theorem lset_eq {α : Type} : ∀ (l : List α) (n : Nat) (x : α), lset l n x = l.set n x
  | [], n, x => by simp [lset]
  | _ :: _, 0, _ => rfl
  | _ :: l, n + 1, x => by simp [lset, lset_eq l n x]

theorem f0_iff (x : AV) (K : AV → Prop) : f0 x K ↔ K x := by cases x <;> exact Iff.rfl
theorem fL_iff {f : AV → (AV → Prop) → Prop} (hf : ∀ x K, f x K ↔ K x) : ∀ (l : List AV) (K : List AV → Prop), fL f l K ↔ K l
  | [], _ => Iff.rfl
  | x :: xs, K => by simp only [fL]; rw [hf, fL_iff hf xs]
theorem f1_iff (x : AV) (K : AV → Prop) : f1 x K ↔ K x := by
  cases x <;> simp only [f1] <;> first | exact fL_iff f0_iff _ _ | exact f0_iff _ _
theorem f2_iff (x : AV) (K : AV → Prop) : f2 x K ↔ K x := by
  cases x <;> simp only [f2] <;> first | exact fL_iff f1_iff _ _ | exact f1_iff _ _
theorem fB_iff (x : ABlk) (K : ABlk → Prop) : fB x K ↔ K x := by
  cases x <;> simp only [fB]; exact fL_iff f0_iff _ _
theorem hset_iff : ∀ (h : AHeap) (k : Nat) b (K : AHeap → Prop), hset h k b K ↔ K (lset h k b)
  | [], _, _, _ => Iff.rfl
  | _ :: _, 0, _, _ => Iff.rfl
  | x :: xs, n + 1, b, K => by simp only [hset, lset]; rw [hset_iff xs n b]
theorem hpush_iff : ∀ (h : AHeap) b (K : AHeap → Prop), hpush h b K ↔ K (h ++ [b])
  | [], _, _ => Iff.rfl
  | x :: xs, b, K => by simp only [hpush]; rw [hpush_iff xs b]; rfl

def Eff.hn (e : Eff) (n : Nat) : Nat :=
  match e with
  | .push _ | .move _ _ => n + 1
  | _ => n

theorem Eff.go_iff (e : Eff) (h : AHeap) (n : Nat) (K : AHeap → Nat → Prop) : e.go h n K ↔ K (e.app h) (e.hn n) := by
  cases e <;> simp only [Eff.go, Eff.app, Eff.hn, fB_iff, hset_iff, hpush_iff]

theorem Eff.hn_eq (e : Eff) (h : AHeap) (n : Nat) (hn : n = h.length) : e.hn n = (e.app h).length := by
  cases e <;> simp [Eff.hn, Eff.app, lset_eq, hn]

/-! ### Facts of a heap -/

variable {E : Env} {h : AHeap}

theorem HRel.rlen (H : HRel E h) : E.S.ρ.length = E.S.sh.length := by rw [H.len, H.sh, List.length_map]

theorem HRel.live (H : HRel E h) {k : Nat} {p} : E.S.sh[k]? = some (some p) ↔ ∃ b, h[k]? = some (some b) ∧ b.shape = p := by
  rw [H.sh, List.getElem?_map]
  cases hk : h[k]? with
  | none => simp
  | some b => cases b <;> simp

theorem HRel.off (H : HRel E h) (b : Nat) (hb : E.F b) : ¬ E.S.own b := by
  rintro ⟨k, base, p, h1, h2⟩
  obtain ⟨blk, h3, _⟩ := H.live.1 h2
  obtain ⟨_, cb, base', c, e, h4, _, h5, _⟩ := H.blk k blk h3
  rw [h1] at h4
  obtain ⟨rfl, rfl⟩ := Prod.mk.inj (Option.some.inj h4)
  exact h5 hb

theorem HRel.ext_refl (H : HRel E h) : Ext E E := Ext.refl H.rlen H.off

theorem HRel.own_lt (H : HRel E h) {b : Nat} (hb : E.S.own b) : b < E.w.heap.size := by
  obtain ⟨k, base, p, h1, h2⟩ := hb
  obtain ⟨blk, h3, _⟩ := H.live.1 h2
  obtain ⟨_, cb, base', c, e, h4, h5, _⟩ := H.blk k blk h3
  rw [h1] at h4
  obtain ⟨rfl, rfl⟩ := Prod.mk.inj (Option.some.inj h4)
  exact (Array.getElem?_eq_some_iff.1 h5).1

theorem HRel.own_of (H : HRel E h) {k : Nat} {b : ABlk} (hk : h[k]? = some (some b)) {cb base : Nat} (hr : E.S.ρ[k]? = some (cb, base)) : E.S.own cb :=
  ⟨k, base, b.shape, hr, H.live.2 ⟨b, hk, rfl⟩⟩

theorem inner_mono {E E' : Env} (hE : Ext E E') (hz : ∀ b, E.F b → b < E.w.heap.size) (b : ABlk) {x : AV} {v : Value}
    (h : Go.AL.Rel E.w E.F (b.inner E.S) x v) : Go.AL.Rel E'.w E'.F (b.inner E'.S) x v := by
  cases b with
  | box cs => exact Rel.ext hE hz h
  | ia k xs =>
    exact Rel.mono hE.frz (fun b o hb => cell_of_heap (hE.same b (hz b hb) (hE.off b hb)) _ _) h _ (fun _ _ h => h) (fun _ _ _ _ h => h) hE.cap
  | arr s rows =>
    exact Rel.mono hE.frz (fun b o hb => cell_of_heap (hE.same b (hz b hb) (hE.off b hb)) _ _) h _ (fun _ _ h => h) (fun _ _ _ _ h => h) hE.cap
  | mp es =>
    exact Rel.mono hE.frz (fun b o hb => cell_of_heap (hE.same b (hz b hb) (hE.off b hb)) _ _) h _ (fun _ _ h => h) (fun _ _ _ _ h => h) hE.cap

/-- Row g holds other cells, as many. -/
def Env.setRow (E : Env) (g : Nat) (c : Array Value) : Env := { E with w := E.w.setRow g c }

theorem setRow_other (w : World) (g : Nat) (c : Array Value) {b : Nat} (h : b ≠ g) : (w.setRow g c).heap[b]? = w.heap[b]? := by
  simp only [World.setRow, Array.getElem?_modify]
  rw [if_neg (by omega)]

theorem setRow_size (w : World) (g : Nat) (c : Array Value) : (w.setRow g c).heap.size = w.heap.size := by simp [World.setRow]

theorem HRel.ext_setRow (H : HRel E h) {g : Nat} (hg : E.S.own g) {c : Array Value} {e} {f} (hc : E.w.heap[g]? = some (.cells c e f)) {c' : Array Value} (hs : c'.size = c.size) :
    Ext E (E.setRow g c') where
  os := rfl
  tape := rfl
  output := rfl
  size := by simp [Env.setRow]
  frz _ h := h
  same b _ hn := setRow_other _ _ _ (fun e => hn (e ▸ hg))
  rho _ _ h := h
  sh _ _ _ h := h
  rlen := H.rlen
  own _ h := .inl h
  nfrz _ h := .inl h
  cap b c₀ e₀ f₀ hb := by
    by_cases hbg : b = g
    · subst hbg
      rw [hb] at hc
      obtain ⟨rfl, rfl, rfl⟩ := Obj.cells.inj (Option.some.inj hc)
      exact ⟨c', _, _, setRow_heap _ _ _ _ _ _ hb, hs, rfl⟩
    · exact ⟨c₀, e₀, f₀, by rw [← hb]; exact setRow_other _ _ _ hbg, rfl, rfl⟩
  mcap b es q hb := by
    by_cases hbg : b = g
    · subst hbg; rw [hb] at hc; cases hc
    · exact ⟨es, q, by rw [← hb]; exact setRow_other _ _ _ hbg⟩
  off := H.off

/-- A block is given other contents of its shape. -/
theorem HRel.set (H : HRel E h) {k : Nat} {b b' : ABlk} (hk : h[k]? = some (some b)) {cb base : Nat} (hr : E.S.ρ[k]? = some (cb, base)) {c : Array Value} {e}
    (hc : E.w.heap[cb]? = some (.cells c e (0, 0))) {c' : Array Value} (hs : c'.size = c.size) (hsh : b'.shape = b.shape) (hfit : b'.fits)
    (hcells : ∀ i j x, b'.cell i j = some x → ∃ v, c'[base + i * b'.shape.1 + j]? = some v ∧ Go.AL.Rel E.w E.F (b'.inner E.S) x v)
    (hm : b.isM = false := by first | rfl | assumption) (hm' : b'.isM = false := by first | rfl | assumption) :
    HRel (E.setRow cb c') (lset h k (some b')) := by
  have hX := H.ext_setRow (H.own_of hk hr) hc hs
  have hklt : k < h.length := (List.getElem?_eq_some_iff.1 hk).1
  refine ⟨?_, ?_, ?_, ?_, fun b hb => by rw [Env.setRow, setRow_size]; exact H.frz b hb⟩
  · show E.S.sh = _
    rw [H.sh, lset_eq]
    apply List.ext_getElem?
    intro i
    rw [List.getElem?_map, List.getElem?_map, List.getElem?_set]
    by_cases hi : k = i
    · subst hi; rw [if_pos rfl, if_pos hklt, hk]; simp [hsh]
    · simp [hi]
  · show E.S.ρ.length = _
    rw [H.len, lset_eq, List.length_set]
  · intro i bi hi
    rw [lset_eq, List.getElem?_set] at hi
    by_cases hik : k = i
    · subst hik
      rw [if_pos rfl, if_pos hklt] at hi
      obtain rfl := Option.some.inj (Option.some.inj hi)
      obtain ⟨_, cb₁, base₁, c₁, e₁, h1, h2, h3, h4, _⟩ := H.cblk k b hk
      rw [hr] at h1
      obtain ⟨rfl, rfl⟩ := Prod.mk.inj (Option.some.inj h1)
      rw [hc] at h2
      obtain ⟨rfl, rfl, -⟩ := Obj.cells.inj (Option.some.inj h2)
      refine ⟨hfit, cb, base, c', e, hr, by rw [ABlk.obj_of hm']; exact setRow_heap _ _ _ _ _ _ hc, h3, by rw [ABlk.room_of hm', hsh, hs]; exact h4, fun i j x hx => ?_⟩
      obtain ⟨v, hv1, hv2⟩ := hcells i j x hx
      exact ⟨v, hv1, inner_mono hX H.frz _ hv2⟩
    · rw [if_neg hik] at hi
      obtain ⟨h0, cb₁, base₁, c₁, e₁, h1, h2, h3, h4, h5⟩ := H.blk i bi hi
      have hne : cb₁ ≠ cb := fun hcb => by
        subst hcb
        by_cases hb : base₁ = base
        · subst hb; exact hik (H.inj k i b bi _ _ _ hk hi hr h1)
        · exact hik (H.inj k i b bi _ _ _ hk hi hr h1)
      refine ⟨h0, cb₁, base₁, c₁, e₁, h1, by rw [← h2]; exact setRow_other _ _ _ hne, h3, h4, fun i j x hx => ?_⟩
      obtain ⟨v, hv1, hv2⟩ := h5 i j x hx
      exact ⟨v, hv1, inner_mono hX H.frz _ hv2⟩
  · intro i i' bi bi' cb₁ ba ba' h1 h2 h3 h4
    have back : ∀ (j : Nat) bj, (lset h k (some b'))[j]? = some (some bj) → ∃ bj', h[j]? = some (some bj') := by
      intro j bj hj
      rw [lset_eq, List.getElem?_set] at hj
      by_cases hkj : k = j
      · subst hkj; exact ⟨b, hk⟩
      · rw [if_neg hkj] at hj; exact ⟨bj, hj⟩
    obtain ⟨_, q1⟩ := back i bi h1
    obtain ⟨_, q2⟩ := back i' bi' h2
    exact H.inj i i' _ _ cb₁ ba ba' q1 q2 h3 h4

/-- A new block. -/
def Env.push (E : Env) (o : Obj) (p : Nat × Nat) : Env :=
  { E with w := E.w.alloc o, S := ⟨E.S.ρ ++ [(E.w.heap.size, 0)], E.S.sh ++ [some p]⟩ }

theorem HRel.ext_push (H : HRel E h) (o : Obj) (p : Nat × Nat) : Ext E (E.push o p) where
  os := rfl
  tape := rfl
  output := rfl
  size := by simp [Env.push]
  frz _ h := h
  same b hb _ := by simp only [Env.push, World.alloc, Array.getElem?_push]; rw [if_neg (by omega)]
  rho k q hq := by simp only [Env.push]; rw [List.getElem?_append_left (List.getElem?_eq_some_iff.1 hq).1]; exact hq
  sh k q hk hq := by simp only [Env.push] at hq; rw [List.getElem?_append_left hk] at hq; exact hq
  rlen := H.rlen
  own b hb := by
    obtain ⟨k, base, q, h1, h2⟩ := hb
    simp only [Env.push] at h1 h2
    by_cases hk : k < E.S.ρ.length
    · rw [List.getElem?_append_left hk] at h1
      rw [List.getElem?_append_left (by rw [← H.rlen]; exact hk)] at h2
      exact .inl ⟨k, base, q, h1, h2⟩
    · rw [List.getElem?_append_right (by omega)] at h1
      have : k - E.S.ρ.length = 0 := by
        rcases Nat.eq_zero_or_pos (k - E.S.ρ.length) with h | h
        · exact h
        · rw [List.getElem?_eq_none (by simp; omega)] at h1; cases h1
      rw [this] at h1
      simp at h1
      exact .inr (by omega)
  nfrz _ h := .inl h
  cap b c e f hb := ⟨c, e, f, by
    simp only [Env.push, World.alloc, Array.getElem?_push]
    rw [if_neg (by have := (Array.getElem?_eq_some_iff.1 hb).1; omega)]; exact hb, rfl, rfl⟩
  mcap b es q hb := ⟨es, q, by
    simp only [Env.push, World.alloc, Array.getElem?_push]
    rw [if_neg (by have := (Array.getElem?_eq_some_iff.1 hb).1; omega)]; exact hb⟩
  off := H.off

theorem HRel.pushB (H : HRel E h) (b : ABlk) (c : Array Value) (e : TypeId) (hfit : b.fits) (hroom : b.room 0 c e)
    (hcells : ∀ i j x, b.cell i j = some x → ∃ v, c[i * b.shape.1 + j]? = some v ∧ Go.AL.Rel E.w E.F (b.inner E.S) x v) :
    HRel (E.push (b.obj c e) b.shape) (h ++ [some b]) := by
  have hX := H.ext_push (b.obj c e) b.shape
  refine ⟨?_, ?_, ?_, ?_, fun b hb => Nat.lt_of_lt_of_le (H.frz b hb) hX.size⟩
  · simp [Env.push, H.sh]
  · simp [Env.push, H.len]
  · intro k bk hk
    by_cases hlt : k < h.length
    · rw [List.getElem?_append_left hlt] at hk
      obtain ⟨h0, cb₁, base₁, c₁, e₁, h1, h2, h3, h4, h5⟩ := H.blk k bk hk
      refine ⟨h0, cb₁, base₁, c₁, e₁, hX.rho _ _ h1, ?_, h3, h4, fun i j x hx => ?_⟩
      · simp only [Env.push, World.alloc, Array.getElem?_push]
        rw [if_neg (by have := (Array.getElem?_eq_some_iff.1 h2).1; omega)]; exact h2
      · obtain ⟨v, hv1, hv2⟩ := h5 i j x hx
        exact ⟨v, hv1, inner_mono hX H.frz _ hv2⟩
    · rw [List.getElem?_append_right (by omega)] at hk
      have h0 : k - h.length = 0 := by
        rcases Nat.eq_zero_or_pos (k - h.length) with h' | h'
        · exact h'
        · rw [List.getElem?_eq_none (by simp; omega)] at hk; cases hk
      have hkl : k = h.length := by omega
      rw [h0] at hk
      simp at hk
      subst hk hkl
      refine ⟨hfit, E.w.heap.size, 0, c, e, ?_, ?_, fun hf => absurd (H.frz _ hf) (Nat.lt_irrefl _), hroom, fun i j x hx => ?_⟩
      · simp [Env.push, ← H.len]
      · show (E.w.heap.push _)[_]? = _
        simp
      · obtain ⟨v, hv1, hv2⟩ := hcells i j x hx
        exact ⟨v, by simpa using hv1, inner_mono hX H.frz _ hv2⟩
  · intro i i' bi bi' cb₁ ba ba' h1 h2 h3 h4
    have key : ∀ (j : Nat) bj base, (h ++ [some b])[j]? = some (some bj) → (E.push (b.obj c e) b.shape).S.ρ[j]? = some (cb₁, base) →
        (j < h.length ∧ h[j]? = some (some bj) ∧ E.S.ρ[j]? = some (cb₁, base) ∧ cb₁ < E.w.heap.size) ∨ (j = h.length ∧ cb₁ = E.w.heap.size) := by
      intro j bj base hj hrj
      simp only [Env.push] at hrj
      by_cases hlt : j < h.length
      · rw [List.getElem?_append_left hlt] at hj
        rw [List.getElem?_append_left (by rw [H.len]; exact hlt)] at hrj
        exact .inl ⟨hlt, hj, hrj, H.own_lt (H.own_of hj hrj)⟩
      · have hj' : j = h.length := by
          rcases Nat.lt_or_ge h.length j with h' | h'
          · rw [List.getElem?_eq_none (by simp; omega)] at hj; cases hj
          · omega
        subst hj'
        rw [List.getElem?_append_right (by rw [H.len]; omega)] at hrj
        rw [H.len] at hrj
        simp at hrj
        exact .inr ⟨rfl, hrj.1.symm⟩
    rcases key i bi ba h1 h3 with ⟨a1, a2, a3, a4⟩ | ⟨a1, a2⟩ <;> rcases key i' bi' ba' h2 h4 with ⟨b1, b2, b3, b4⟩ | ⟨b1, b2⟩
    · exact H.inj _ _ _ _ _ _ _ a2 b2 a3 b3
    · omega
    · omega
    · omega

theorem HRel.push (H : HRel E h) (b : ABlk) (c : Array Value) (e : TypeId) (hfit : b.fits) (hsz : b.shape.2 * b.shape.1 ≤ c.size)
    (hcells : ∀ i j x, b.cell i j = some x → ∃ v, c[i * b.shape.1 + j]? = some v ∧ Go.AL.Rel E.w E.F (b.inner E.S) x v)
    (hm : b.isM = false := by first | rfl | assumption) :
    HRel (E.push (.cells c e) b.shape) (h ++ [some b]) := by
  have h0 := H.pushB b c e hfit (by rw [ABlk.room_of hm]; simpa using hsz) hcells
  rw [ABlk.obj_of hm] at h0
  exact h0

/-- A block that nobody names. -/
def Env.junk (E : Env) (o : Obj) : Env := { E with w := E.w.alloc o }

theorem HRel.ext_junk (H : HRel E h) (o : Obj) : Ext E (E.junk o) where
  os := rfl
  tape := rfl
  output := rfl
  size := by simp [Env.junk]
  frz _ h := h
  same b hb _ := by simp only [Env.junk, World.alloc, Array.getElem?_push]; rw [if_neg (by omega)]
  rho _ _ h := h
  sh _ _ _ h := h
  rlen := H.rlen
  own _ h := .inl h
  nfrz _ h := .inl h
  cap b c e f hb := ⟨c, e, f, by
    simp only [Env.junk, World.alloc, Array.getElem?_push]
    rw [if_neg (by have := (Array.getElem?_eq_some_iff.1 hb).1; omega)]; exact hb, rfl, rfl⟩
  mcap b es q hb := ⟨es, q, by
    simp only [Env.junk, World.alloc, Array.getElem?_push]
    rw [if_neg (by have := (Array.getElem?_eq_some_iff.1 hb).1; omega)]; exact hb⟩
  off := H.off

theorem HRel.junk (H : HRel E h) (o : Obj) : HRel (E.junk o) h := by
  have hX := H.ext_junk o
  refine ⟨H.sh, H.len, fun k bk hk => ?_, H.inj, fun b hb => Nat.lt_of_lt_of_le (H.frz b hb) hX.size⟩
  obtain ⟨h0, cb₁, base₁, c₁, e₁, h1, h2, h3, h4, h5⟩ := H.blk k bk hk
  refine ⟨h0, cb₁, base₁, c₁, e₁, h1, ?_, h3, h4, fun i j x hx => ?_⟩
  · simp only [Env.junk, World.alloc, Array.getElem?_push]
    rw [if_neg (by have := (Array.getElem?_eq_some_iff.1 h2).1; omega)]; exact h2
  · obtain ⟨v, hv1, hv2⟩ := h5 i j x hx
    exact ⟨v, hv1, inner_mono hX H.frz _ hv2⟩

end Go.AL

/-! Reads and writes through the abstract heap. Seat-independent. -/

namespace Go.AL
variable {E : Env} {h : AHeap}

def At (w : World) (ad : Addr) (vs : List Value) : Prop := ∀ (j : Nat) v, vs[j]? = some v → w.cell? (ad.add j) = some v

theorem add_plain (b o j : Nat) : (⟨b, o, none⟩ : Addr).add j = ⟨b, o + j, none⟩ := by unfold Addr.add; split <;> simp_all

theorem closed_nil {w : World} {F : Nat → Prop} {S : Shp} {x : AV} {v : Value} (hc : closed x = true) (hr : Rel w F S x v) : Rel w F .nil x v := by
  cases hr <;> simp [closed] at hc
  case int => exact .int ..
  case bool => exact .bool ..
  case str => exact .str ..
  case pnil => exact .pnil ..
  case snil => exact .snil ..
  case semp => exact .semp ..
  case emp => exact .emp ..
  case fnil => exact .fnil ..
  case inil => exact .inil ..
  case ifv => exact .ifv ..
  case mnil => exact .mnil ..
  case rp row j cb base off vs h0 h1 h2 h3 => exact .rp _ _ _ _ _ _ vs h0 h1 h2 h3
  case ri k xs n cap a h1 h2 h3 h4 => exact .ri _ _ _ _ _ _ h1 h2 h3 h4
  case ro s rows n cap a vs h1 h2 h3 h4 h5 => exact .ro _ _ _ _ _ _ vs h1 h2 h3 h4 h5
  case yld => exact .yld ..
  case len n cap a h1 h2 => exact .len _ _ _ _ h1 h2

theorem leaf_one {w : World} {F : Nat → Prop} {S : Shp} {x : AV} {v : Value} (hc : leaf x = true) (hr : Rel w F S x v) : v.oneCell' = true := by
  cases hr <;> simp [leaf] at hc <;> rfl

theorem closed_leaf {x : AV} (h : closed x = true) : leaf x = true := by cases x <;> simp_all [closed, leaf]

theorem inner_to {w : World} {F : Nat → Prop} {S : Shp} (b : ABlk) {x : AV} {v : Value} (h : Rel w F (b.inner S) x v) : Rel w F S x v := by
  cases b with
  | box => exact h
  | ia => exact h.nil_to S
  | arr => exact h.nil_to S
  | mp => exact h.nil_to S

theorem read_blk (H : HRel E h) {k : Nat} {b : ABlk} (hk : h[k]? = some (some b)) {cb base : Nat} (hr : E.S.ρ[k]? = some (cb, base)) (cs : List AV) (i j : Nat)
    (hcs : ∀ (q : Nat) x, cs[q]? = some x → b.cell i (j + q) = some x) (hm : b.isM = false := by first | rfl | assumption) :
    ∃ vs : List Value, vs.length = cs.length ∧ At E.w ⟨cb, base + i * b.shape.1 + j, none⟩ vs ∧
      ∀ (q : Nat) x v, cs[q]? = some x → vs[q]? = some v → Go.AL.Rel E.w E.F (b.inner E.S) x v := by
  obtain ⟨h0, cb₁, base₁, c, e, h1, h2, h3, h4, h5⟩ := H.cblk k b hk
  rw [hr] at h1
  obtain ⟨rfl, rfl⟩ := Prod.mk.inj (Option.some.inj h1)
  refine ⟨(List.range cs.length).map fun q => (c[base + i * b.shape.1 + (j + q)]?).getD undef, by simp, ?_, ?_⟩
  · intro q v hq
    rw [add_plain]
    rw [List.getElem?_map] at hq
    by_cases hlt : q < cs.length
    · rw [List.getElem?_range hlt] at hq
      obtain ⟨u, hu, _⟩ := h5 i (j + q) cs[q] (hcs q _ (List.getElem?_eq_getElem hlt))
      simp only [Option.map_some, hu, Option.getD_some, Option.some.injEq] at hq
      subst hq
      simp [World.cell?, h2, ← hu, Nat.add_assoc]
    · rw [List.getElem?_eq_none (by simp; omega)] at hq; simp at hq
  · intro q x v hx hv
    have hlt : q < cs.length := (List.getElem?_eq_some_iff.1 hx).1
    obtain ⟨u, hu, hR⟩ := h5 i (j + q) x (hcs q _ hx)
    rw [List.getElem?_map, List.getElem?_range hlt] at hv
    simp only [Option.map_some, hu, Option.getD_some, Option.some.injEq] at hv
    subst hv
    exact hR

theorem part_some {cs : List AV} {j n : Nat} {l : List AV} (h : part cs j n = some l) : j + n ≤ cs.length ∧ l = (cs.drop j).take n := by
  unfold part at h
  split at h
  · rename_i hb; exact ⟨Nat.le_of_ble_eq_true hb, (Option.some.inj h).symm⟩
  · cases h

theorem part_get {cs : List AV} {j n : Nat} {l : List AV} (h : part cs j n = some l) : l.length = n ∧ ∀ (q : Nat) x, l[q]? = some x → cs[j + q]? = some x := by
  obtain ⟨h1, rfl⟩ := part_some h
  refine ⟨by simp; omega, fun q x hx => ?_⟩
  rw [List.getElem?_take] at hx
  split at hx
  · rw [List.getElem?_drop] at hx; exact hx
  · cases hx

theorem readAt_sound (H : HRel E h) {a : AV} {va : Value} (ha : E.R a va) {n : Nat} {cs : List AV} (hr : readAt h a n = some (true, cs)) :
    ∃ ad vs, va = .pointer (some ad) ∧ vs.length = n ∧ cs.length = n ∧ At E.w ad vs ∧ ∀ (q : Nat) x v, cs[q]? = some x → vs[q]? = some v → E.R x v := by
  cases ha <;> simp only [readAt] at hr <;> try cases hr
  case bp b j cb base off h2 h1 =>
    rw [nth_eq] at hr
    split at hr <;> try cases hr
    rename_i l hl
    cases hp : part l j n with
    | none => rw [hp] at hr; cases hr
    | some l' =>
      rw [hp] at hr
      obtain rfl : l' = cs := by simpa using hr
      obtain ⟨p1, p2⟩ := part_get hp
      obtain ⟨vs, v1, v2, v3⟩ := read_blk H hl h1 l' 0 j (fun q x hx => by simp only [ABlk.cell, if_true]; exact p2 q x hx)
      refine ⟨_, vs, rfl, v1.trans p1, p1, ?_, fun q x v hx hv => inner_to _ (v3 q x v hx hv)⟩
      simpa [h2] using v2
  case rp row j cb base off vs h0 h1 h2 h3 =>
    cases hp : part row j n with
    | none => rw [hp] at hr; cases hr
    | some l' =>
      rw [hp] at hr
      obtain rfl : l' = cs := by simpa using hr
      obtain ⟨p1, p2⟩ := part_get hp
      refine ⟨_, (List.range n).map fun q => vs (j + q), rfl, by simp, p1, ?_, ?_⟩
      · intro q v hv
        rw [List.getElem?_map] at hv
        by_cases hlt : q < n
        · rw [List.getElem?_range hlt] at hv
          obtain rfl := Option.some.inj hv
          rw [add_plain, h1, Nat.add_assoc]
          exact h2 (j + q) _ (p2 q _ (List.getElem?_eq_getElem (by omega)))
        · rw [List.getElem?_eq_none (by simp; omega)] at hv; cases hv
      · intro q x v hx hv
        have hlt : q < n := by have := (List.getElem?_eq_some_iff.1 hx).1; omega
        rw [List.getElem?_map, List.getElem?_range hlt] at hv
        obtain rfl := Option.some.inj hv
        exact (h3 (j + q) x (p2 q x hx)).nil_to _
  case ep b i j cb base off h1 h2 =>
    rw [nth_eq] at hr
    split at hr <;> try cases hr
    · rename_i k xs hl
      split at hr <;> try cases hr
      simp only [Option.some.injEq, Prod.mk.injEq, decide_eq_true_eq] at hr
      obtain ⟨hi, rfl⟩ := hr
      have hoff := h2 _ _ (H.live.2 ⟨_, hl, rfl⟩)
      obtain ⟨vs, v1, v2, v3⟩ := read_blk H hl h1 [.int k (xs.getD i 0)] i 0 (fun q x hx => by
        match q, hx with
        | 0, hx =>
          simp only [List.getElem?_cons_zero, Option.some.injEq] at hx
          subst hx
          simp [ABlk.cell, List.getElem?_eq_getElem hi, List.getD])
      refine ⟨_, vs, rfl, v1, rfl, ?_, fun q x v hx hv => inner_to _ (v3 q x v hx hv)⟩
      rw [hoff]; exact v2
    · rename_i s rows hl
      rw [nth_eq] at hr
      cases hrow : rows[i]? with
      | none => rw [hrow] at hr; cases hr
      | some row =>
        rw [hrow] at hr
        simp only at hr
        cases hp : part row j n with
        | none => rw [hp] at hr; cases hr
        | some l' =>
          rw [hp] at hr
          obtain rfl : l' = cs := by simpa using hr
          obtain ⟨p1, p2⟩ := part_get hp
          have hoff := h2 _ _ (H.live.2 ⟨_, hl, rfl⟩)
          obtain ⟨vs, v1, v2, v3⟩ := read_blk H hl h1 l' i j (fun q x hx => by simp only [ABlk.cell, hrow, Option.bind_some]; exact p2 q x hx)
          refine ⟨_, vs, rfl, v1.trans p1, p1, ?_, fun q x v hx hv => inner_to _ (v3 q x v hx hv)⟩
          rw [hoff]; exact v2

theorem write_blk (P : Program) (H : HRel E h) {k : Nat} {b b' : ABlk} (hk : h[k]? = some (some b)) {cb base : Nat} (hr : E.S.ρ[k]? = some (cb, base)) (i j : Nat)
    (new : List AV) (news : List Value) (hlen : news.length = new.length) (hsh : b'.shape = b.shape) (hfit : b'.fits) (hi : i < b.shape.2) (hj : j + new.length ≤ b.shape.1)
    (hcol : ∀ i' j' x, b'.cell i' j' = some x → j' < b.shape.1)
    (hb' : ∀ i' j' x, b'.cell i' j' = some x → (i' = i ∧ j ≤ j' ∧ j' < j + new.length ∧ new[j' - j]? = some x) ∨ (¬ (i' = i ∧ j ≤ j' ∧ j' < j + new.length) ∧ b.cell i' j' = some x))
    (hin : b'.inner E.S = b.inner E.S)
    (hnew : ∀ (q : Nat) x v, new[q]? = some x → news[q]? = some v → Go.AL.Rel E.w E.F (b.inner E.S) x v) (hone : ∀ v ∈ news, v.oneCell' = true)
    (hm : b.isM = false := by first | rfl | assumption) (hm' : b'.isM = false := by first | rfl | assumption) :
    ∃ c' : Array Value, (storeCells ⟨cb, base + i * b.shape.1 + j, none⟩ news 0).run P E.w = .ok () (E.setRow cb c').w ∧ Ext E (E.setRow cb c') ∧
      HRel (E.setRow cb c') (lset h k (some b')) := by
  obtain ⟨h0, cb₁, base₁, c, e, h1, h2, h3, h4, h5⟩ := H.cblk k b hk
  rw [hr] at h1
  obtain ⟨rfl, rfl⟩ := Prod.mk.inj (Option.some.inj h1)
  generalize ho : base + i * b.shape.1 + j = o
  have hrow : i * b.shape.1 + b.shape.1 ≤ b.shape.2 * b.shape.1 := by
    rw [← Nat.succ_mul]; exact Nat.mul_le_mul_right _ hi
  have hfitc : o + news.length ≤ c.size := by omega
  have hst := run_storeCells_at P cb o e news 0 c E.w h2 (by simpa using hfitc) hone
  simp only [Nat.add_zero] at hst
  refine ⟨_, hst, ?_, ?_⟩
  · exact H.ext_setRow (H.own_of hk hr) h2 (by simp; omega)
  · refine H.set hk hr h2 (by simp; omega) hsh hfit fun i' j' x hx => ?_
    rw [hin, hsh]
    have hj' := hcol i' j' x hx
    have hget : ∀ p : Nat, (c.toList.take o ++ news ++ c.toList.drop (o + news.length)).toArray[p]? = if o ≤ p ∧ p < o + news.length then news[p - o]? else c[p]? := by
      intro p
      rw [List.getElem?_toArray, List.getElem?_append, List.getElem?_append]
      have ht : (c.toList.take o).length = o := by simp; omega
      simp only [List.length_append, ht]
      by_cases hp1 : p < o
      · rw [if_pos (by omega), if_pos hp1, if_neg (by omega)]
        rw [List.getElem?_take, if_pos hp1]; simp
      · by_cases hp2 : p < o + news.length
        · rw [if_pos hp2, if_neg hp1, if_pos ⟨by omega, hp2⟩]
        · rw [if_neg hp2, if_neg (by omega), List.getElem?_drop, show o + news.length + (p - (o + news.length)) = p by omega]; simp
    rcases hb' i' j' x hx with ⟨rfl, q1, q2, q3⟩ | ⟨q1, q2⟩
    · have hlt : j' - j < news.length := by omega
      refine ⟨news[j' - j], ?_, hnew (j' - j) x _ q3 (List.getElem?_eq_getElem hlt)⟩
      rw [hget, if_pos (by omega), show base + i' * b.shape.1 + j' - o = j' - j by omega, List.getElem?_eq_getElem hlt]
    · obtain ⟨v, hv1, hv2⟩ := h5 i' j' x q2
      refine ⟨v, ?_, hv2⟩
      rw [hget, if_neg, hv1]
      rintro ⟨r1, r2⟩
      apply q1
      have hii : i' = i := by
        rcases Nat.lt_trichotomy i' i with hl | hl | hl
        · have : i' * b.shape.1 + b.shape.1 ≤ i * b.shape.1 := by rw [← Nat.succ_mul]; exact Nat.mul_le_mul_right _ hl
          omega
        · exact hl
        · have : i * b.shape.1 + b.shape.1 ≤ i' * b.shape.1 := by rw [← Nat.succ_mul]; exact Nat.mul_le_mul_right _ hl
          omega
      subst hii
      exact ⟨rfl, by omega, by omega⟩

theorem splice_get : ∀ (cs : List AV) (j : Nat) (new : List AV), j + new.length ≤ cs.length → (splice cs j new).length = cs.length ∧
    ∀ p, (splice cs j new)[p]? = if j ≤ p ∧ p < j + new.length then new[p - j]? else cs[p]?
  | cs, 0, new, h => by
    refine ⟨by simp [splice]; omega, fun p => ?_⟩
    simp only [splice]
    rw [List.getElem?_append]
    by_cases hp : p < new.length
    · rw [if_pos hp, if_pos (by omega)]; simp
    · rw [if_neg hp, if_neg (by omega), List.getElem?_drop, show new.length + (p - new.length) = p by omega]
  | [], j + 1, new, h => by simp at h
  | c :: cs, j + 1, new, h => by
    obtain ⟨h1, h2⟩ := splice_get cs j new (by simp at h; omega)
    refine ⟨by simp [splice, h1], fun p => ?_⟩
    cases p with
    | zero => simp [splice]
    | succ p =>
      simp only [splice, List.getElem?_cons_succ, h2 p]
      by_cases hp : j ≤ p ∧ p < j + new.length
      · rw [if_pos hp, if_pos (by omega), show p + 1 - (j + 1) = p - j by omega]
      · rw [if_neg hp, if_neg (by omega)]

/-- Concrete values beside abstract ones. -/
def Bes (E : Env) (xs : List AV) (vs : List Value) : Prop := xs.length = vs.length ∧ ∀ (q : Nat) x v, xs[q]? = some x → vs[q]? = some v → E.R x v

theorem Bes.one {xs : List AV} {vs : List Value} (h : Bes E xs vs) (hl : xs.all leaf = true) : ∀ v ∈ vs, v.oneCell' = true := by
  intro v hv
  obtain ⟨q, hq, rfl⟩ := List.getElem_of_mem hv
  have hlt : q < xs.length := by rw [h.1]; exact hq
  exact leaf_one (List.all_eq_true.1 hl _ (List.getElem_mem hlt)) (h.2 q _ _ (List.getElem?_eq_getElem hlt) (List.getElem?_eq_getElem hq))

theorem closed_all {xs : List AV} (h : xs.all closed = true) : xs.all leaf = true := by
  rw [List.all_eq_true] at *
  exact fun x hx => closed_leaf (h x hx)

theorem writeAt_sound (P : Program) (H : HRel E h) {a : AV} {va : Value} (ha : E.R a va) {new : List AV} {news : List Value} (hb : Bes E new news) {e : Eff} (hw : writeAt h a new = some (true, e)) :
    ∃ ad E', va = .pointer (some ad) ∧ (storeCells ad news 0).run P E.w = .ok () E'.w ∧ Ext E E' ∧ HRel E' (e.app h) := by
  cases ha <;> simp only [writeAt] at hw <;> try (cases hw; done)
  case bp b j cb base off h2 h1 =>
    rw [nth_eq] at hw
    split at hw <;> try (cases hw; done)
    rename_i l hl
    split at hw <;> try (cases hw; done)
    rename_i hc
    rw [Bool.and_eq_true] at hc
    have hle := Nat.le_of_ble_eq_true hc.1
    simp only [Option.some.injEq, Prod.mk.injEq, true_and] at hw
    subst hw
    obtain ⟨s1, s2⟩ := splice_get l j new hle
    obtain ⟨c', w1, w2, w3⟩ := write_blk P H hl h1 (b' := .box (splice l j new)) 0 j new news hb.1.symm (by simp [ABlk.shape, s1]) trivial (by simp [ABlk.shape]) hle
      (fun i' j' x hx => by
        simp only [ABlk.cell] at hx
        split at hx
        · have := (List.getElem?_eq_some_iff.1 hx).1; simpa [ABlk.shape, s1] using this
        · cases hx)
      (fun i' j' x hx => by
        simp only [ABlk.cell] at hx ⊢
        split at hx
        · rename_i hi
          subst hi
          rw [s2] at hx
          split at hx
          · rename_i hr; exact .inl ⟨rfl, hr.1, hr.2, hx⟩
          · rename_i hr; exact .inr ⟨fun h => hr h.2, by simpa using hx⟩
        · cases hx)
      rfl (fun q x v hx hv => hb.2 q x v hx hv) (hb.one hc.2)
    refine ⟨_, _, rfl, ?_, w2, w3⟩
    simpa [h2] using w1
  case ep b i j cb base off h1 h2 =>
    rw [nth_eq] at hw
    split at hw <;> try (cases hw; done)
    · rename_i k xs hl
      split at hw <;> try (cases hw; done)
      rename_i k' n
      split at hw <;> try (cases hw; done)
      rename_i hkk
      have hkk : k' = k := of_decide_eq_true hkk
      subst hkk
      simp only [Option.some.injEq, Prod.mk.injEq, decide_eq_true_eq] at hw
      obtain ⟨hi, rfl⟩ := hw
      have hoff := h2 _ _ (H.live.2 ⟨_, hl, rfl⟩)
      obtain ⟨c', w1, w2, w3⟩ := write_blk P H hl h1 (b' := .ia k' (xs.set i n)) i 0 [.int k' n] news hb.1.symm (by simp [ABlk.shape]) trivial (by simpa [ABlk.shape] using hi) (by simp [ABlk.shape])
        (fun i' j' x hx => by
          simp only [ABlk.cell] at hx
          split at hx
          · rename_i hj; subst hj; simp [ABlk.shape]
          · cases hx)
        (fun i' j' x hx => by
          simp only [ABlk.cell] at hx ⊢
          split at hx
          · rename_i hj
            subst hj
            rw [List.getElem?_set] at hx
            by_cases hii : i = i'
            · subst hii
              rw [if_pos rfl, if_pos hi] at hx
              exact .inl ⟨rfl, by omega, by simp, by simpa using hx⟩
            · rw [if_neg hii] at hx
              exact .inr ⟨fun h => hii h.1.symm, by simpa using hx⟩
          · cases hx)
        rfl (fun q x v hx hv => closed_nil (by
          match q, hx with
          | 0, hx => simp only [List.getElem?_cons_zero, Option.some.injEq] at hx; subst hx; rfl) (hb.2 q x v hx hv)) (hb.one rfl)
      refine ⟨_, _, rfl, ?_, w2, w3⟩
      rw [hoff]; exact w1
    · rename_i s rows hl
      rw [nth_eq] at hw
      cases hrow : rows[i]? with
      | none => rw [hrow] at hw; cases hw
      | some row =>
        rw [hrow] at hw
        simp only at hw
        split at hw <;> try (cases hw; done)
        rename_i hc
        rw [Bool.and_eq_true] at hc
        have hle := Nat.le_of_ble_eq_true hc.1
        simp only [Option.some.injEq, Prod.mk.injEq, true_and] at hw
        subst hw
        have hfit := (H.blk _ _ hl).1
        have hrl : row.length = s := hfit i row hrow
        have hilt : i < rows.length := (List.getElem?_eq_some_iff.1 hrow).1
        obtain ⟨s1, s2⟩ := splice_get row j new hle
        have hoff := h2 _ _ (H.live.2 ⟨_, hl, rfl⟩)
        obtain ⟨c', w1, w2, w3⟩ := write_blk P H hl h1 (b' := .arr s (lset rows i (splice row j new))) i j new news hb.1.symm (by simp [ABlk.shape, lset_eq])
          (fun i' r hr => by
            rw [lset_eq, List.getElem?_set] at hr
            by_cases hii : i = i'
            · subst hii
              rw [if_pos rfl, if_pos hilt] at hr
              obtain rfl := Option.some.inj hr
              exact s1.trans hrl
            · rw [if_neg hii] at hr; exact hfit i' r hr)
          (by simpa [ABlk.shape] using hilt) (by simp only [ABlk.shape]; omega)
          (fun i' j' x hx => by
            simp only [ABlk.cell, lset_eq, List.getElem?_set] at hx
            by_cases hii : i = i'
            · subst hii
              rw [if_pos rfl, if_pos hilt] at hx
              have := (List.getElem?_eq_some_iff.1 hx).1
              simp only [ABlk.shape]; omega
            · rw [if_neg hii] at hx
              cases hr' : rows[i']? with
              | none => rw [hr'] at hx; cases hx
              | some r' =>
                rw [hr'] at hx
                have h1 := hfit i' r' hr'
                have := (List.getElem?_eq_some_iff.1 hx).1
                simp only [ABlk.shape]; omega)
          (fun i' j' x hx => by
            simp only [ABlk.cell, lset_eq, List.getElem?_set] at hx ⊢
            by_cases hii : i = i'
            · subst hii
              rw [if_pos rfl, if_pos hilt] at hx
              simp only [Option.bind_some] at hx
              rw [s2] at hx
              split at hx
              · rename_i hr; exact .inl ⟨rfl, hr.1, hr.2, hx⟩
              · rename_i hr; exact .inr ⟨fun h => hr h.2, by simpa [hrow] using hx⟩
            · rw [if_neg hii] at hx
              exact .inr ⟨fun h => hii h.1.symm, hx⟩)
          rfl (fun q x v hx hv => closed_nil (List.all_eq_true.1 hc.2 _ (List.mem_of_getElem? hx)) (hb.2 q x v hx hv)) (hb.one (closed_all hc.2))
        refine ⟨_, _, rfl, ?_, w2, w3⟩
        rw [hoff]; exact w1

end Go.AL
