/- Slicing, making, building, appending. Seat-independent. -/
import Derived.Test.YtamgmfinkgdkjaaDoorAL8
import Derived.Laws.Append
namespace Go.AL
variable {E : Env} {h : AHeap} {P : Program}

theorem run_slice {t e : TypeId} (ht : P.underlying t = some (.slice e)) {s : Nat} (hs : sizeB P e = some s) {a : Option Addr} {n cap : Nat} {lo hi : Option Value} {l r : Int}
    (hlo : lo = none ∧ l = 0 ∨ ∃ k, lo = some (.int k l)) (hhi : hi = none ∧ r = n ∨ ∃ k, hi = some (.int k r)) (h0 : 0 ≤ l ∧ l ≤ r ∧ r ≤ n) (hc : n ≤ cap) (w : World) :
    (Instr.sliceAt t (.slice a n cap) lo hi none).run P w =
      .ok (.slice (if cap = l.toNat then a else a.map (·.add (l.toNat * s))) (r.toNat - l.toNat) (cap - l.toNat)) w := by
  have e1 : (0 : Int) ≤ r ∧ r ≤ (cap : Int) := by omega
  rcases hlo with ⟨rfl, rfl⟩ | ⟨k1, rfl⟩ <;> rcases hhi with ⟨rfl, rfl⟩ | ⟨k2, rfl⟩
  · simp [Instr.sliceAt, run_underlying ht, Instr.slice, Instr.sliceBounds, run_sizeOf' hs]
  · simp [Instr.sliceAt, run_underlying ht, Instr.slice, Instr.sliceBounds, run_sizeOf' hs, Instr.sliceBound, asIntOf, e1]
  · have e2 : (0 : Int) ≤ l ∧ l ≤ (n : Int) := by omega
    simp [Instr.sliceAt, run_underlying ht, Instr.slice, Instr.sliceBounds, run_sizeOf' hs, Instr.sliceBound, asIntOf, e2]
  · have e2 : (0 : Int) ≤ l ∧ l ≤ (r.toNat : Int) := by omega
    have e3 : ¬ (max r 0 < l) := by omega
    simp [e3, Instr.sliceAt, run_underlying ht, Instr.slice, Instr.sliceBounds, run_sizeOf' hs, Instr.sliceBound, asIntOf, e1, e2]
    try (intro hh; omega)

theorem op_sliceStr (H : HRel E h) {t : TypeId} (ht : P.underlying t = some .string) {s : ByteArray} {lo hi : Option Value} {l r : Int}
    (hlo : lo = none ∧ l = 0 ∨ ∃ k, lo = some (.int k l)) (hhi : hi = none ∧ r = s.size ∨ ∃ k, hi = some (.int k r)) (h0 : 0 ≤ l ∧ l ≤ r ∧ r ≤ s.size) :
    Runs P (do pure (.value (← Instr.sliceAt t (.string s) lo hi none))) E h (.str (s.extract l.toNat r.toNat)) .keep := by
  refine .keep H (u := .string (s.extract l.toNat r.toNat)) ?_ (.str ..)
  have e1 : (0 : Int) ≤ r ∧ r ≤ (s.size : Int) := by omega
  rcases hlo with ⟨rfl, rfl⟩ | ⟨k1, rfl⟩ <;> rcases hhi with ⟨rfl, rfl⟩ | ⟨k2, rfl⟩
  · simp [Instr.sliceAt, run_underlying ht, Instr.slice, Instr.sliceBounds]
  · simp [Instr.sliceAt, run_underlying ht, Instr.slice, Instr.sliceBounds, Instr.sliceBound, asIntOf, e1]
  · have e2 : (0 : Int) ≤ l ∧ l ≤ (s.size : Int) := by omega
    simp [Instr.sliceAt, run_underlying ht, Instr.slice, Instr.sliceBounds, Instr.sliceBound, asIntOf, e2]
  · have e2 : (0 : Int) ≤ l ∧ l ≤ (r.toNat : Int) := by omega
    have e3 : ¬ (max r 0 < l) := by omega
    simp [e3, Instr.sliceAt, run_underlying ht, Instr.slice, Instr.sliceBounds, Instr.sliceBound, asIntOf, e1, e2]

theorem rel_ri {k : IntKind} {xs : List Int} {v : Value} (h : E.R (.ri k xs) v) : ∃ (a : Option Addr) (cap : Nat), v = .slice a xs.length cap ∧ xs.length ≤ cap ∧
    (∀ (i : Nat) x, xs[i]? = some x → ∃ cb off, a = some ⟨cb, off, none⟩ ∧ E.F cb ∧ E.w.cell? ⟨cb, off + i, none⟩ = some (.int k x)) ∧ (a = none → cap = 0) := by
  cases h with
  | ri _ _ _ n cap a h1 h2 h3 h4 => subst h1; exact ⟨a, cap, rfl, h2, h3, h4⟩

theorem rel_ro {s : Nat} {rows : List (List AV)} {v : Value} (h : E.R (.ro s rows) v) : ∃ (a : Option Addr) (cap : Nat) (vs : Nat → Nat → Value), v = .slice a rows.length cap ∧ rows.length ≤ cap ∧
    (∀ (i : Nat) row, rows[i]? = some row → row.length = s ∧ ∃ cb off, a = some ⟨cb, off, none⟩ ∧ E.F cb ∧
        ∀ (j : Nat) x, row[j]? = some x → E.w.cell? ⟨cb, off + i * s + j, none⟩ = some (vs i j)) ∧
    (∀ (i j : Nat) row x, rows[i]? = some row → row[j]? = some x → Rel E.w E.F .nil x (vs i j)) ∧ (a = none → cap = 0) := by
  cases h with
  | ro _ _ _ n cap a vs h1 h2 h3 h4 h5 => subst h1; exact ⟨a, cap, vs, rfl, h2, h3, h4, h5⟩

theorem op_slice (H : HRel E h) {t e : TypeId} (ht : P.underlying t = some (.slice e)) {s : Nat} (hs : sizeB P e = some s) {x : AV} {vx : Value} (hx : E.R x vx) {n : Nat} (hn : slLen x = some n)
    {lo hi : Option Value} {l r : Int} (hlo : lo = none ∧ l = 0 ∨ ∃ k, lo = some (.int k l)) (hhi : hi = none ∧ r = n ∨ ∃ k, hi = some (.int k r)) (h0 : 0 ≤ l ∧ l ≤ r ∧ r ≤ n) {v : AV}
    (hv : sliceV h s x l r = some v) :
    Runs P (do pure (.value (← Instr.sliceAt t vx lo hi none))) E h v .keep := by
  cases x <;> simp [slLen] at hn <;> simp only [sliceV] at hv <;> try (cases hv; done)
  · rename_i b i n'
    subst hn
    obtain ⟨cb, base, off, cap, rfl, h1, h3, h2⟩ := rel_sl hx
    rw [nth_eq] at hv
    split at hv <;> try (cases hv; done)
    rename_i blk hb
    split at hv <;> try (cases hv; done)
    rename_i hsz
    have hsz : blk.shape.1 = s := by have := Nat.eq_of_beq_eq_true hsz; rw [← this]; cases blk <;> rfl
    obtain rfl := Option.some.inj hv
    refine .keep H (by simp only [Sem.run_bind, run_slice ht hs hlo hhi h0 h2, Result.andThen_ok, Sem.run_pure]; rfl) ?_
    have key : ∃ off', (if cap = l.toNat then some (⟨cb, off, none⟩ : Addr) else (some (⟨cb, off, none⟩ : Addr)).map (·.add (l.toNat * s))) = some ⟨cb, off', none⟩ ∧ (cap - l.toNat = 0 ∨ off' = off + l.toNat * s) := by
      split
      · exact ⟨off, rfl, .inl (by omega)⟩
      · exact ⟨off + l.toNat * s, by simp [add_plain], .inr rfl⟩
    obtain ⟨off', e1, e2⟩ := key
    rw [e1]
    refine .sl _ _ _ _ cb base off' _ h1 (fun s' N hN => ?_) (by omega)
    obtain ⟨g1, g2, g3, c, ee, f, g4, g5⟩ := h3 s' N hN
    rw [H.live.2 ⟨blk, hb, rfl⟩] at hN
    have : s' = s := by rw [← hsz, Option.some.inj (Option.some.inj hN)]
    subst this
    refine ⟨?_, by omega, by omega, c, ee, f, g4, by rw [show i + l.toNat + (cap - l.toNat) = i + cap by omega]; exact g5⟩
    rcases e2 with e2 | e2
    · exact .inl e2
    · rcases g1 with g1 | g1
      · exact .inl (by omega)
      · right; rw [e2, g1, Nat.add_mul]; omega
  · rename_i k xs
    obtain ⟨a, cap, rfl, h2, h3, h4⟩ := rel_ri hx
    split at hv <;> try (cases hv; done)
    rename_i hs1
    have hs1 := Nat.eq_of_beq_eq_true hs1
    subst hs1
    obtain rfl := Option.some.inj hv
    subst hn
    refine .keep H (by simp only [Sem.run_bind, run_slice ht hs hlo hhi h0 h2, Result.andThen_ok, Sem.run_pure]; rfl) ?_
    refine .ri _ _ _ _ _ _ (by simp; omega) (by omega) (fun i x hy => ?_) (fun ha => ?_)
    · rw [List.getElem?_take] at hy
      split at hy
      · rw [List.getElem?_drop] at hy
        have : l.toNat + i < xs.length := (List.getElem?_eq_some_iff.1 hy).1
        obtain ⟨cb, off, rfl, b1, b2⟩ := h3 _ x hy
        rw [if_neg (by omega)]
        exact ⟨cb, off + l.toNat, by simp [add_plain], b1, by rw [Nat.add_assoc]; exact b2⟩
      · cases hy
    · split at ha
      · omega
      · have : a = none := by cases a <;> simp_all
        have := h4 this; omega
  · rename_i s' rows
    obtain ⟨a, cap, vs, rfl, h2, h3, h4, h5⟩ := rel_ro hx
    split at hv <;> try (cases hv; done)
    rename_i hs1
    have hs1 := Nat.eq_of_beq_eq_true hs1
    subst hs1
    obtain rfl := Option.some.inj hv
    subst hn
    refine .keep H (by simp only [Sem.run_bind, run_slice ht hs hlo hhi h0 h2, Result.andThen_ok, Sem.run_pure]; rfl) ?_
    refine .ro _ _ _ _ _ _ (fun i j => vs (l.toNat + i) j) (by simp; omega) (by omega) (fun i row hz => ?_) (fun i j row x hx hy => ?_) (fun ha => ?_)
    · rw [List.getElem?_take] at hz
      split at hz
      · rw [List.getElem?_drop] at hz
        have : l.toNat + i < rows.length := (List.getElem?_eq_some_iff.1 hz).1
        obtain ⟨b0, cb, off, rfl, b1, b2⟩ := h3 _ row hz
        rw [if_neg (by omega)]
        exact ⟨b0, cb, off + l.toNat * s', by simp [add_plain], b1, fun j x hj => by rw [← b2 j x hj, Nat.add_mul]; congr 2; omega⟩
      · cases hz
    · rw [List.getElem?_take] at hx
      split at hx
      · rw [List.getElem?_drop] at hx
        exact h4 _ j row x hx hy
      · cases hx
    · split at ha
      · omega
      · have : a = none := by cases a <;> simp_all
        have := h5 this; omega

/-! ### Filling -/

theorem foldl_set (off : Nat) : ∀ (l : List Value) (k : Nat) (c : Array Value),
    ((l.zipIdx k).foldl (fun cs (p : Value × Nat) => cs.setIfInBounds (off + p.2) p.1) c).size = c.size ∧
    ∀ q, ((l.zipIdx k).foldl (fun cs (p : Value × Nat) => cs.setIfInBounds (off + p.2) p.1) c)[q]? =
      if off + k ≤ q ∧ q < off + k + l.length ∧ q < c.size then l[q - (off + k)]? else c[q]?
  | [], k, c => ⟨rfl, fun q => by simp only [List.zipIdx_nil, List.foldl_nil]; rw [if_neg (by simp; omega)]⟩
  | v :: l, k, c => by
    obtain ⟨h1, h2⟩ := foldl_set off l (k + 1) (c.setIfInBounds (off + k) v)
    simp only [List.zipIdx_cons, List.foldl_cons]
    refine ⟨by rw [h1]; simp, fun q => ?_⟩
    rw [h2 q, Array.getElem?_setIfInBounds]
    simp only [Array.size_setIfInBounds, List.length_cons]
    by_cases hq : q = off + k
    · subst hq
      rw [if_neg (by omega), if_pos rfl]
      by_cases hlt : off + k < c.size
      · rw [if_pos hlt, if_pos (by omega)]; simp
      · rw [if_neg hlt, if_neg (by omega)]
        rw [Array.getElem?_eq_none (by omega)]
    · by_cases hr : off + (k + 1) ≤ q ∧ q < off + (k + 1) + l.length ∧ q < c.size
      · rw [if_pos hr, if_pos (by omega), show q - (off + k) = q - (off + (k + 1)) + 1 by omega]; simp
      · rw [if_neg hr, if_neg (by omega), if_neg (by omega)]

theorem fill_step (c : Array Value) (off : Nat) (v : Value) (hle : off + v.cells.size ≤ c.size) :
    (v.cells.zipIdx.foldl (fun cs (x, j) => cs.setIfInBounds (off + j) x) c).size = c.size ∧
    ∀ q, (v.cells.zipIdx.foldl (fun cs (x, j) => cs.setIfInBounds (off + j) x) c)[q]? = if off ≤ q ∧ q < off + v.cells.size then v.cells[q - off]? else c[q]? := by
  obtain ⟨h1, h2⟩ := foldl_set off v.cells.toList 0 c
  have e : v.cells.zipIdx.foldl (fun cs (x, j) => cs.setIfInBounds (off + j) x) c = (v.cells.toList.zipIdx 0).foldl (fun cs (p : Value × Nat) => cs.setIfInBounds (off + p.2) p.1) c := by
    rw [← Array.foldl_toList, Array.toList_zipIdx]
  rw [e]
  refine ⟨h1, fun q => ?_⟩
  rw [h2 q]
  simp only [Nat.add_zero, Array.length_toList, Array.getElem?_toList]
  by_cases hr : off ≤ q ∧ q < off + v.cells.size
  · rw [if_pos ⟨hr.1, hr.2, by omega⟩, if_pos hr]
  · rw [if_neg (by omega), if_neg hr]

theorem fill_sound (place : Nat → Option (Nat × Nat)) : ∀ (parts : List (Nat × Value)) (aps : List (Nat × Nat × AV)) (c : Array Value) (cs l : List AV), Bes E cs c.toList → aps.length = parts.length →
    (∀ (q : Nat) i v off n x, parts[q]? = some (i, v) → aps[q]? = some (off, n, x) → place i = some (off, n) ∧ n ≠ 0 ∧ E.R x v) → fill cs aps = some l →
    ∃ c', Instr.fill place c parts = some c' ∧ Bes E l c'.toList
  | [], [], c, cs, l, hb, _, _, hf => by simp only [fill, Option.some.injEq] at hf; subst hf; exact ⟨c, rfl, hb⟩
  | [], _ :: _, _, _, _, _, hl, _, _ => by simp at hl
  | _ :: _, [], _, _, _, _, hl, _, _ => by simp at hl
  | (i, v) :: ps, (off, n, x) :: as, c, cs, l, hb, hl, hp, hf => by
    obtain ⟨hpl, hn, hR⟩ := hp 0 i v off n x rfl rfl
    simp only [fill] at hf
    split at hf <;> try (cases hf; done)
    rename_i hc
    rw [Bool.and_eq_true] at hc
    have e1 : x.cells.length = n := Nat.eq_of_beq_eq_true hc.1
    have e2 := Nat.le_of_ble_eq_true hc.2
    have hxu : x ≠ .undef := by rintro rfl; simp [AV.cells] at e1; omega
    have hbx := cells_bes hR hxu
    have e3 : v.cells.size = n := by have := hbx.1; simp at this; omega
    have hcl : c.size = cs.length := by have := hb.1; simp at this; omega
    obtain ⟨s1, s2⟩ := splice_get cs off x.cells (by omega)
    obtain ⟨f1, f2⟩ := fill_step c off v (by omega)
    obtain ⟨c', g1, g2⟩ := fill_sound place ps as (v.cells.zipIdx.foldl (fun cs (c, j) => cs.setIfInBounds (off + j) c) c) (splice cs off x.cells) l
      ⟨by simp only [Array.length_toList]; rw [f1, s1]; exact hcl.symm, fun q y u hy hu => by
        rw [s2] at hy
        rw [Array.getElem?_toList, f2] at hu
        by_cases hr : off ≤ q ∧ q < off + x.cells.length
        · rw [if_pos hr] at hy
          rw [if_pos (by omega)] at hu
          exact hbx.2 _ y u hy (by simpa using hu)
        · rw [if_neg hr] at hy
          rw [if_neg (by omega)] at hu
          exact hb.2 q y u hy (by simpa using hu)⟩ (by simpa using hl)
      (fun q i' v' o' n' x' h1 h2 => hp (q + 1) i' v' o' n' x' (by simpa using h1) (by simpa using h2)) hf
    refine ⟨c', ?_, g2⟩
    simp only [Instr.fill, hpl]
    rw [if_neg (by simp [e3]; omega)]
    exact g1

end Go.AL
