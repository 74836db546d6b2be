/- Slices whose room is known: cutting, appending within the room or beyond it, copying, clearing. Seat-independent. -/
import Derived.Test.YtdjnndcdplgojaaAL10
namespace Go.AL
variable {E : Env} {h : AHeap} {P : Program}

theorem op_slice_c (H : HRel E h) {t e : TypeId} (ht : P.underlying t = some (.slice e)) {s : Nat} (hs : sizeB P e = some s) {b i n c : Nat} {vx : Value} (hx : E.R (.slc b i n c) vx)
    {lo hi : Option Value} {l r : Int} (hlo : lo = none ∧ l = 0 ∨ ∃ k, lo = some (.int k l)) (hhi : hi = none ∧ r = n ∨ ∃ k, hi = some (.int k r)) (h0 : 0 ≤ l ∧ l ≤ r ∧ r ≤ c) {v : AV}
    (hv : sliceC h s b i c l r = some v) :
    Runs P (do pure (.value (← Instr.sliceAt t vx lo hi none))) E h v .keep := by
  obtain ⟨cb, base, off, rfl, h1, h3, h2⟩ := rel_slc hx
  unfold sliceC at hv
  rw [nth_eq] at hv
  split at hv <;> try (cases hv; done)
  rename_i s' rows hb
  split at hv <;> try (cases hv; done)
  rename_i hsz
  have hsz := Nat.eq_of_beq_eq_true hsz
  subst hsz
  obtain rfl := Option.some.inj hv
  refine .keep H (by simp only [Sem.run_bind, run_slice ht hs hlo hhi h0 h2, Result.andThen_ok, Sem.run_pure]; rfl) ?_
  have key : ∃ off', (if c = l.toNat then some (⟨cb, off, none⟩ : Addr) else (some (⟨cb, off, none⟩ : Addr)).map (·.add (l.toNat * s'))) = some ⟨cb, off', none⟩ ∧ (c - l.toNat = 0 ∨ off' = off + l.toNat * s') := by
    split
    · exact ⟨off, rfl, .inl (by omega)⟩
    · exact ⟨off + l.toNat * s', by simp [add_plain], .inr rfl⟩
  obtain ⟨off', e1, e2⟩ := key
  rw [e1]
  refine .slc _ _ _ _ _ cb base off' h1 (fun s2 N hN => ?_) (by omega)
  obtain ⟨g1, g2, g3⟩ := h3 s2 N hN
  rw [H.live.2 ⟨_, hb, rfl⟩] at hN
  obtain ⟨rfl, rfl⟩ := Prod.mk.inj (Option.some.inj (Option.some.inj hN))
  refine ⟨?_, by omega, g3⟩
  rcases e2 with e2 | e2
  · exact .inl e2
  · rcases g1 with g1 | g1
    · exact .inl (by omega)
    · right; rw [e2, g1, Nat.add_mul]; omega

theorem run_slice3 {t e : TypeId} (ht : P.underlying t = some (.slice e)) {s : Nat} (hs : sizeB P e = some s) {a : Option Addr} {n cap : Nat} {lo : Option Value} {l r m : Int} {k2 k3 : IntKind}
    (hlo : lo = none ∧ l = 0 ∨ ∃ k, lo = some (.int k l)) (h0 : 0 ≤ l ∧ l ≤ r ∧ r ≤ m ∧ m ≤ cap) (w : World) :
    (Instr.sliceAt t (.slice a n cap) lo (some (.int k2 r)) (some (.int k3 m))).run P w =
      .ok (.slice (if m.toNat = l.toNat then a else a.map (·.add (l.toNat * s))) (r.toNat - l.toNat) (m.toNat - l.toNat)) w := by
  have e1 : (0 : Int) ≤ m ∧ m ≤ (cap : Int) := by omega
  have e2 : (0 : Int) ≤ r ∧ r ≤ (m.toNat : Int) := by omega
  have e3 : (0 : Int) ≤ l ∧ l ≤ (r.toNat : Int) := by omega
  have e4 : ¬ (max m 0 < r) := by omega
  rcases hlo with ⟨rfl, rfl⟩ | ⟨k1, rfl⟩
  · simp [Instr.sliceAt, run_underlying ht, Instr.slice, Instr.sliceBounds, run_sizeOf' hs, Instr.sliceBound, asIntOf, e1, e2, e4]
    try (intro hh; omega)
  · have e6 : r ≤ max m 0 := by omega
    have e7 : l ≤ max r 0 := by omega
    simp [Instr.sliceAt, run_underlying ht, Instr.slice, Instr.sliceBounds, run_sizeOf' hs, Instr.sliceBound, asIntOf, e1, e2, e3]
    rw [if_pos e6, if_pos e7]

theorem op_slice3 (H : HRel E h) {t e : TypeId} (ht : P.underlying t = some (.slice e)) {s : Nat} (hs : sizeB P e = some s) {b i n c : Nat} {vx : Value} (hx : E.R (.slc b i n c) vx)
    {lo : Option Value} {l r m : Int} {k2 k3 : IntKind} (hlo : lo = none ∧ l = 0 ∨ ∃ k, lo = some (.int k l)) (h0 : 0 ≤ l ∧ l ≤ r ∧ r ≤ m ∧ m ≤ c) :
    Runs P (do pure (.value (← Instr.sliceAt t vx lo (some (.int k2 r)) (some (.int k3 m))))) E h (.len (r.toNat - l.toNat)) .keep := by
  obtain ⟨cb, base, off, rfl, h1, h3, h2⟩ := rel_slc hx
  refine .keep H (by simp only [Sem.run_bind, run_slice3 ht hs hlo h0, Result.andThen_ok, Sem.run_pure]; rfl) ?_
  refine .len _ _ _ _ (by omega) (fun ha => ?_)
  split at ha <;> simp at ha

theorem op_slice3R (H : HRel E h) {t e : TypeId} (ht : P.underlying t = some (.slice e)) (hs : sizeB P e = some 1) {k : IntKind} {xs : List Int} {vx : Value} (hx : E.R (.ri k xs) vx)
    {lo : Option Value} {l r m : Int} {k2 k3 : IntKind} (hlo : lo = none ∧ l = 0 ∨ ∃ k, lo = some (.int k l)) (h0 : 0 ≤ l ∧ l ≤ r ∧ r ≤ m ∧ m ≤ xs.length) :
    Runs P (do pure (.value (← Instr.sliceAt t vx lo (some (.int k2 r)) (some (.int k3 m))))) E h (.ri k ((xs.drop l.toNat).take (r.toNat - l.toNat))) .keep := by
  obtain ⟨a, cap, rfl, h2, h3, h4⟩ := rel_ri hx
  have h5 : 0 ≤ l ∧ l ≤ r ∧ r ≤ m ∧ m ≤ (cap : Int) := ⟨h0.1, h0.2.1, h0.2.2.1, by omega⟩
  refine .keep H (by simp only [Sem.run_bind, run_slice3 ht hs hlo h5, Result.andThen_ok, Sem.run_pure]; rfl) ?_
  refine .ri _ _ _ _ _ _ (by simp; omega) (by omega) (fun i x hy => ?_) (fun ha => ?_)
  · rw [List.getElem?_take] at hy
    split at hy
    · rw [List.getElem?_drop] at hy
      have : l.toNat + i < xs.length := (List.getElem?_eq_some_iff.1 hy).1
      obtain ⟨cb, off, rfl, b1, b2⟩ := h3 _ x hy
      rw [if_neg (by omega)]
      exact ⟨cb, off + l.toNat, by simp [add_plain], b1, by rw [Nat.add_assoc]; exact b2⟩
    · cases hy
  · split at ha
    · omega
    · have : a = none := by cases a <;> simp_all
      have := h4 this; omega

/-- Rows written into rows. -/
theorem rows_copies {s : Nat} {rows ys : List (List AV)} {vs : List Value} {i m : Nat} (hfit : ∀ (q : Nat) r, rows[q]? = some r → r.length = s) (hyl : ∀ (q : Nat) r, ys[q]? = some r → r.length = s) (hm : ys.length = m)
    (him : i + m ≤ rows.length) (hlen : vs.length = m * s) (hone : ∀ v ∈ vs, v.oneCell' = true)
    (hcell : ∀ i' j' x, (Rows.rows ys).cell i' j' = some x → ∃ v, vs[i' * s + j']? = some v ∧ Go.AL.Rel E.w E.F .nil x v) :
    Copies E (.arr s rows) (.arr s (rows.take i ++ ys ++ rows.drop (i + m))) i m vs := by
  have l1 : (rows.take i).length = i := by simp; omega
  have hget : ∀ q : Nat, (rows.take i ++ ys ++ rows.drop (i + m))[q]? = if q < i then rows[q]? else if q < i + m then ys[q - i]? else rows[q]? := by
    intro q
    rw [List.getElem?_append]
    simp only [List.length_append, l1, hm]
    by_cases c1 : q < i + m
    · rw [if_pos c1, List.getElem?_append]
      simp only [l1]
      by_cases c2 : q < i
      · rw [if_pos c2, if_pos c2, List.getElem?_take, if_pos c2]
      · rw [if_neg c2, if_neg c2, if_pos c1]
    · rw [if_neg c1, if_neg (by omega), if_neg c1, List.getElem?_drop, show i + m + (q - (i + m)) = q by omega]
  refine ⟨by simp [ABlk.shape]; omega, fun q r hq => ?_, rfl, fun _ => rfl, hlen, hone, him, fun i' j' x hc => ?_, rfl, rfl⟩
  · rw [hget] at hq
    split at hq
    · exact hfit _ r hq
    · split at hq
      · exact hyl _ r hq
      · exact hfit _ r hq
  · simp only [ABlk.cell, Option.bind_eq_some_iff] at hc
    obtain ⟨r, hr, hx2⟩ := hc
    rw [hget] at hr
    have hjlt := (List.getElem?_eq_some_iff.1 hx2).1
    simp only [ABlk.shape, ABlk.cell]
    split at hr
    · have := hfit _ r hr
      exact ⟨by omega, .inl ⟨by omega, by rw [hr]; exact hx2⟩⟩
    · split at hr
      · have := hyl _ r hr
        exact ⟨by omega, .inr ⟨by omega, by omega, hcell _ _ x (by simp [Rows.cell, hr, hx2])⟩⟩
      · have := hfit _ r hr
        exact ⟨by omega, .inl ⟨by omega, by rw [hr]; exact hx2⟩⟩

theorem slc_len {b i n n' c : Nat} {cb off : Nat} (h : E.R (.slc b i n c) (.slice (some ⟨cb, off, none⟩) n c)) (hn : n' ≤ c) : E.R (.slc b i n' c) (.slice (some ⟨cb, off, none⟩) n' c) := by
  cases h with
  | slc _ _ _ _ _ cb base off h1 h2 h3 => exact .slc _ _ _ _ _ _ _ _ h1 h2 hn

theorem src_len {s : Nat} {rows : List (List AV)} {b i n c : Nat} {vx : Value} (H : HRel E h) (hx : E.R (.slc b i n c) vx) (hb : h[b]? = some (some (.arr s rows))) : i + c = rows.length ∧ n ≤ c := by
  obtain ⟨cb, base, off, rfl, h1, h3, h2⟩ := rel_slc hx
  obtain ⟨g1, g2, g3⟩ := h3 _ _ (H.live.2 ⟨_, hb, rfl⟩)
  exact ⟨g2, h2⟩

theorem take_one {s k : Nat} {ys : List (List AV)} {vy : Value} {vs : List Value} (S : Src E s (.rows ys) vy vs) (hall : (ys.take k).all (fun r => r.all closed) = true) : ∀ v ∈ vs.take (k * s), v.oneCell' = true := by
  intro v hv
  obtain ⟨q, hq, rfl⟩ := List.getElem_of_mem hv
  rw [List.length_take] at hq
  obtain ⟨i, j, x, _, e1, hx⟩ := S.cov q (by omega)
  obtain ⟨hj, u, hu, hR⟩ := S.cell i j x hx
  have hik : i < k := by
    apply Classical.byContradiction
    intro hn
    have : k * s ≤ i * s := Nat.mul_le_mul_right _ (by omega)
    omega
  rw [List.getElem_take]
  rw [← e1, List.getElem?_eq_getElem (by omega)] at hu
  obtain rfl := Option.some.inj hu
  refine leaf_one ?_ hR
  simp only [Rows.cell, Option.bind_eq_some_iff] at hx
  obtain ⟨r, hr, hx⟩ := hx
  have hr' : (ys.take k)[i]? = some r := by rw [List.getElem?_take, if_pos hik]; exact hr
  exact closed_leaf (List.all_eq_true.1 (List.all_eq_true.1 hall r (List.mem_of_getElem? hr')) x (List.mem_of_getElem? hx))

theorem op_copy_c (H : HRel E h) {t e ty : TypeId} {ts : Array TypeId} {s : Nat} (ht : P.underlying t = some (.slice e)) (hs : sizeB P e = some s) (hs0 : s ≠ 0) (h0 : ts[0]? = some t) {tm : List (Nat × AV)} {x y : Opd} {vx vy : Value} (hx : E.R (ev tm x) vx) (hy : E.R (ev tm y) vy)
    {b i n c : Nat} (hxe : ev tm x = .slc b i n c) {v : AV} {f : Eff} (ha : aop tm h h.length (.copy s x y) = some (true, v, f)) :
    Runs P (do pure (.value (← Builtin.copy_ ts ty #[vx, vy]))) E h v f := by
  simp only [aop, hxe, nth_eq] at ha
  rw [hxe] at hx
  split at ha <;> try (cases ha; done)
  rename_i s' xs hk
  split at ha <;> try (cases ha; done)
  rename_i ys hsrc
  split at ha <;> try (cases ha; done)
  rename_i hss
  have hss := Nat.eq_of_beq_eq_true hss
  subst hss
  simp only [Option.some.injEq, Prod.mk.injEq] at ha
  obtain ⟨hall, rfl, rfl⟩ := ha
  obtain ⟨vs, S⟩ := src_sound H hs0 hy hsrc (by simp)
  obtain ⟨g1, g2⟩ := src_len H hx hk
  have hrl := src_rows H hy hsrc
  have l2 : (ys.take n).length = min ys.length n := by simp; omega
  have hlen := S.len
  simp only [Rows.len] at hlen
  have hle : min ys.length n * s' ≤ ys.length * s' := Nat.mul_le_mul_right _ (Nat.min_le_left _ _)
  have hall' : (ys.take (min ys.length n)).all (fun r => r.all closed) = true := by
    rw [show ys.take (min ys.length n) = ys.take n by
      rcases Nat.le_total ys.length n with h | h
      · rw [Nat.min_eq_left h, List.take_length, List.take_of_length_le h]
      · rw [Nat.min_eq_right h]]
    exact hall
  refine op_copy_sl H ht hs h0 (sl_of_slc hx) hk S (rows_copies (H.blk _ _ hk).1 (fun q r hq => ?_) l2 (by omega) (by simp only [Rows.len, List.length_take]; omega) (take_one S hall') fun i' j' x hc => ?_)
  · rw [List.getElem?_take] at hq
    split at hq
    · exact hrl _ r hq
    · cases hq
  · simp only [Rows.cell, Option.bind_eq_some_iff] at hc
    obtain ⟨r, hr, hx2⟩ := hc
    have hlt := (List.getElem?_eq_some_iff.1 hr).1
    rw [l2] at hlt
    rw [List.getElem?_take] at hr
    split at hr <;> try (cases hr; done)
    obtain ⟨hj, u, hu, hR⟩ := S.cell i' j' x (by simp [Rows.cell, hr, hx2])
    refine ⟨u, ?_, hR⟩
    have e2 : i' * s' + s' ≤ min ys.length n * s' := by rw [← Nat.succ_mul]; exact Nat.mul_le_mul_right _ (by omega)
    rw [List.getElem?_take, if_pos (by simp only [Rows.len]; omega)]
    exact hu

theorem zeroCells_at {z : Array Value} {s m : Nat} (hz : z.size = s) {i j : Nat} (hi : i < m) (hj : j < s) : (Builtin.zeroCells z m).toList[i * s + j]? = z[j]? := by
  subst hz
  have := zero_at (z := z) rfl hi hj
  rw [← this, Array.getElem?_toList]
  rfl

theorem zeros_cell {z : List AV} {zv : Value} {s : Nat} (hb : Bes E z zv.cells.toList) (hzl : z.length = s) (hzc : ∀ x ∈ z, closed x = true) {m : Nat} :
    ∀ i j x, (Rows.rows (List.replicate m z)).cell i j = some x → ∃ v, (Builtin.zeroCells zv.cells m).toList[i * s + j]? = some v ∧ Go.AL.Rel E.w E.F .nil x v := by
  intro i j x hc
  have hz : zv.cells.size = s := by have := hb.1; simp at this; omega
  simp only [Rows.cell, Option.bind_eq_some_iff] at hc
  obtain ⟨r, hr, hx⟩ := hc
  rw [List.getElem?_replicate] at hr
  split at hr <;> try (cases hr; done)
  obtain rfl := Option.some.inj hr
  have hj := (List.getElem?_eq_some_iff.1 hx).1
  obtain ⟨u, hu, hR⟩ := hb.get hx
  exact ⟨u, by rw [zeroCells_at hz ‹_› (by omega)]; simpa using hu, closed_nil (hzc x (List.mem_of_getElem? hx)) hR⟩

/-- What a run that lays a new row comes to. -/
theorem push_of_run (H : HRel E h) {s : Nat} {z : Value} (hzs : z.cells.size = s) {vs : List Value} {rows : List (List AV)} (hrl : ∀ (q : Nat) r, rows[q]? = some r → r.length = s) (hlen : vs.length = rows.length * s)
    (hcell : ∀ i j x, (Rows.rows rows).cell i j = some x → ∃ v, vs[i * s + j]? = some v ∧ Go.AL.Rel E.w E.F .nil x v) {e : TypeId} {gc : Nat} {sm : Sem Value} (hge : rows.length ≤ gc)
    (hrun : sm.run P E.w = .ok (.slice (some ⟨E.w.heap.size, 0, none⟩) rows.length gc) (E.w.drew.alloc (.cells (vs.toArray ++ Builtin.zeroCells z.cells (gc - rows.length)) e))) :
    Runs P (do pure (.value (← sm))) E h (.sl h.length 0 rows.length) (.push (.arr s rows)) := by
  generalize hcc : (vs.toArray ++ Builtin.zeroCells z.cells (gc - rows.length)) = c at hrun
  have hcsz : c.size = gc * s := by
    rw [← hcc]; simp only [Array.size_append, List.size_toArray, size_zeroCells, hzs, hlen, ← Nat.add_mul]; congr 1; omega
  have hle : rows.length * s ≤ gc * s := Nat.mul_le_mul_right _ hge
  have Hd := H.drew
  have Hp := Hd.push (.arr s rows) c e hrl (by simp only [ABlk.shape]; rw [hcsz]; exact hle) (fun i j x hx => by
    obtain ⟨u, hu, hR⟩ := hcell i j x (by simpa [ABlk.cell, Rows.cell] using hx)
    have hlt := (List.getElem?_eq_some_iff.1 hu).1
    refine ⟨u, ?_, rel_drew hR⟩
    simp only [ABlk.shape]
    rw [← hcc, Array.getElem?_append_left (by simpa using hlt)]
    simpa using hu)
  refine ⟨_, .slice (some ⟨E.w.heap.size, 0, none⟩) rows.length gc, .inl ?_, H.ext_drew.trans (Hd.ext_push _ _), Hp, new_slice_cap Hd c e s rows.length gc (by rw [hcsz]; exact Nat.le_refl _) hge⟩
  simp only [Sem.run_bind, hrun, Result.andThen_ok, Sem.run_pure]
  rfl

theorem cell_app {s : Nat} {xr yr : List (List AV)} {xs ys : List Value} (hx : xs.length = xr.length * s)
    (h1 : ∀ i j x, (Rows.rows xr).cell i j = some x → ∃ v, xs[i * s + j]? = some v ∧ Go.AL.Rel E.w E.F .nil x v) (h2 : ∀ i j x, (Rows.rows yr).cell i j = some x → ∃ v, ys[i * s + j]? = some v ∧ Go.AL.Rel E.w E.F .nil x v) :
    ∀ i j x, (Rows.rows (xr ++ yr)).cell i j = some x → ∃ v, (xs ++ ys)[i * s + j]? = some v ∧ Go.AL.Rel E.w E.F .nil x v := by
  intro i j x hc
  simp only [Rows.cell, Option.bind_eq_some_iff] at hc
  obtain ⟨r, hr, hxj⟩ := hc
  rw [List.getElem?_append] at hr
  split at hr
  · rename_i hlt
    obtain ⟨v, hv, hR⟩ := h1 i j x (by simp [Rows.cell, hr, hxj])
    refine ⟨v, ?_, hR⟩
    rw [List.getElem?_append_left (List.getElem?_eq_some_iff.1 hv).1]; exact hv
  · rename_i hge
    obtain ⟨v, hv, hR⟩ := h2 (i - xr.length) j x (by simp [Rows.cell, hr, hxj])
    refine ⟨v, ?_, hR⟩
    have e1 : i * s = xr.length * s + (i - xr.length) * s := by rw [← Nat.add_mul]; congr 1; omega
    rw [List.getElem?_append_right (by omega), ← hv]
    congr 1; omega

/-- An append to a slice whose room is known. -/
theorem op_append_c (H : HRel E h) {t e ty : TypeId} {s bytes : Nat} {z : List AV} (T : AppT P t e s bytes z) {tm : List (Nat × AV)} {x y : Opd} {vx vy : Value} (hx : E.R (ev tm x) vx) (hy : E.R (ev tm y) vy)
    {b i n c : Nat} (hxe : ev tm x = .slc b i n c) {v : AV} {f : Eff} (ha : aop tm h h.length (.append bytes s x y) = some (true, v, f)) :
    Runs P (do pure (.value (← Builtin.append_ #[t, t] ty #[vx, vy]))) E h v f := by
  simp only [aop, hxe, nth_eq] at ha
  rw [hxe] at hx
  split at ha <;> try (cases ha; done)
  rename_i s' rows ys hk hsrc
  split at ha <;> try (cases ha; done)
  rename_i hss
  have hss := Nat.eq_of_beq_eq_true hss
  subst hss
  obtain ⟨vs, S⟩ := src_sound H T.hs0 hy hsrc (by simp)
  obtain ⟨g1, g2⟩ := src_len H hx hk
  have hrl := src_rows H hy hsrc
  have hlen := S.len
  simp only [Rows.len] at hlen
  obtain ⟨ti, zv, hi, hv, hbes, _⟩ := zeroB_info T.hz
  have hbi : ti.bytes = bytes := by simpa [bytesB, hi] using T.hby
  have hsi : ti.size = s' := by simpa [sizeB, hi] using T.hs
  have hzs : zv.cells.size = s' := by have := (hbes E).1; simp at this; have := T.hzl; omega
  have hfit := (H.blk _ _ hk).1
  split at ha
  · rename_i hroom
    have hroom := Nat.le_of_ble_eq_true hroom
    simp only [Option.some.injEq, Prod.mk.injEq] at ha
    obtain ⟨hall, rfl, rfl⟩ := ha
    have hx' := hx
    obtain ⟨cb, base, off, rfl, h1, h3, h2⟩ := rel_slc hx
    obtain ⟨k1, k2, k3⟩ := h3 _ _ (H.live.2 ⟨_, hk, rfl⟩)
    try simp only [ABlk.shape] at k1 k2
    obtain ⟨c', w1, w2, w3⟩ := copies_in P H hk h1 (rows_copies (i := i + n) (m := ys.length) hfit hrl rfl (by omega) hlen (src_one S (rows_leaf hall)) fun i' j' x hc => (S.cell i' j' x hc).2)
    simp only [ABlk.shape] at w1
    obtain ⟨⟨a, capy, rfl, hat, hnone⟩, _⟩ := S
    simp only [Rows.len] at hat hnone ⊢
    have hst : (storeCells ((⟨cb, off, none⟩ : Addr).add (n * s')) vs 0).run P E.w = .ok () (E.setRow cb c').w := by
      rw [add_plain]
      rcases k1 with k1 | k1
      · have : vs = [] := List.eq_nil_of_length_eq_zero (by rw [hlen, show ys.length = 0 by omega]; simp)
        rw [this] at w1 ⊢
        exact w1
      · rw [k1, show base + i * s' + n * s' = base + (i + n) * s' by rw [Nat.add_mul]; omega]; exact w1
    have hrun := run_append_in (P := P) (ty := ty) T.ht T.hs (w := E.w) (w' := (E.setRow cb c').w) (ad := ⟨cb, off, none⟩) (sLen := n) (sCap := c) (c := capy) (m := ys.length) hlen hat hnone hroom hst
    refine ⟨_, .slice (some ⟨cb, off, none⟩) (n + ys.length) c, .inl ?_, w2, ?_, slc_len (hx'.ext w2 H.frz) hroom⟩
    · simp only [Sem.run_bind, hrun, Result.andThen_ok, Sem.run_pure]
    · simpa [Eff.app] using w3
  · rename_i hroom
    have hroom : ¬ n + ys.length ≤ c := fun hc => by rw [Nat.ble_eq_true_of_le hc] at hroom; cases hroom
    simp only [Option.some.injEq, Prod.mk.injEq, decide_eq_true_eq] at ha
    obtain ⟨hb, rfl, rfl⟩ := ha
    obtain ⟨b1, b2⟩ := big46 hb
    have hsx : srcV h s' (.sl b i n) = .rows ((rows.drop i).take n) := by
      simp only [srcV, nth_eq, hk, Nat.beq_refl]
    obtain ⟨xs, Sx⟩ := src_sound H T.hs0 (sl_of_slc hx) hsx (by simp)
    have hxl : ((rows.drop i).take n).length = n := by simp; omega
    have hxrl : ∀ (q : Nat) r, ((rows.drop i).take n)[q]? = some r → r.length = s' := fun q r hq => src_rows H (sl_of_slc hx) hsx q r hq
    have hxlen := Sx.len
    simp only [Rows.len, hxl] at hxlen
    obtain ⟨cb, base, off, rfl, h1, h3, h2⟩ := rel_slc hx
    obtain ⟨ax, capx, he, hatx, _⟩ := Sx.form
    simp only [Rows.len, hxl, Value.slice.injEq] at he
    obtain ⟨rfl, -, rfl⟩ := he
    obtain ⟨ay, capy, rfl, haty, hnone⟩ := S.form
    simp only [Rows.len] at haty hnone ⊢
    cases ay with
    | none => have := hnone rfl; omega
    | some ad =>
      have hrun := run_append_grow (P := P) E.w t ty e ti zv T.ht hi hv ⟨cb, off, none⟩ n c xs (by rw [hsi]; exact hxlen) (hatx _ rfl) ad ys.length capy vs (by rw [hsi]; exact hlen) (haty ad rfl) (by omega) (by omega)
        (by rw [hbi]; exact growslice_fits (by omega) (by omega))
      have hge := grownCap_ge E.w (n + ys.length) c e
      have hl2 : ((rows.drop i).take n ++ ys).length = n + ys.length := by rw [List.length_append, hxl]
      have := push_of_run (P := P) (h := h) H hzs (vs := xs ++ vs) (rows := (rows.drop i).take n ++ ys) (fun q r hq => by
          rw [List.getElem?_append] at hq
          split at hq
          · exact hxrl _ r hq
          · exact hrl _ r hq) (by rw [List.length_append, hl2, Nat.add_mul]; omega) (cell_app (by rw [hxl]; exact hxlen) (fun i' j' x hc => (Sx.cell i' j' x hc).2) fun i' j' x hc => (S.cell i' j' x hc).2)
        (e := e) (gc := grownCap E.w (n + ys.length) c e) (sm := Builtin.append_ #[t, t] ty #[.slice (some ⟨cb, off, none⟩) n c, .slice (some ad) ys.length capy]) (by rw [hl2]; exact hge) (by rw [hl2]; simpa using hrun)
      rw [hl2] at this
      exact this

/-- An append of noughts beyond the room. -/
theorem op_appendZ_c (H : HRel E h) {t u e ty : TypeId} {s bytes : Nat} {z : List AV} (T : AppT P t e s bytes z) {ik : IntKind} (hu : P.underlying u = some (.int ik)) {tm : List (Nat × AV)} {x y : Opd} {vx vy : Value} (hx : E.R (ev tm x) vx) (hy : E.R (ev tm y) vy)
    {b i n c : Nat} (hxe : ev tm x = .slc b i n c) {v : AV} {f : Eff} (ha : aop tm h h.length (.appendZ bytes z x y) = some (true, v, f)) :
    Runs P (do pure (.value (← Builtin.append_ #[t, u] ty #[vx, vy]))) E h v f := by
  simp only [aop, hxe, nth_eq] at ha
  rw [hxe] at hx
  split at ha <;> try (cases ha; done)
  rename_i ky m hm
  rw [hm] at hy
  obtain rfl := rel_int hy
  split at ha <;> try (cases ha; done)
  split at ha <;> try (cases ha; done)
  rename_i s' rows hk
  split at ha <;> try (cases ha; done)
  rename_i hroom
  have hroom : ¬ n + m.toNat ≤ c := fun hc => by rw [Nat.ble_eq_true_of_le hc] at hroom; cases hroom
  simp only [Option.some.injEq, Prod.mk.injEq, decide_eq_true_eq] at ha
  obtain ⟨⟨hm0, hsz, hb⟩, rfl, rfl⟩ := ha
  obtain ⟨b1, b2⟩ := big46 hb
  obtain ⟨q, rfl⟩ : ∃ q : Nat, m = (q : Int) := ⟨m.toNat, by omega⟩
  simp only [Int.toNat_natCast] at *
  obtain rfl : s' = s := by rw [hsz]; exact T.hzl
  obtain ⟨g1, g2⟩ := src_len H hx hk
  obtain ⟨ti, zv, hi, hv, hbes, hzl2⟩ := zeroB_info T.hz
  have hbi : ti.bytes = bytes := by simpa [bytesB, hi] using T.hby
  have hsi : ti.size = s' := by simpa [sizeB, hi] using T.hs
  have hzs : zv.cells.size = s' := by have := (hbes E).1; simp at this; have := T.hzl; omega
  have hq2 : q * bytes ≤ (n + q) * bytes := Nat.mul_le_mul_right _ (by omega)
  have A := runs_noughts T.ht hu hi hv hsi hzs T.hs0 hbi ky (m := q) (by omega) (by omega) E.w
  have hsx : srcV h s' (.sl b i n) = .rows ((rows.drop i).take n) := by
    simp only [srcV, nth_eq, hk, Nat.beq_refl]
  obtain ⟨xs, Sx⟩ := src_sound H T.hs0 (sl_of_slc hx) hsx (by simp)
  have hxl : ((rows.drop i).take n).length = n := by simp; omega
  have hxrl : ∀ (q : Nat) r, ((rows.drop i).take n)[q]? = some r → r.length = s' := fun q r hq => src_rows H (sl_of_slc hx) hsx q r hq
  have hxlen := Sx.len
  simp only [Rows.len, hxl] at hxlen
  obtain ⟨cb, base, off, rfl, h1, h3, h2⟩ := rel_slc hx
  obtain ⟨ax, capx, he, hatx, _⟩ := Sx.form
  simp only [Rows.len, hxl, Value.slice.injEq] at he
  obtain ⟨rfl, -, rfl⟩ := he
  have hrun := A.new ty (some ⟨cb, off, none⟩) n c xs hxlen hatx (by simp) (by omega) (by omega) (by omega) (by omega)
  have hge := grownCap_ge E.w (n + q) c e
  have hl2 : ((rows.drop i).take n ++ List.replicate q z).length = n + q := by rw [List.length_append, hxl, List.length_replicate]
  have := push_of_run (P := P) (h := h) H hzs (vs := xs ++ (Builtin.zeroCells zv.cells q).toList) (rows := (rows.drop i).take n ++ List.replicate q z) (fun q' r hq => by
      rw [List.getElem?_append] at hq
      split at hq
      · exact hxrl _ r hq
      · rw [List.getElem?_replicate] at hq
        split at hq
        · obtain rfl := Option.some.inj hq
          exact T.hzl
        · cases hq) (by rw [List.length_append, hl2, zeroCells_len, hzs, Nat.add_mul]; omega) (cell_app (by rw [hxl]; exact hxlen) (fun i' j' x hc => (Sx.cell i' j' x hc).2) (zeros_cell (hbes E) T.hzl fun x hx => (hzl2 x hx).2))
    (e := e) (gc := grownCap E.w (n + q) c e) (sm := Builtin.append_ #[t, u] ty #[.slice (some ⟨cb, off, none⟩) n c, .int ky q]) (by rw [hl2]; exact hge) (by rw [hl2]; exact hrun)
  rw [hl2] at this
  exact this

/-- Cells are set to nought. -/
theorem op_clear_c (H : HRel E h) {t e ty : TypeId} {ts : Array TypeId} {s : Nat} {z : List AV} (ht : P.underlying t = some (.slice e)) (hs : sizeB P e = some s) (hz : zeroB P e = some z) (hs0 : s ≠ 0) (hzl : z.length = s) (h0 : ts[0]? = some t) {tm : List (Nat × AV)} {x : Opd} {vx : Value} (hx : E.R (ev tm x) vx)
    {v : AV} {f : Eff} (ha : aop tm h h.length (.clear s z x) = some (true, v, f)) :
    Runs P (do pure (.value (← Builtin.clear_ ts ty #[vx]))) E h v f := by
  have cut : ∃ b i n cb base off cap, clearA h s z b i n = some (true, v, f) ∧ vx = .slice (some ⟨cb, off, none⟩) n cap ∧ E.S.ρ[b]? = some (cb, base) ∧
      (∀ s N, E.S.sh[b]? = some (some (s, N)) → (cap = 0 ∨ off = base + i * s) ∧ i + n ≤ N) ∧ n ≤ cap := by
    simp only [aop] at ha
    split at ha <;> try (cases ha; done)
    · rename_i b i n c hxe
      rw [hxe] at hx
      obtain ⟨cb, base, off, h0, h1, h3, h2⟩ := rel_slc hx
      exact ⟨b, i, n, cb, base, off, c, ha, h0, h1, fun s N hN => ⟨(h3 s N hN).1, by have := (h3 s N hN).2.1; omega⟩, h2⟩
    · rename_i b i n hxe
      rw [hxe] at hx
      obtain ⟨cb, base, off, cap, h0, h1, h3, h2⟩ := rel_sl hx
      exact ⟨b, i, n, cb, base, off, cap, ha, h0, h1, fun s N hN => ⟨(h3 s N hN).1, (h3 s N hN).2.1⟩, h2⟩
  clear ha hx
  obtain ⟨b, i, n, cb, base, off, cap, ha, rfl, h1, h3, h2⟩ := cut
  unfold clearA at ha
  rw [nth_eq] at ha
  split at ha <;> try (cases ha; done)
  rename_i s' rows hk
  split at ha <;> try (cases ha; done)
  rename_i hcond
  simp only [Bool.and_eq_true] at hcond
  obtain ⟨⟨hss, _⟩, hzc⟩ := hcond
  have hss := Nat.eq_of_beq_eq_true hss
  subst hss
  simp only [Option.some.injEq, Prod.mk.injEq, true_and] at ha
  obtain ⟨rfl, rfl⟩ := ha
  obtain ⟨ti, zv, hi, hv, hbes, hzl2⟩ := zeroB_info hz
  have hzs : zv.cells.size = s' := by have := (hbes E).1; simp at this; omega
  obtain ⟨k1, k2⟩ := h3 _ _ (H.live.2 ⟨_, hk, rfl⟩)
  try simp only [ABlk.shape] at k1 k2
  have hone : ∀ v ∈ (Builtin.zeroCells zv.cells n).toList, v.oneCell' = true := by
    intro v hv'
    obtain ⟨q, hq, rfl⟩ := List.getElem_of_mem hv'
    have hq' : q < n * s' := by rw [zeroCells_len, hzs] at hq; exact hq
    have hpos : 0 < s' := by omega
    have d1 : q / s' < n := Nat.div_lt_of_lt_mul (by rw [Nat.mul_comm]; exact hq')
    have d2 : q % s' < s' := Nat.mod_lt _ hpos
    have d3 : q / s' * s' + q % s' = q := by rw [Nat.mul_comm]; exact Nat.div_add_mod _ _
    have hz1 := zeroCells_at hzs d1 d2
    rw [d3, List.getElem?_eq_getElem hq] at hz1
    have hlt : q % s' < z.length := by omega
    obtain ⟨u, hu, hR⟩ := (hbes E).get (List.getElem?_eq_getElem hlt)
    have : zv.cells[q % s']? = some u := by simpa using hu
    rw [this] at hz1
    obtain rfl := Option.some.inj hz1
    exact leaf_one (hzl2 _ (List.getElem_mem hlt)).1 hR
  obtain ⟨c', w1, w2, w3⟩ := copies_in P H hk h1 (rows_copies (E := E) (i := i) (m := n) (ys := List.replicate n z) (vs := (Builtin.zeroCells zv.cells n).toList) (H.blk _ _ hk).1 (fun q r hq => by
      rw [List.getElem?_replicate] at hq
      split at hq
      · obtain rfl := Option.some.inj hq
        exact hzl
      · cases hq) (by simp) (by omega) (by rw [zeroCells_len, hzs]) hone (zeros_cell (hbes E) hzl fun x hx => (hzl2 x hx).2))
  simp only [ABlk.shape] at w1
  refine ⟨_, .tuple #[], .inl ?_, w2, by simpa [Eff.app] using w3, .tup _ _ _ rfl fun i c v hc => by simp at hc⟩
  by_cases hn : n = 0
  · subst hn
    have hnil : (Builtin.zeroCells zv.cells 0).toList = [] := List.eq_nil_of_length_eq_zero (by rw [zeroCells_len]; simp)
    rw [hnil] at w1
    have hw : (E.setRow cb c').w = E.w := by
      have : (storeCells ⟨cb, base + i * s', none⟩ [] 0).run P E.w = .ok () E.w := by simp [storeCells]
      rw [this] at w1
      exact (Result.ok.inj w1).2.symm
    rw [hw]
    simp [Builtin.clear_, h0, run_underlying ht]
  · have hoff := k1.resolve_left (by omega)
    rw [← hoff] at w1
    have hzv : (zeroValue e).run P E.w = .ok zv E.w := by simp [zeroValue, typeInfo, hi, hv]
    obtain ⟨n', rfl⟩ : ∃ n', n = n' + 1 := ⟨n - 1, by omega⟩
    simp [Builtin.clear_, h0, run_underlying ht, hzv, w1]

end Go.AL
