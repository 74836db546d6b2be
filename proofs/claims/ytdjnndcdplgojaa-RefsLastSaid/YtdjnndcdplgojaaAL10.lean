/- Building, making, appending; and every operation that calls nothing. Seat-independent. -/
import Derived.Test.YtdjnndcdplgojaaAL8
import Derived.Laws.IdiomStrings
namespace Go.AL
variable {E : Env} {h : AHeap} {P : Program}

theorem Bes.mapM {xs : List Opd} {ops : List Operand} {tm : List (Nat × AV)} {a : Act} (T : TRel E tm a) (hm : ops.mapM cOpd = some xs) : Bes E (xs.map (ev tm)) (ops.map a.eval) := by
  obtain ⟨h1, h2⟩ := mapM_get hm
  refine ⟨by simp [h1], fun q x v hx hv => ?_⟩
  rw [List.getElem?_map, Option.map_eq_some_iff] at hx hv
  obtain ⟨y, hy, rfl⟩ := hx
  obtain ⟨o, ho, rfl⟩ := hv
  exact cOpd_rel T (h2 q o y ho hy)

theorem run_fields {w : World} (fields : List Field) (hs : ∀ f ∈ fields, (sizeB P f.type).isSome) :
    (fields.mapM fun f => (do pure (f.offset, ← sizeOf f.type) : Sem (Nat × Nat))).run P w = .ok (fields.map fun f => (f.offset, (sizeB P f.type).getD 0)) w := by
  induction fields with
  | nil => simp
  | cons f fs ih =>
    have h1 := hs f (by simp)
    obtain ⟨s, hs1⟩ := Option.isSome_iff_exists.1 h1
    have h3 := ih (fun g hg => hs g (by simp [hg]))
    simp only [List.mapM_cons, Sem.run_bind, run_sizeOf' hs1, Result.andThen_ok, Sem.run_pure, h3, List.map_cons, hs1, Option.getD_some]

theorem op_build (H : HRel E h) {t : TypeId} {z : List AV} (hz : zeroB P t = some z) {parts : Array (Nat × Operand)} {ps : List (Nat × Nat × Opd)} (hp : cParts P t parts = some ps)
    {tm : List (Nat × AV)} {a : Act} (T : TRel E tm a) {l : List AV} (hf : fill z (ps.map fun (o, n, x) => (o, n, ev tm x)) = some l) :
    Runs P (do pure (.value (← Instr.build t (parts.map fun (i, x) => (i, a.eval x))))) E h (.agg l) .keep := by
  obtain ⟨i, v, hi, hv, hb, _⟩ := zeroB_info hz
  have hzr : ∀ w, (zeroValue t).run P w = .ok v w := by intro w; simp [zeroValue, typeInfo, hi, hv]
  unfold cParts at hp
  split at hp
  · rename_i fields hd
    split at hp <;> try (cases hp; done)
    rename_i hall
    obtain ⟨h1, h2⟩ := mapM_get hp
    have hfs : ∀ f ∈ fields.toList, (sizeB P f.type).isSome := by
      intro f hf
      rw [Array.all_eq_true_iff_forall_mem] at hall
      exact hall f (by simpa using hf)
    have hplaces : ∀ w, (fields.mapM fun f => (do pure (f.offset, ← sizeOf f.type) : Sem (Nat × Nat))).run P w = .ok (fields.map fun f => (f.offset, (sizeB P f.type).getD 0)) w := by
      intro w
      rw [Array.mapM_eq_mapM_toList, Sem.run_map, run_fields _ hfs]
      simp only [Result.andThen_ok]
      rw [← Array.toList_map]
    obtain ⟨c', g1, g2⟩ := fill_sound (E := E) ((fields.map fun f => (f.offset, (sizeB P f.type).getD 0))[·]?) (parts.toList.map fun (i, x) => (i, a.eval x)) (ps.map fun (o, n, x) => (o, n, ev tm x)) v.cells z l (hb E) (by simp [h1])
      (fun q i' v' off n x hq1 hq2 => by
        rw [List.getElem?_map, Option.map_eq_some_iff] at hq1 hq2
        obtain ⟨⟨i₀, o₀⟩, hq1, e1⟩ := hq1
        obtain ⟨⟨off₀, n₀, x₀⟩, hq2, e2⟩ := hq2
        simp only [Prod.mk.injEq] at e1 e2
        obtain ⟨rfl, rfl⟩ := e1
        obtain ⟨rfl, rfl, rfl⟩ := e2
        have := h2 q _ _ hq1 hq2
        simp only [Option.bind_eq_bind, Option.bind_eq_some_iff] at this
        obtain ⟨f, hf1, s, hs1, y, hy1, hlast⟩ := this
        split at hlast <;> try (cases hlast; done)
        rename_i hne
        simp only [Option.some.injEq, Prod.mk.injEq] at hlast
        obtain ⟨rfl, rfl, rfl⟩ := hlast
        refine ⟨?_, hne, cOpd_rel T hy1⟩
        simp [hf1, hs1]) hf
    refine .keep H (u := .agg c') ?_ (agg_rel g2)
    simp only [Instr.build, Sem.run_bind, hzr, Result.andThen_ok, run_underlying hd, hplaces, Array.toList_map]
    simp only [g1, Sem.run_pure, Result.andThen_ok]
  · rename_i n e hd
    split at hp <;> try (cases hp; done)
    rename_i hnn
    obtain ⟨h1, h2⟩ := mapM_get hp
    cases hse : sizeB P e with
    | none => simp [hse] at hnn
    | some s =>
      obtain ⟨c', g1, g2⟩ := fill_sound (E := E) (fun i => some (i * s, s)) (parts.toList.map fun (i, x) => (i, a.eval x)) (ps.map fun (o, n, x) => (o, n, ev tm x)) v.cells z l (hb E) (by simp [h1])
        (fun q i' v' off n x hq1 hq2 => by
          rw [List.getElem?_map, Option.map_eq_some_iff] at hq1 hq2
          obtain ⟨⟨i₀, o₀⟩, hq1, e1⟩ := hq1
          obtain ⟨⟨off₀, n₀, x₀⟩, hq2, e2⟩ := hq2
          simp only [Prod.mk.injEq] at e1 e2
          obtain ⟨rfl, rfl⟩ := e1
          obtain ⟨rfl, rfl, rfl⟩ := e2
          have := h2 q _ _ hq1 hq2
          simp only [Option.bind_eq_bind, Option.bind_eq_some_iff, hse, Option.some.injEq] at this
          obtain ⟨s, rfl, y, hy1, hlast⟩ := this
          split at hlast <;> try (cases hlast; done)
          rename_i hne
          simp only [Option.some.injEq, Prod.mk.injEq] at hlast
          obtain ⟨rfl, rfl, rfl⟩ := hlast
          exact ⟨rfl, hne, cOpd_rel T hy1⟩) hf
      refine .keep H (u := .agg c') ?_ (agg_rel g2)
      simp [Instr.build, hzr, run_underlying hd, run_sizeOf' hse, g1]
  · cases hp

/-- Rows beside cells. -/
structure RowsRel (E : Env) (s : Nat) (rows : List (List AV)) (c : Array Value) : Prop where
  size : c.size = rows.length * s
  row : ∀ (i : Nat) row, rows[i]? = some row → row.length = s ∧ ∀ (j : Nat) x, row[j]? = some x → ∃ v, c[i * s + j]? = some v ∧ E.R x v

theorem zero_at {z : Array Value} {s n : Nat} (hz : z.size = s) {i j : Nat} (hi : i < n) (hj : j < s) :
    ((Array.range (n * s)).map (z[· % z.size]!))[i * s + j]? = z[j]? := by
  have h1 : i * s + s ≤ n * s := by rw [← Nat.succ_mul]; exact Nat.mul_le_mul_right _ hi
  have h2 : i * s + j < n * s := by omega
  have h3 : (i * s + j) % s = j := by rw [Nat.mul_comm, Nat.mul_add_mod]; exact Nat.mod_eq_of_lt hj
  rw [Array.getElem?_map, Array.getElem?_range, if_pos h2]
  simp only [Option.map_some, hz, h3]
  rw [getElem!_pos z j (by omega), Array.getElem?_eq_getElem (by omega)]

theorem RowsRel.zeros {z : List AV} {v : Value} (hb : Bes E z v.cells.toList) {s : Nat} (hs : z.length = s) (n : Nat) :
    RowsRel E s (List.replicate n z) ((Array.range (n * s)).map (v.cells[· % v.cells.size]!)) := by
  have hz : v.cells.size = s := by have := hb.1; simp at this; omega
  refine ⟨by simp, fun i row hr => ?_⟩
  rw [List.getElem?_replicate] at hr
  split at hr <;> try (cases hr; done)
  rename_i hi
  obtain rfl := Option.some.inj hr
  refine ⟨hs, fun j x hx => ?_⟩
  obtain ⟨u, hu, hR⟩ := hb.get hx
  have hj : j < z.length := (List.getElem?_eq_some_iff.1 hx).1
  exact ⟨u, by rw [zero_at hz hi (by omega)]; simpa using hu, hR⟩

theorem RowsRel.push (H : HRel E h) {s : Nat} {rows : List (List AV)} {c : Array Value} (hR : RowsRel E s rows c) (e : TypeId) {b : ABlk} (hb : rowsBlk s rows = some b) :
    b.shape = (s, rows.length) ∧ Ext E (E.push (.cells c e) (s, rows.length)) ∧ HRel (E.push (.cells c e) (s, rows.length)) (h ++ [some b]) := by
  unfold rowsBlk at hb
  split at hb
  · rename_i k l hi
    obtain rfl := Option.some.inj hb
    have key : ∀ (rows : List (List AV)) k l, intsOf rows = some (k, l) → rows.length = l.length ∧ ∀ (i : Nat) row, rows[i]? = some row → ∃ n, l[i]? = some n ∧ row = [.int k n] := by
      intro rows
      induction rows with
      | nil => intro k l h; simp [intsOf] at h
      | cons r rs ih =>
        intro k l h
        cases rs with
        | nil =>
          unfold intsOf at h
          split at h <;> try (cases h; done)
          · rename_i heq
            simp only [List.cons.injEq, and_true] at heq
            subst heq
            simp only [Option.some.injEq, Prod.mk.injEq] at h
            obtain ⟨rfl, rfl⟩ := h
            refine ⟨rfl, fun i row hr => ?_⟩
            match i, hr with
            | 0, hr => simp only [List.getElem?_cons_zero, Option.some.injEq] at hr; exact ⟨_, rfl, hr.symm⟩
          · rename_i heq
            simp only [List.cons.injEq] at heq
            obtain ⟨_, rfl⟩ := heq
            simp [intsOf] at h
        | cons r2 rs2 =>
          unfold intsOf at h
          split at h <;> try (cases h; done)
          · rename_i heq; simp at heq
          · rename_i k1 n1 rr hne heq
            simp only [List.cons.injEq] at heq
            obtain ⟨rfl, rfl⟩ := heq
            split at h <;> try (cases h; done)
            rename_i k' l' hl'
            split at h <;> try (cases h; done)
            rename_i hk
            have hk := of_decide_eq_true hk
            subst hk
            simp only [Option.some.injEq, Prod.mk.injEq] at h
            obtain ⟨rfl, rfl⟩ := h
            obtain ⟨i1, i2⟩ := ih _ _ hl'
            refine ⟨by simp at i1 ⊢; omega, fun i row hr => ?_⟩
            cases i with
            | zero => simp only [List.getElem?_cons_zero, Option.some.injEq] at hr; exact ⟨_, rfl, hr.symm⟩
            | succ i => exact i2 i row (by simpa using hr)
    obtain ⟨k1, k2⟩ := key rows k l hi
    have hs : s = 1 := by
      cases hrow : rows with
      | nil => rw [hrow] at hi; simp [intsOf] at hi
      | cons r rs =>
        obtain ⟨n, _, hr⟩ := k2 0 r (by rw [hrow]; rfl)
        have := (hR.row 0 r (by rw [hrow]; rfl)).1
        rw [hr] at this; simpa using this.symm
    subst hs
    have hsh : (ABlk.ia k l).shape = (1, rows.length) := by simp [ABlk.shape, k1]
    refine ⟨hsh, H.ext_push _ _, ?_⟩
    rw [← hsh]
    refine H.push (.ia k l) c e trivial (by rw [hsh, hR.size]; exact Nat.le_refl _) fun i j x hx => ?_
    simp only [ABlk.cell] at hx
    split at hx <;> try (cases hx; done)
    rename_i hj
    subst hj
    rw [Option.map_eq_some_iff] at hx
    obtain ⟨n, hn, rfl⟩ := hx
    have hlt : i < rows.length := by rw [k1]; exact (List.getElem?_eq_some_iff.1 hn).1
    obtain ⟨n', hn', hrow⟩ := k2 i _ (List.getElem?_eq_getElem hlt)
    rw [hn] at hn'
    obtain rfl := Option.some.inj hn'
    obtain ⟨v, hv, hRv⟩ := (hR.row i _ (List.getElem?_eq_getElem hlt)).2 0 (.int k n) (by rw [hrow]; rfl)
    exact ⟨v, by simpa [hsh] using hv, closed_nil rfl hRv⟩
  · split at hb <;> try (cases hb; done)
    rename_i hall
    obtain rfl := Option.some.inj hb
    have hsh : (ABlk.arr s rows).shape = (s, rows.length) := rfl
    refine ⟨hsh, H.ext_push _ _, ?_⟩
    rw [← hsh]
    refine H.push (.arr s rows) c e (fun i row hr => (hR.row i row hr).1) (by rw [hsh, hR.size]; exact Nat.le_refl _) fun i j x hx => ?_
    simp only [ABlk.cell, Option.bind_eq_some_iff] at hx
    obtain ⟨row, hrow, hx⟩ := hx
    obtain ⟨v, hv, hRv⟩ := (hR.row i row hrow).2 j x hx
    rw [List.all_eq_true] at hall
    have h1 := hall row (List.mem_of_getElem? hrow)
    rw [Bool.and_eq_true, List.all_eq_true] at h1
    exact ⟨v, hv, closed_nil (h1.2 x (List.mem_of_getElem? hx)) hRv⟩

/-- The value of a new slice. -/
theorem new_slice (H : HRel E h) (c : Array Value) (e : TypeId) (s n : Nat) (hsz : n * s ≤ c.size) :
    (E.push (.cells c e) (s, n)).R (.sl h.length 0 n) (.slice (some ⟨E.w.heap.size, 0, none⟩) n n) := by
  have hsl : E.S.sh.length = h.length := by rw [← H.rlen, H.len]
  refine .sl _ _ _ _ E.w.heap.size 0 _ _ ?_ (fun s' N hN => ?_) (Nat.le_refl _)
  · show (E.S.ρ ++ [(E.w.heap.size, 0)])[h.length]? = _
    rw [← H.len]; simp
  · have hN' : (E.S.sh ++ [some (s, n)])[h.length]? = some (some (s', N)) := hN
    rw [← hsl] at hN'
    simp at hN'
    obtain ⟨rfl, rfl⟩ := hN'
    refine ⟨by omega, by omega, by omega, c, e, (0, 0), ?_, by simpa using hsz⟩
    show (E.w.heap.push _)[E.w.heap.size]? = _
    simp

theorem wrap_small {n : Int} (h0 : 0 ≤ n) (h1 : n ≤ 2 ^ 46) : IntKind.i64.wrap n = n := by
  have h2 : n % 18446744073709551616 = n := by omega
  simp [IntKind.wrap, IntKind.bits, IntKind.signed, h2]
  omega

theorem op_mkslice_run (H : HRel E h) {t e : TypeId} (ht : P.underlying t = some (.slice e)) {s : Nat} (hs : sizeB P e = some s) {z : List AV} (hz : zeroB P e = some z) (hzl : z.length = s) (hs0 : s ≠ 0)
    {bytes : Nat} (hby : bytesB P e = some bytes) {n : Int} (hn : 0 ≤ n ∧ (bytes + 1) * n ≤ 2 ^ 46) {b : ABlk}
    (hb : (∃ k x, z = [.int k x] ∧ b = .ia k (List.replicate n.toNat x)) ∨ (z.all closed = true ∧ b = .arr s (List.replicate n.toNat z))) :
    ∃ c : Array Value, n.toNat * s ≤ c.size ∧ ((do pure (.value (← Instr.makeSlice t (.int .i64 n) (.int .i64 n)))) : Sem Next).run P E.w = .ok (.value (.slice (some ⟨E.w.heap.size, 0, none⟩) n.toNat n.toNat)) (E.push (.cells c e) (s, n.toNat)).w ∧
      HRel (E.push (.cells c e) (s, n.toNat)) (h ++ [some b]) := by
  obtain ⟨i, v, hi, hv, hbes, hcl⟩ := zeroB_info hz
  have hn46 : n ≤ 2 ^ 46 := by
    have : (bytes + 1 : Int) * n = bytes * n + n := by rw [Int.add_mul, Int.one_mul]
    have h2 : (0 : Int) ≤ bytes * n := Int.mul_nonneg (by omega) hn.1
    omega
  have hbn : (bytes : Int) * n ≤ 2 ^ 46 := by
    have : (bytes + 1 : Int) * n = bytes * n + n := by rw [Int.add_mul, Int.one_mul]
    omega
  have hw := wrap_small hn.1 hn46
  have hbi : i.bytes = bytes := by simpa [bytesB, hi] using hby
  have hsi : i.size = s := by simpa [sizeB, hi] using hs
  have hcells := RowsRel.zeros (hbes E) hzl n.toNat
  generalize hc : (Array.range (n.toNat * s)).map (v.cells[· % v.cells.size]!) = c at hcells
  have hrows : ∀ i j x, b.cell i j = some x → ∃ u, c[i * b.shape.1 + j]? = some u ∧ Go.AL.Rel E.w E.F (b.inner E.S) x u := by
    intro i j x hx
    rcases hb with ⟨k, x0, rfl, rfl⟩ | ⟨hall, rfl⟩
    · simp only [ABlk.cell] at hx
      split at hx <;> try (cases hx; done)
      rename_i hj
      subst hj
      rw [Option.map_eq_some_iff] at hx
      obtain ⟨m, hm, rfl⟩ := hx
      rw [List.getElem?_replicate] at hm
      split at hm <;> try (cases hm; done)
      rename_i hlt
      obtain rfl := Option.some.inj hm
      obtain ⟨u, hu, hRu⟩ := (hcells.row i [.int k x0] (by rw [List.getElem?_replicate, if_pos hlt])).2 0 _ rfl
      have hs1 : s = 1 := by simpa using hzl.symm
      subst hs1
      exact ⟨u, by simpa [ABlk.shape] using hu, closed_nil rfl hRu⟩
    · simp only [ABlk.cell, Option.bind_eq_some_iff] at hx
      obtain ⟨row, hrow, hx⟩ := hx
      obtain ⟨u, hu, hRu⟩ := (hcells.row i row hrow).2 j x hx
      rw [List.getElem?_replicate] at hrow
      split at hrow <;> try (cases hrow; done)
      obtain rfl := Option.some.inj hrow
      exact ⟨u, hu, closed_nil (List.all_eq_true.1 hall x (List.mem_of_getElem? hx)) hRu⟩
  have hsh : b.shape = (s, n.toNat) := by
    rcases hb with ⟨k, x0, rfl, rfl⟩ | ⟨hall, rfl⟩
    · simp [ABlk.shape]; simpa using hzl
    · simp [ABlk.shape]
  have hfit : b.fits := by
    rcases hb with ⟨k, x0, rfl, rfl⟩ | ⟨hall, rfl⟩
    · trivial
    · intro i row hr; rw [List.getElem?_replicate] at hr; split at hr <;> try (cases hr; done)
      obtain rfl := Option.some.inj hr; exact hzl
  have hcs : c.size = n.toNat * s := by rw [hcells.size]; simp
  have hp := H.push b c e hfit (by rw [hsh, hcs]; exact Nat.le_refl _) hrows (by rcases hb with ⟨_, _, _, rfl⟩ | ⟨_, rfl⟩ <;> rfl)
  rw [hsh] at hp
  refine ⟨c, by rw [hcs]; exact Nat.le_refl _, ?_, hp⟩
  have hb48 : ¬ ((bytes : Int) * n > 2 ^ 48) := by omega
  have hzr : ∀ w, (zeroValue e).run P w = .ok v w := by intro w; simp [zeroValue, typeInfo, hi, hv]
  have hnn : ¬ n < 0 := by omega
  have hb48' : ¬ (281474976710656 < (bytes : Int) * n) := by omega
  by_cases h0 : n.toNat * s = 0
  · have hc0 : c = #[] := by apply Array.eq_empty_of_size_eq_zero; omega
    have hr0 : Array.range 0 = #[] := Array.eq_empty_of_size_eq_zero (by simp)
    simp [Instr.makeSlice, run_underlying ht, asInt, asIntOf, typeInfo, hi, hbi, hw, hnn, hb48', run_sizeOf' hs, newRow, Env.push, h0, hc0, hr0]
  · simp only [Instr.makeSlice, Sem.run_bind, run_underlying ht, Result.andThen_ok, asInt, asIntOf, Sem.run_pure, typeInfo, run_program, hi, hbi, hw]
    simp [hnn, hb48', run_sizeOf' hs, newRow, Env.push, h0, hzr, hc]

theorem op_mkslice (H : HRel E h) {t e : TypeId} (ht : P.underlying t = some (.slice e)) {s : Nat} (hs : sizeB P e = some s) {z : List AV} (hz : zeroB P e = some z) (hzl : z.length = s) (hs0 : s ≠ 0)
    {bytes : Nat} (hby : bytesB P e = some bytes) {n : Int} (hn : 0 ≤ n ∧ (bytes + 1) * n ≤ 2 ^ 46) {b : ABlk}
    (hb : (∃ k x, z = [.int k x] ∧ b = .ia k (List.replicate n.toNat x)) ∨ (z.all closed = true ∧ b = .arr s (List.replicate n.toNat z))) :
    Runs P (do pure (.value (← Instr.makeSlice t (.int .i64 n) (.int .i64 n)))) E h (.sl h.length 0 n.toNat) (.push b) := by
  obtain ⟨c, h1, h2, h3⟩ := op_mkslice_run (P := P) H ht hs hz hzl hs0 hby hn hb
  exact ⟨_, .slice (some ⟨E.w.heap.size, 0, none⟩) n.toNat n.toNat, .inl h2, H.ext_push _ _, h3, new_slice H c e s n.toNat h1⟩

theorem fillRows_sound {s : Nat} : ∀ (parts : List (Nat × Value)) (aps : List (Nat × AV)) (c : Array Value) (rows l : List (List AV)), RowsRel E s rows c → aps.length = parts.length → s ≠ 0 →
    (∀ (q : Nat) i v i' x, parts[q]? = some (i, v) → aps[q]? = some (i', x) → i' = i ∧ E.R x v) → fillRows rows aps = some l →
    ∃ c', Instr.fill (fun i => some (i * s, s)) c parts = some c' ∧ RowsRel E s l c' ∧ l.length = rows.length
  | [], [], c, rows, l, hb, _, _, _, hf => by simp only [fillRows, Option.some.injEq] at hf; subst hf; exact ⟨c, rfl, hb, rfl⟩
  | [], _ :: _, _, _, _, _, hl, _, _, _ => by simp at hl
  | _ :: _, [], _, _, _, _, hl, _, _, _ => by simp at hl
  | (i, v) :: ps, (i', x) :: as, c, rows, l, hb, hl, hs, hp, hf => by
    obtain ⟨rfl, hR⟩ := hp 0 i v i' x rfl rfl
    simp only [fillRows, nth_eq] at hf
    split at hf <;> try (cases hf; done)
    rename_i row hrow
    split at hf <;> try (cases hf; done)
    rename_i hlen
    have e1 : x.cells.length = row.length := Nat.eq_of_beq_eq_true hlen
    have e0 := (hb.row i' row hrow).1
    have hxu : x ≠ .undef := by rintro rfl; simp [AV.cells] at e1; omega
    have hbx := cells_bes hR hxu
    have e3 : v.cells.size = s := by have := hbx.1; simp at this; omega
    have hi : i' < rows.length := (List.getElem?_eq_some_iff.1 hrow).1
    have h1 : i' * s + s ≤ rows.length * s := by rw [← Nat.succ_mul]; exact Nat.mul_le_mul_right _ hi
    obtain ⟨f1, f2⟩ := fill_step c (i' * s) v (by rw [hb.size]; omega)
    rw [lset_eq] at hf
    obtain ⟨c', g1, g2, g3⟩ := fillRows_sound ps as (v.cells.zipIdx.foldl (fun cs (c, j) => cs.setIfInBounds (i' * s + j) c) c) (rows.set i' x.cells) l
      ⟨by rw [f1, hb.size]; simp, fun q r hq => by
        rw [List.getElem?_set] at hq
        by_cases hqi : i' = q
        · subst hqi
          rw [if_pos rfl, if_pos hi] at hq
          obtain rfl := Option.some.inj hq
          refine ⟨by omega, fun j y hy => ?_⟩
          obtain ⟨u, hu, hRu⟩ := hbx.get hy
          have hj : j < x.cells.length := (List.getElem?_eq_some_iff.1 hy).1
          refine ⟨u, ?_, hRu⟩
          rw [f2, if_pos (by omega), show i' * s + j - i' * s = j by omega]
          simpa using hu
        · rw [if_neg hqi] at hq
          obtain ⟨r1, r2⟩ := hb.row q r hq
          refine ⟨r1, fun j y hy => ?_⟩
          obtain ⟨u, hu, hRu⟩ := r2 j y hy
          have hj : j < r.length := (List.getElem?_eq_some_iff.1 hy).1
          refine ⟨u, ?_, hRu⟩
          rw [f2, if_neg, hu]
          rintro ⟨a1, a2⟩
          rcases Nat.lt_trichotomy i' q with h' | h' | h'
          · have : i' * s + s ≤ q * s := by rw [← Nat.succ_mul]; exact Nat.mul_le_mul_right _ h'
            omega
          · exact hqi h'
          · have : q * s + s ≤ i' * s := by rw [← Nat.succ_mul]; exact Nat.mul_le_mul_right _ h'
            omega⟩ (by simpa using hl) hs
      (fun q i v i' x h1 h2 => hp (q + 1) i v i' x (by simpa using h1) (by simpa using h2)) hf
    refine ⟨c', ?_, g2, by simpa using g3⟩
    simp only [Instr.fill]
    rw [if_neg (by simp [e3]; rw [hb.size]; omega)]
    exact g1

theorem op_bslice_run (H : HRel E h) {t e : TypeId} (ht : P.underlying t = some (.slice e)) {s : Nat} (hs : sizeB P e = some s) {z : List AV} (hz : zeroB P e = some z) (hzl : z.length = s) (hs0 : s ≠ 0)
    {len : Nat} (hlen : len * s ≤ 2 ^ 24) {parts : Array (Nat × Operand)} {ps : List (Nat × Opd)} (hp : (parts.toList.mapM fun (i, x) => do pure (i, ← cOpd x)) = some ps)
    {tm : List (Nat × AV)} {a : Act} (T : TRel E tm a) {rows : List (List AV)} (hf : fillRows (List.replicate len z) (ps.map fun (i, x) => (i, ev tm x)) = some rows) {b : ABlk}
    (hb : rowsBlk s rows = some b ∨ (rows = [] ∧ ∃ k x, z = [.int k x] ∧ b = .ia k [])) :
    ∃ c', len * s ≤ c'.size ∧ ((do pure (.value (← Instr.buildSlice t len (parts.map fun (i, x) => (i, a.eval x)))) : Sem Next).run P E.w = .ok (.value (.slice (some ⟨E.w.heap.size, 0, none⟩) len len)) (E.push (.cells c' e) (s, len)).w) ∧
      HRel (E.push (.cells c' e) (s, len)) (h ++ [some b]) := by
  obtain ⟨i, v, hi, hv, hbes, _⟩ := zeroB_info hz
  have hzr : ∀ w, (zeroValue e).run P w = .ok v w := by intro w; simp [zeroValue, typeInfo, hi, hv]
  obtain ⟨h1, h2⟩ := mapM_get hp
  obtain ⟨c', g1, g2, g3⟩ := fillRows_sound (E := E) (s := s) (parts.toList.map fun (i, x) => (i, a.eval x)) (ps.map fun (i, x) => (i, ev tm x)) _ _ rows (RowsRel.zeros (hbes E) hzl len) (by simp [h1]) hs0
    (fun q i v i' x hq1 hq2 => by
      rw [List.getElem?_map, Option.map_eq_some_iff] at hq1 hq2
      obtain ⟨⟨i₀, o₀⟩, hq1, e1⟩ := hq1
      obtain ⟨⟨i₁, x₀⟩, hq2, e2⟩ := hq2
      simp only [Prod.mk.injEq] at e1 e2
      obtain ⟨rfl, rfl⟩ := e1
      obtain ⟨rfl, rfl⟩ := e2
      have := h2 q _ _ hq1 hq2
      simp only [Option.bind_eq_bind, Option.bind_eq_some_iff, Option.pure_def, Option.some.injEq, Prod.mk.injEq] at this
      obtain ⟨y, hy, rfl, rfl⟩ := this
      exact ⟨rfl, cOpd_rel T hy⟩) hf
  have hrl : rows.length = len := by rw [g3]; simp
  have hpush : b.shape = (s, len) ∧ HRel (E.push (.cells c' e) (s, len)) (h ++ [some b]) := by
    rcases hb with hb | ⟨rfl, k, x, rfl, rfl⟩
    · obtain ⟨q1, q2, q3⟩ := g2.push H e hb
      rw [hrl] at q1 q3
      exact ⟨q1, q3⟩
    · have hs1 : s = 1 := by simpa using hzl.symm
      have hl0 : len = 0 := by simpa using hrl.symm
      subst hs1 hl0
      exact ⟨rfl, H.push (.ia k []) c' e trivial (by simp [ABlk.shape]) (fun i j x hx => by simp [ABlk.cell] at hx)⟩
  refine ⟨c', by rw [g2.size, hrl]; exact Nat.le_refl _, ?_, hpush.2⟩
  have hlim : ¬ (16777216 < len * s) := by omega
  by_cases h0 : len * s = 0
  · have hl0 : len = 0 := (Nat.mul_eq_zero.1 h0).resolve_right hs0
    have hr0 : Array.range 0 = #[] := Array.eq_empty_of_size_eq_zero (by simp)
    subst hl0
    have hps : parts.toList = [] := by
      cases hpl : parts.toList with
      | nil => rfl
      | cons x xs =>
        exfalso
        rw [hpl] at h1 hp
        cases ps with
        | nil => simp at h1
        | cons y ys => simp [fillRows, nth] at hf
    have hpe : parts = #[] := by cases parts; simpa using hps
    subst hpe
    have hc0 : c' = #[] := by apply Array.eq_empty_of_size_eq_zero; rw [g2.size, hrl]; omega
    subst hc0
    simp [Instr.buildSlice, run_underlying ht, run_sizeOf' hs, Instr.fill, newRow, Env.push, hr0]
  · simp only [Instr.buildSlice, Sem.run_bind, run_underlying ht, Result.andThen_ok, run_sizeOf' hs, Array.toList_map]
    simp [hlim, h0, hzr, g1, newRow, Env.push]

theorem op_bslice (H : HRel E h) {t e : TypeId} (ht : P.underlying t = some (.slice e)) {s : Nat} (hs : sizeB P e = some s) {z : List AV} (hz : zeroB P e = some z) (hzl : z.length = s) (hs0 : s ≠ 0)
    {len : Nat} (hlen : len * s ≤ 2 ^ 24) {parts : Array (Nat × Operand)} {ps : List (Nat × Opd)} (hp : (parts.toList.mapM fun (i, x) => do pure (i, ← cOpd x)) = some ps)
    {tm : List (Nat × AV)} {a : Act} (T : TRel E tm a) {rows : List (List AV)} (hf : fillRows (List.replicate len z) (ps.map fun (i, x) => (i, ev tm x)) = some rows) {b : ABlk}
    (hb : rowsBlk s rows = some b ∨ (rows = [] ∧ ∃ k x, z = [.int k x] ∧ b = .ia k [])) :
    Runs P (do pure (.value (← Instr.buildSlice t len (parts.map fun (i, x) => (i, a.eval x))))) E h (.sl h.length 0 len) (.push b) := by
  obtain ⟨c', h1, h2, h3⟩ := op_bslice_run (P := P) H ht hs hz hzl hs0 hlen hp T hf hb
  exact ⟨_, .slice (some ⟨E.w.heap.size, 0, none⟩) len len, .inl h2, H.ext_push _ _, h3, new_slice H c' e s len h1⟩

/-- A new block that is read alone from now on. -/
def Env.jfrz (E : Env) (o : Obj) : Env := { w := E.w.alloc o, F := fun b => E.F b ∨ b = E.w.heap.size, S := E.S }

theorem HRel.ext_jfrz (H : HRel E h) (o : Obj) : Ext E (E.jfrz o) :=
  { H.ext_junk o with frz := fun b hb => .inl hb, nfrz := fun b hb => hb.imp id fun he => .inr (by rw [he]; exact Nat.le_refl _) }

theorem HRel.jfrz (H : HRel E h) (o : Obj) : HRel (E.jfrz o) h where
  sh := H.sh
  len := H.len
  blk k b hk := by
    obtain ⟨h0, cb, base, c, e, h1, h2, h3, h4, h5⟩ := (H.junk o).blk k b hk
    refine ⟨h0, cb, base, c, e, h1, h2, ?_, h4, fun i j x hx => ?_⟩
    · rintro (hF | he)
      · exact h3 hF
      · have := H.own_lt (H.own_of hk h1); omega
    · obtain ⟨v, hv, hR⟩ := h5 i j x hx
      exact ⟨v, hv, Rel.mono (F := E.F) (fun b h => .inl h) (fun _ _ _ => rfl) hR _ (fun _ _ h => h) (fun _ _ _ _ h => h) fun b c e f h => ⟨c, e, f, h, rfl, rfl⟩⟩
  inj := H.inj
  frz b hb := by
    have hs : (E.w.alloc o).heap.size = E.w.heap.size + 1 := by simp
    show b < (E.w.alloc o).heap.size
    rw [hs]
    rcases hb with hb | hb
    · have := H.frz b hb; omega
    · omega

theorem frz_new (H : HRel E h) {c' : Array Value} {e : TypeId} {s len : Nat} {b : ABlk} (h3 : HRel (E.push (.cells c' e) (s, len)) (h ++ [some b])) {v : AV} (hv : (∃ k l, b = .ia k l ∧ v = .ri k l) ∨ ∃ s' l, b = .arr s' l ∧ v = .ro s' l) :
    (E.jfrz (.cells c' e)).R v (.slice (some ⟨E.w.heap.size, 0, none⟩) len len) := by
  obtain ⟨f0, cb, base, c, e2, r1, r2, r3, r4, r5⟩ := h3.cblk h.length b (by simp) (by rcases hv with ⟨_, _, rfl, _⟩ | ⟨_, _, rfl, _⟩ <;> rfl)
  have hr : (E.S.ρ ++ [(E.w.heap.size, 0)])[h.length]? = some (cb, base) := r1
  rw [← H.len] at hr
  simp at hr
  obtain ⟨rfl, rfl⟩ := hr
  have hc2 : (E.jfrz (.cells c' e)).w.heap[E.w.heap.size]? = some (.cells c e2 (0, 0)) := r2
  have hnew : (E.jfrz (.cells c' e)).w.heap[E.w.heap.size]? = some (.cells c' e (0, 0)) := World.alloc_heap_new E.w _
  have hln : len = b.shape.2 := by
    have := h3.sh
    have h5 : (E.S.sh ++ [some (s, len)]) = (h ++ [some b]).map (·.map ABlk.shape) := this
    rw [List.map_append, ← H.sh] at h5
    have h6 := List.append_cancel_left h5
    simp at h6
    rw [← h6]
  have mono : ∀ {x : AV} {u : Value} {S : Shp}, Go.AL.Rel (E.push (.cells c' e) (s, len)).w (E.push (.cells c' e) (s, len)).F S x u → Go.AL.Rel (E.jfrz (.cells c' e)).w (E.jfrz (.cells c' e)).F S x u := fun h =>
    Rel.mono (fun b h => .inl h) (fun _ _ _ => rfl) h _ (fun _ _ h => h) (fun _ _ _ _ h => h) fun b c e f h => ⟨c, e, f, h, rfl, rfl⟩
  rcases hv with ⟨k, l, rfl, rfl⟩ | ⟨s', l, rfl, rfl⟩
  · refine .ri _ _ _ _ _ _ hln (Nat.le_refl _) (fun i x hx => ?_) (by simp)
    obtain ⟨u, hu, hR⟩ := r5 i 0 (.int k x) (by simp [ABlk.cell, hx])
    have := rel_int (E := E.push (.cells c' e) (s, len)) (hR.nil_to _)
    subst this
    refine ⟨_, _, rfl, .inr rfl, ?_⟩
    simp only [ABlk.shape] at hu
    simp only [World.cell?, hc2]
    simpa using hu
  · refine .ro _ _ _ _ _ _ (fun i j => (c[i * s' + j]?).getD undef) hln (Nat.le_refl _) (fun i row hrow => ⟨f0 i row hrow, _, _, rfl, .inr rfl, fun j x hx => ?_⟩) (fun i j row x hrow hx => ?_) (by simp)
    · obtain ⟨u, hu, hR⟩ := r5 i j x (by simp [ABlk.cell, hrow, hx])
      simp only [ABlk.shape] at hu
      simp only [World.cell?, hc2]
      have hu : c[i * s' + j]? = some u := by simpa using hu
      simp [hu]
    · obtain ⟨u, hu, hR⟩ := r5 i j x (by simp [ABlk.cell, hrow, hx])
      simp only [ABlk.shape] at hu
      have hu : c[i * s' + j]? = some u := by simpa using hu
      rw [hu]
      exact mono hR

theorem op_bfrz (H : HRel E h) {t e : TypeId} (ht : P.underlying t = some (.slice e)) {s : Nat} (hs : sizeB P e = some s) {z : List AV} (hz : zeroB P e = some z) (hzl : z.length = s) (hs0 : s ≠ 0)
    {len : Nat} (hlen : len * s ≤ 2 ^ 24) {parts : Array (Nat × Operand)} {ps : List (Nat × Opd)} (hp : (parts.toList.mapM fun (i, x) => do pure (i, ← cOpd x)) = some ps)
    {tm : List (Nat × AV)} {a : Act} (T : TRel E tm a) {rows : List (List AV)} (hf : fillRows (List.replicate len z) (ps.map fun (i, x) => (i, ev tm x)) = some rows) {b : ABlk}
    (hb : rowsBlk s rows = some b) {v : AV} (hv : (∃ k l, b = .ia k l ∧ v = .ri k l) ∨ ∃ s' l, b = .arr s' l ∧ v = .ro s' l) :
    Runs P (do pure (.value (← Instr.buildSlice t len (parts.map fun (i, x) => (i, a.eval x))))) E h v .keep := by
  obtain ⟨c', h1, h2, h3⟩ := op_bslice_run (P := P) H ht hs hz hzl hs0 hlen hp T hf (.inl hb)
  have h4 : (E.push (.cells c' e) (s, len)).w = (E.jfrz (.cells c' e)).w := rfl
  rw [h4] at h2
  exact ⟨_, _, .inl h2, H.ext_jfrz _, H.jfrz _, frz_new H h3 hv⟩

theorem op_mkfrz (H : HRel E h) {t e : TypeId} (ht : P.underlying t = some (.slice e)) {s : Nat} (hs : sizeB P e = some s) {z : List AV} (hz : zeroB P e = some z) (hzl : z.length = s) (hs0 : s ≠ 0)
    {bytes : Nat} (hby : bytesB P e = some bytes) {n : Int} (hn : 0 ≤ n ∧ (bytes + 1) * n ≤ 2 ^ 46) {b : ABlk}
    (hb : (∃ k x, z = [.int k x] ∧ b = .ia k (List.replicate n.toNat x)) ∨ (z.all closed = true ∧ b = .arr s (List.replicate n.toNat z)))
    {v : AV} (hv : (∃ k l, b = .ia k l ∧ v = .ri k l) ∨ ∃ s' l, b = .arr s' l ∧ v = .ro s' l) : Runs P (do pure (.value (← Instr.makeSlice t (.int .i64 n) (.int .i64 n)))) E h v .keep := by
  obtain ⟨c, h1, h2, h3⟩ := op_mkslice_run (P := P) H ht hs hz hzl hs0 hby hn hb
  have h4 : (E.push (.cells c e) (s, n.toNat)).w = (E.jfrz (.cells c e)).w := rfl
  rw [h4] at h2
  exact ⟨_, _, .inl h2, H.ext_jfrz _, H.jfrz _, frz_new H h3 hv⟩

theorem op_bslice0 (H : HRel E h) {t e : TypeId} (ht : P.underlying t = some (.slice e)) {s : Nat} (hs : sizeB P e = some s) :
    Runs P (do pure (.value (← Instr.buildSlice t 0 #[]))) E h .semp .keep := by
  refine ⟨E.junk (.cells #[] e), .slice (some ⟨E.w.heap.size, 0, none⟩) 0 0, .inl ?_, H.ext_junk _, H.junk _, .semp ..⟩
  have hr0 : Array.range 0 = #[] := Array.eq_empty_of_size_eq_zero (by simp)
  simp [Instr.buildSlice, run_underlying ht, run_sizeOf' hs, Instr.fill, newRow, Env.junk, hr0]

end Go.AL

/-! Appending. Seat-independent. -/

namespace Go.AL
variable {E : Env} {h : AHeap} {P : Program}

def Rows.len : Rows → Nat
  | .ints _ xs => xs.length
  | .rows l => l.length
  | .none => 0

def Rows.cell : Rows → Nat → Nat → Option AV
  | .ints k xs, i, j => if j = 0 then (xs[i]?).map (.int k) else Option.none
  | .rows l, i, j => (l[i]?).bind (·[j]?)
  | .none, _, _ => Option.none

/-- What a source's cells are. -/
structure Src (E : Env) (s : Nat) (r : Rows) (vy : Value) (ys : List Value) : Prop where
  form : ∃ a cap, vy = .slice a r.len cap ∧ (∀ ad, a = some ad → At E.w ad ys) ∧ (a = none → r.len = 0)
  len : ys.length = r.len * s
  cell : ∀ i j x, r.cell i j = some x → j < s ∧ ∃ v, ys[i * s + j]? = some v ∧ Go.AL.Rel E.w E.F .nil x v
  cov : ∀ q : Nat, q < ys.length → ∃ i j x, i < r.len ∧ q = i * s + j ∧ r.cell i j = some x

theorem div_split {q n s : Nat} (hs : s ≠ 0) (h : q < n * s) : q / s < n ∧ q = q / s * s + q % s ∧ q % s < s := by
  refine ⟨(Nat.div_lt_iff_lt_mul (by omega)).2 h, ?_, Nat.mod_lt _ (by omega)⟩
  rw [Nat.mul_comm]; exact (Nat.div_add_mod q s).symm

theorem Src.of_cells {s : Nat} (hs : s ≠ 0) {r : Rows} {a : Option Addr} {cap : Nat} (f : Nat → Value) (hrow : ∀ i, i < r.len → ∀ j, j < s → (r.cell i j).isSome) (hj : ∀ i j x, r.cell i j = some x → i < r.len ∧ j < s)
    (hf : ∀ i j x, r.cell i j = some x → (∃ cb off, a = some ⟨cb, off, none⟩ ∧ E.w.cell? ⟨cb, off + i * s + j, none⟩ = some (f (i * s + j))) ∧ Go.AL.Rel E.w E.F .nil x (f (i * s + j)))
    (hn : a = none → r.len = 0) : Src E s r (.slice a r.len cap) ((List.range (r.len * s)).map f) := by
  have get : ∀ q, q < r.len * s → ((List.range (r.len * s)).map f)[q]? = some (f q) := by
    intro q hq; rw [List.getElem?_map, List.getElem?_range hq]; rfl
  refine ⟨⟨a, cap, rfl, fun ad ha q v hq => ?_, hn⟩, by simp, fun i j x hx => ?_, fun q hq => ?_⟩
  · have hlt : q < r.len * s := by have := (List.getElem?_eq_some_iff.1 hq).1; simpa using this
    rw [get q hlt] at hq
    obtain rfl := Option.some.inj hq
    obtain ⟨d1, d2, d3⟩ := div_split hs hlt
    obtain ⟨x, hx⟩ := Option.isSome_iff_exists.1 (hrow (q / s) d1 (q % s) d3)
    obtain ⟨⟨cb, off, e1, e2⟩, _⟩ := hf _ _ x hx
    rw [ha] at e1
    obtain rfl := Option.some.inj e1
    rw [add_plain]
    rw [← d2] at e2
    rw [← e2]; congr 2; omega
  · obtain ⟨h1, h2⟩ := hj i j x hx
    refine ⟨h2, f (i * s + j), get _ ?_, (hf i j x hx).2⟩
    have : i * s + s ≤ r.len * s := by rw [← Nat.succ_mul]; exact Nat.mul_le_mul_right _ h1
    omega
  · have hlt : q < r.len * s := by simpa using hq
    obtain ⟨d1, d2, d3⟩ := div_split hs hlt
    obtain ⟨x, hx⟩ := Option.isSome_iff_exists.1 (hrow (q / s) d1 (q % s) d3)
    exact ⟨_, _, x, d1, d2, hx⟩

theorem src_sound0 (H : HRel E h) {s : Nat} (hs : s ≠ 0) {y : AV} {vy : Value} (hns : ∀ b i n c, y ≠ .slc b i n c) (hy : E.R y vy) {r : Rows} (hr : srcV h s y = r) (hne : r ≠ .none) : ∃ ys, Src E s r vy ys := by
  cases y <;> simp only [srcV] at hr <;> try (exact absurd hr.symm hne)
  · subst hr
    have hv : ∃ a cap, vy = .slice (some a) 0 cap := by cases hy; exact ⟨_, _, rfl⟩
    obtain ⟨a, cap, rfl⟩ := hv
    exact ⟨[], ⟨⟨_, cap, rfl, fun _ _ j v hv => by simp at hv, fun hh => by cases hh⟩, by simp [Rows.len], fun i j x hx => by simp [Rows.cell] at hx, fun q hq => by simp at hq⟩⟩
  · rename_i b i n
    obtain ⟨cb, base, off, cap, rfl, h1, h3, h2⟩ := rel_sl hy
    rw [nth_eq] at hr
    split at hr
    · rename_i k xs hb
      split at hr <;> try (exact absurd hr.symm hne)
      rename_i hs1
      have hs1 := Nat.eq_of_beq_eq_true hs1
      subst hs1 hr
      obtain ⟨g1, g2, g3, c, ee, f, g4, g5⟩ := h3 _ _ (H.live.2 ⟨_, hb, rfl⟩)
      obtain ⟨_, cb', base', c', e', b1, b2, b3, b4, b5⟩ := H.cblk _ _ hb
      rw [h1] at b1
      obtain ⟨rfl, rfl⟩ := Prod.mk.inj (Option.some.inj b1)
      simp only [ABlk.shape] at g1 g2 g3 g5 b4 b5
      have hlen : Rows.len (.ints k ((xs.drop i).take n)) = n := by simp [Rows.len]; omega
      have S := Src.of_cells (E := E) (r := .ints k ((xs.drop i).take n)) (a := some ⟨cb, off, none⟩) (cap := cap) hs (fun q => .int k (xs.getD (i + q) 0))
        (fun q hq j hj => by
          rw [hlen] at hq
          have : j = 0 := by omega
          subst this
          simp only [Rows.cell, if_true]
          rw [List.getElem?_take, if_pos hq, List.getElem?_drop, List.getElem?_eq_getElem (by omega)]; rfl)
        (fun q j x hx => by
          simp only [Rows.cell] at hx
          split at hx <;> try (cases hx; done)
          rename_i hj
          rw [Option.map_eq_some_iff] at hx
          obtain ⟨m, hm, _⟩ := hx
          exact ⟨(List.getElem?_eq_some_iff.1 hm).1, by omega⟩)
        (fun q j x hx => by
          simp only [Rows.cell] at hx
          split at hx <;> try (cases hx; done)
          rename_i hj
          subst hj
          rw [Option.map_eq_some_iff] at hx
          obtain ⟨m, hm, rfl⟩ := hx
          rw [List.getElem?_take] at hm
          split at hm <;> try (cases hm; done)
          rename_i hqn
          rw [List.getElem?_drop] at hm
          have e0 : xs.getD (i + (q * 1 + 0)) 0 = m := by simp [List.getD, hm]
          rw [e0]
          obtain ⟨u, hu1, hu2⟩ := b5 (i + q) 0 (.int k m) (by simp [ABlk.cell, hm])
          have hu2' := hu2
          cases hu2'
          refine ⟨⟨cb, off, rfl, ?_⟩, .int ..⟩
          rw [g1.resolve_left (by omega)]
          simp only [World.cell?, b2, Option.isSome_none, Bool.false_eq_true, if_false]
          rw [← hu1]; congr 1; omega)
        (by simp)
      rw [hlen] at S
      exact ⟨_, S⟩
    · rename_i s' rows hb
      split at hr <;> try (exact absurd hr.symm hne)
      rename_i hs1
      have hs1 := Nat.eq_of_beq_eq_true hs1
      subst hs1 hr
      obtain ⟨g1, g2, g3, c, ee, f, g4, g5⟩ := h3 _ _ (H.live.2 ⟨_, hb, rfl⟩)
      obtain ⟨b0, cb', base', c', e', b1, b2, b3, b4, b5⟩ := H.cblk _ _ hb
      rw [h1] at b1
      obtain ⟨rfl, rfl⟩ := Prod.mk.inj (Option.some.inj b1)
      simp only [ABlk.shape] at g1 g2 g3 g5 b4 b5
      have hlen : Rows.len (.rows ((rows.drop i).take n)) = n := by simp [Rows.len]; omega
      have row : ∀ q, q < n → ∃ l, ((rows.drop i).take n)[q]? = some l ∧ rows[i + q]? = some l ∧ l.length = s' := by
        intro q hq
        refine ⟨rows[i + q]'(by omega), ?_, List.getElem?_eq_getElem _, b0 (i + q) _ (List.getElem?_eq_getElem _)⟩
        rw [List.getElem?_take, if_pos hq, List.getElem?_drop, List.getElem?_eq_getElem]
      have S := Src.of_cells (E := E) (r := .rows ((rows.drop i).take n)) (a := some ⟨cb, off, none⟩) (cap := cap) hs (fun q => (c'[base + i * s' + q]?).getD undef)
        (fun q hq j hj => by
          rw [hlen] at hq
          obtain ⟨l, e1, e2, e3⟩ := row q hq
          simp only [Rows.cell, e1, Option.bind_some]
          rw [List.getElem?_eq_getElem (by omega)]; rfl)
        (fun q j x hx => by
          simp only [Rows.cell, Option.bind_eq_some_iff] at hx
          obtain ⟨l, e1, e2⟩ := hx
          have hq : q < n := by have := (List.getElem?_eq_some_iff.1 e1).1; simp at this; omega
          obtain ⟨l', f1, f2, f3⟩ := row q hq
          rw [e1] at f1
          obtain rfl := Option.some.inj f1
          exact ⟨by rw [hlen]; exact hq, by have := (List.getElem?_eq_some_iff.1 e2).1; omega⟩)
        (fun q j x hx => by
          simp only [Rows.cell, Option.bind_eq_some_iff] at hx
          obtain ⟨l, e1, e2⟩ := hx
          have hq : q < n := by have := (List.getElem?_eq_some_iff.1 e1).1; simp at this; omega
          obtain ⟨l', f1, f2, f3⟩ := row q hq
          rw [e1] at f1
          obtain rfl := Option.some.inj f1
          obtain ⟨u, hu1, hu2⟩ := b5 (i + q) j x (by simp [ABlk.cell, f2, e2])
          have e3 : base + i * s' + (q * s' + j) = base + (i + q) * s' + j := by rw [Nat.add_mul]; omega
          simp only [e3, hu1, Option.getD_some]
          refine ⟨⟨cb, off, rfl, ?_⟩, hu2⟩
          rw [g1.resolve_left (by omega)]
          simp only [World.cell?, b2, Option.isSome_none, Bool.false_eq_true, if_false]
          rw [← hu1]; congr 1; rw [Nat.add_mul]; omega)
        (by simp)
      rw [hlen] at S
      exact ⟨_, S⟩
    · split at hr <;> try (exact absurd hr.symm hne)
      subst hr
      exact ⟨[], ⟨⟨_, cap, rfl, fun _ _ j v hv => by simp at hv, fun hh => by cases hh⟩, by simp [Rows.len], fun i j x hx => by simp [Rows.cell] at hx, fun q hq => by simp at hq⟩⟩
    · exact absurd hr.symm hne
  · rename_i k xs
    split at hr <;> try (exact absurd hr.symm hne)
    rename_i hs1
    have hs1 := Nat.eq_of_beq_eq_true hs1
    subst hs1 hr
    obtain ⟨a, cap, rfl, h2, h3, h4⟩ := rel_ri hy
    exact ⟨_, Src.of_cells (E := E) (r := .ints k xs) (a := a) (cap := cap) hs (fun q => .int k (xs.getD q 0))
      (fun q hq j hj => by
        have : j = 0 := by omega
        subst this
        simp only [Rows.cell, if_true]
        rw [List.getElem?_eq_getElem (show q < xs.length from hq)]; rfl)
      (fun q j x hx => by
        simp only [Rows.cell] at hx
        split at hx <;> try (cases hx; done)
        rw [Option.map_eq_some_iff] at hx
        obtain ⟨m, hm, _⟩ := hx
        exact ⟨(List.getElem?_eq_some_iff.1 hm).1, by omega⟩)
      (fun q j x hx => by
        simp only [Rows.cell] at hx
        split at hx <;> try (cases hx; done)
        rename_i hj
        subst hj
        rw [Option.map_eq_some_iff] at hx
        obtain ⟨m, hm, rfl⟩ := hx
        obtain ⟨cb, off, e1, _, e2⟩ := h3 q m hm
        have e0 : xs.getD (q * 1 + 0) 0 = m := by simp [List.getD, hm]
        rw [e0]
        exact ⟨⟨cb, off, e1, by rw [← e2]; congr 2; omega⟩, .int ..⟩)
      (fun ha => by have := h4 ha; show xs.length = 0; omega)⟩
  · rename_i s' rows
    split at hr <;> try (exact absurd hr.symm hne)
    rename_i hs1
    have hs1 := Nat.eq_of_beq_eq_true hs1
    subst hs1 hr
    obtain ⟨a, cap, vs, rfl, h2, h3, h4, h5⟩ := rel_ro hy
    exact ⟨_, Src.of_cells (E := E) (r := .rows rows) (a := a) (cap := cap) hs (fun q => vs (q / s') (q % s'))
      (fun q hq j hj => by
        have hq : q < rows.length := hq
        have := (h3 q _ (List.getElem?_eq_getElem hq)).1
        simp only [Rows.cell, List.getElem?_eq_getElem hq, Option.bind_some]
        rw [List.getElem?_eq_getElem (by omega)]; rfl)
      (fun q j x hx => by
        simp only [Rows.cell, Option.bind_eq_some_iff] at hx
        obtain ⟨l, e1, e2⟩ := hx
        have := (h3 q l e1).1
        exact ⟨(List.getElem?_eq_some_iff.1 e1).1, by have := (List.getElem?_eq_some_iff.1 e2).1; omega⟩)
      (fun q j x hx => by
        simp only [Rows.cell, Option.bind_eq_some_iff] at hx
        obtain ⟨l, e1, e2⟩ := hx
        obtain ⟨g1, cb, off, g2, _, g3⟩ := h3 q l e1
        have hj : j < s' := by have := (List.getElem?_eq_some_iff.1 e2).1; omega
        have d1 : (q * s' + j) / s' = q := by rw [Nat.mul_comm, Nat.mul_add_div (by omega)]; rw [Nat.div_eq_of_lt hj]; omega
        have d2 : (q * s' + j) % s' = j := by rw [Nat.mul_comm, Nat.mul_add_mod]; exact Nat.mod_eq_of_lt hj
        simp only [d1, d2]
        exact ⟨⟨cb, off, g2, g3 j x e2⟩, h4 q j l x e1 e2⟩)
      (fun ha => by have := h5 ha; show rows.length = 0; omega)⟩
  · exact absurd rfl (hns _ _ _ _)

theorem src_sound (H : HRel E h) {s : Nat} (hs : s ≠ 0) {y : AV} {vy : Value} (hy : E.R y vy) {r : Rows} (hr : srcV h s y = r) (hne : r ≠ .none) : ∃ ys, Src E s r vy ys := by
  by_cases hsl : ∃ b i n c, y = .slc b i n c
  · obtain ⟨b, i, n, c, rfl⟩ := hsl
    refine src_sound0 H hs (by simp) (sl_of_slc hy) (y := .sl b i n) ?_ hne
    simp only [srcV] at hr ⊢
    split at hr
    · rename_i hb; rw [hb]; exact hr
    · exact absurd hr.symm hne
  · exact src_sound0 H hs (fun b i n c he => hsl ⟨b, i, n, c, he⟩) hy hr hne

theorem new_slice_cap (H : HRel E h) (c : Array Value) (e : TypeId) (s n cap : Nat) (hsz : cap * s ≤ c.size) (hn : n ≤ cap) :
    (E.push (.cells c e) (s, n)).R (.sl h.length 0 n) (.slice (some ⟨E.w.heap.size, 0, none⟩) n cap) := by
  have hsl : E.S.sh.length = h.length := by rw [← H.rlen, H.len]
  refine .sl _ _ _ _ E.w.heap.size 0 _ _ ?_ (fun s' N hN => ?_) hn
  · show (E.S.ρ ++ [(E.w.heap.size, 0)])[h.length]? = _
    rw [← H.len]; simp
  · have hN' : (E.S.sh ++ [some (s, n)])[h.length]? = some (some (s', N)) := hN
    rw [← hsl] at hN'
    simp at hN'
    obtain ⟨rfl, rfl⟩ := hN'
    refine ⟨by omega, by omega, by omega, c, e, (0, 0), ?_, by simpa using hsz⟩
    show (E.w.heap.push _)[E.w.heap.size]? = _
    simp

theorem rel_drew {w : World} {F S x v} (h : Rel w F S x v) : Rel w.drew F S x v :=
  Rel.mono (w := w) (F := F) (w' := w.drew) (F' := F) (fun _ h => h) (fun _ _ _ => rfl) h S (fun _ _ h => h) (fun _ _ _ _ h => h) fun _b c e f h => ⟨c, e, f, h, rfl, rfl⟩

structure AppT (P : Program) (t e : TypeId) (s bytes : Nat) (z : List AV) : Prop where
  ht : P.underlying t = some (.slice e)
  hs : sizeB P e = some s
  hz : zeroB P e = some z
  hzl : z.length = s
  hs0 : s ≠ 0
  hby : bytesB P e = some bytes

theorem big46 {bytes n : Nat} (h : (bytes + 1) * n ≤ 2 ^ 46) : n ≤ 2 ^ 46 ∧ n * bytes ≤ 2 ^ 46 := by
  have : (bytes + 1) * n = n * bytes + n := by rw [Nat.add_mul, Nat.one_mul, Nat.mul_comm]
  omega

theorem op_append_nil (H : HRel E h) {t e ty : TypeId} {s bytes : Nat} {z : List AV} (T : AppT P t e s bytes z) {vy : Value} {r : Rows} {ys : List Value} (S : Src E s r vy ys) (hpos : r.len ≠ 0)
    (hb : (bytes + 1) * r.len ≤ 2 ^ 46) {vx : Value} (hvx : ∃ a', vx = .slice a' 0 0) {b : ABlk} (hsh : b.shape = (s, r.len)) (hfit : b.fits) (hin : ∀ S', b.inner S' = .nil) (hcell : ∀ i j x, b.cell i j = some x → r.cell i j = some x)
    (hbm : b.isM = false := by first | rfl | assumption) :
    Runs P (do pure (.value (← Builtin.append_ #[t, t] ty #[vx, vy]))) E h (.sl h.length 0 r.len) (.push b) := by
  obtain ⟨i, v, hi, hv, hbes, _⟩ := zeroB_info T.hz
  obtain ⟨⟨a, cap, rfl, hat, hnone⟩, hlen, hc, _⟩ := S
  obtain ⟨b1, b2⟩ := big46 hb
  cases a with
  | none => exact absurd (hnone rfl) hpos
  | some ad =>
    have hbi : i.bytes = bytes := by simpa [bytesB, hi] using T.hby
    have hsi : i.size = s := by simpa [sizeB, hi] using T.hs
    have hz : v.cells.size = s := by have := (hbes E).1; simp at this; have := T.hzl; omega
    have hrun : (Builtin.append_ #[t, t] ty #[vx, .slice (some ad) r.len cap]).run P E.w = .ok (.slice (some ⟨E.w.heap.size, 0, none⟩) r.len (grownCap E.w r.len 0 e))
        (E.w.drew.alloc (.cells (ys.toArray ++ Builtin.zeroCells v.cells (grownCap E.w r.len 0 e - r.len)) e)) := by
      obtain ⟨a', rfl⟩ := hvx
      cases a' with
      | none => exact run_append_nil (P := P) E.w t ty e i v T.ht hi hv ad r.len cap ys (by rw [hsi]; exact hlen) (hat ad rfl) (by omega) (by omega) (by rw [hbi]; omega)
      | some a' =>
        have := run_append_grow (P := P) E.w t ty e i v T.ht hi hv a' 0 0 [] (by simp) (by simp) ad r.len cap ys (by rw [hsi]; exact hlen) (hat ad rfl) (by omega) (by omega)
          (by rw [hbi]; exact growslice_fits (by omega) (by rw [Nat.zero_add]; omega))
        simpa using this
    have hge := grownCap_ge E.w r.len 0 e
    generalize grownCap E.w r.len 0 e = gc at hrun hge
    generalize hcc : (ys.toArray ++ Builtin.zeroCells v.cells (gc - r.len)) = c at hrun
    have hcsz : c.size = gc * s := by
      rw [← hcc]; simp only [Array.size_append, List.size_toArray, size_zeroCells, hz, hlen, ← Nat.add_mul]; congr 1; omega
    have hle : r.len * s ≤ gc * s := Nat.mul_le_mul_right _ hge
    have Hd := H.drew
    have Hp := Hd.push b c e hfit (by rw [hsh, hcsz]; exact hle) (fun i j x hx => by
      obtain ⟨hj, u, hu, hR⟩ := hc i j x (hcell i j x hx)
      have hlt := (List.getElem?_eq_some_iff.1 hu).1
      rw [hin, hsh]
      refine ⟨u, ?_, rel_drew hR⟩
      rw [← hcc, Array.getElem?_append_left (by simpa using hlt)]
      simpa using hu)
    rw [hsh] at Hp
    refine ⟨_, .slice (some ⟨E.w.heap.size, 0, none⟩) r.len gc, .inl ?_, H.ext_drew.trans (Hd.ext_push _ _), Hp, new_slice_cap Hd c e s r.len gc (by rw [hcsz]; exact Nat.le_refl _) hge⟩
    simp only [Sem.run_bind, hrun, Result.andThen_ok, Sem.run_pure]
    rfl

theorem run_append_in {t e ty : TypeId} {s : Nat} (ht : P.underlying t = some (.slice e)) (hs : sizeB P e = some s) {w w' : World} {ad : Addr} {sLen sCap m c : Nat} {a : Option Addr} {ys : List Value}
    (hlen : ys.length = m * s) (hat : ∀ ad, a = some ad → At w ad ys) (hnone : a = none → m = 0) (hroom : sLen + m ≤ sCap) (hst : (storeCells (ad.add (sLen * s)) ys 0).run P w = .ok () w') :
    (Builtin.append_ #[t, t] ty #[.slice (some ad) sLen sCap, .slice a m c]).run P w = .ok (.slice (some ad) (sLen + m) sCap) w' := by
  have hf : (Builtin.firstCells s m (.slice a m c)).run P w = .ok ys.toArray w := by
    cases a with
    | none =>
      have := hnone rfl
      subst this
      have : ys = [] := List.eq_nil_of_length_eq_zero (by omega)
      subst this
      simp [Builtin.firstCells]
    | some b => exact run_firstCells_some w s m b m c ys hlen (hat b rfl)
  simp only [Builtin.append_]
  simp [run_underlying ht, run_sizeOf' hs, Builtin.lenOf, hroom, hf, hst]

theorem op_append_sl (H : HRel E h) {t e ty : TypeId} {s bytes : Nat} {z : List AV} (T : AppT P t e s bytes z) {k i n : Nat} {vx : Value} (hx : E.R (.sl k i n) vx) {b b' : ABlk} (hk : h[k]? = some (some b))
    (hbs : b.shape.1 = s) {vy : Value} {r : Rows} {ys : List Value} (S : Src E s r vy ys) (hb : (bytes + 1) * (n + r.len) ≤ 2 ^ 46) (G : Grows E b b' i n r.len ys) :
    Runs P (do pure (.value (← Builtin.append_ #[t, t] ty #[vx, vy]))) E h (.sl h.length 0 (n + r.len)) (.move k b') := by
  obtain ⟨ti, v, hi, hv, hbes, _⟩ := zeroB_info T.hz
  obtain ⟨⟨a, capy, rfl, hat, hnone⟩, hlen, hc, _⟩ := S
  obtain ⟨b1, b2⟩ := big46 hb
  have hbi : ti.bytes = bytes := by simpa [bytesB, hi] using T.hby
  have hsi : ti.size = s := by simpa [sizeB, hi] using T.hs
  have hz : v.cells.size = s := by have := (hbes E).1; simp at this; have := T.hzl; omega
  obtain ⟨cb, base, off, cap, rfl, h1, h3, h2⟩ := rel_sl hx
  obtain ⟨g1, g2, g3, c, ee, f, g4, g5⟩ := h3 _ _ (H.live.2 ⟨b, hk, rfl⟩)
  by_cases hroom : n + r.len ≤ cap
  · obtain ⟨E', w1, w2, w3, w4⟩ := grow_in P H hk h1 G ⟨c, ee, f, g4, g5⟩ hroom g1
    rw [hbs] at w1
    refine ⟨E', _, .inl ?_, w2, w3, w4⟩
    have hrun := run_append_in (P := P) (ty := ty) T.ht T.hs (w := E.w) (w' := E'.w) (ad := ⟨cb, off, none⟩) (sLen := n) (sCap := cap) (c := capy) hlen hat hnone hroom (by rw [add_plain]; exact w1)
    simp only [Sem.run_bind, hrun, Result.andThen_ok, Sem.run_pure]
  · cases a with
    | none => have := hnone rfl; omega
    | some ad =>
      have hge := grownCap_ge E.w (n + r.len) cap e
      obtain ⟨os, o1, o2, E', o3, o4, o5, o6⟩ := grow_new P H hk h1 G (Builtin.zeroCells v.cells (grownCap E.w (n + r.len) cap e - (n + r.len))).toList e (cap := grownCap E.w (n + r.len) cap e)
        (by simp only [Array.length_toList, size_zeroCells, hz, hbs, ← Nat.add_mul]; congr 1; omega) hge
      have o2' : At E.w ⟨cb, off, none⟩ os := by
        rcases g1 with g1 | g1
        · have : n = 0 := by omega
          subst this
          have : os = [] := List.eq_nil_of_length_eq_zero (by omega)
          subst this
          intro j v hv; simp at hv
        · rw [g1]; exact o2
      have hrun := run_append_grow (P := P) E.w t ty e ti v T.ht hi hv ⟨cb, off, none⟩ n cap os (by rw [hsi, ← hbs]; exact o1) o2' ad r.len capy ys (by rw [hsi]; exact hlen) (hat ad rfl) (by omega) (by omega)
        (by rw [hbi]; exact growslice_fits (by omega) (by omega))
      refine ⟨E', _, .inl ?_, o4, o5, o6⟩
      simp only [Sem.run_bind, hrun, Result.andThen_ok, Sem.run_pure, o3]
      congr 4
      simp

end Go.AL

/-! Every operation that calls nothing. Seat-independent. -/

namespace Go.AL
variable {E : Env} {h : AHeap} {P : Program}

theorem bnd_sound {tm : List (Nat × AV)} {a : Act} (T : TRel E tm a) {lo : Option Operand} {lo' : Option Opd} (hc : cOO lo = some lo') {d l : Int}
    (hb : bnd tm lo' d = some l) : lo.map a.eval = none ∧ l = d ∨ ∃ k, lo.map a.eval = some (.int k l) := by
  cases lo with
  | none =>
    simp only [cOO, Option.some.injEq] at hc
    subst hc
    simp only [bnd, Option.some.injEq] at hb
    exact .inl ⟨rfl, hb.symm⟩
  | some o =>
    simp only [cOO, Option.map_eq_some_iff] at hc
    obtain ⟨y, hy, rfl⟩ := hc
    have hr := cOpd_rel T hy
    simp only [bnd] at hb
    split at hb <;> try (cases hb; done)
    rename_i k n he
    obtain rfl := Option.some.inj hb
    rw [he] at hr
    exact .inr ⟨k, by simp only [Option.map_some]; rw [rel_int hr]⟩

theorem rel_fnptr {x : AV} (hk : (match x with | .bp .. | .ep .. | .rp .. | .fn .. => true | _ => false) = true) : x ≠ .undef := by rintro rfl; cases hk

theorem ia_cell_app {k : IntKind} {xs ys : List Int} {i n : Nat} (hin : i + n = xs.length) {i' j' : Nat} {x : AV} (hx : (ABlk.ia k (xs.drop i ++ ys)).cell i' j' = some x) :
    j' < 1 ∧ ((i' < n ∧ (ABlk.ia k xs).cell (i + i') j' = some x) ∨ (n ≤ i' ∧ i' < n + ys.length ∧ (Rows.ints k ys).cell (i' - n) j' = some x)) := by
  simp only [ABlk.cell] at hx ⊢
  split at hx <;> try (cases hx; done)
  rename_i hj
  subst hj
  refine ⟨by omega, ?_⟩
  rw [Option.map_eq_some_iff] at hx
  obtain ⟨m, hm, rfl⟩ := hx
  have hl : (xs.drop i).length = n := by simp; omega
  rw [List.getElem?_append] at hm
  split at hm
  · left
    rw [List.getElem?_drop] at hm
    exact ⟨by omega, by simp [hm]⟩
  · right
    rw [hl] at hm
    have := (List.getElem?_eq_some_iff.1 hm).1
    exact ⟨by omega, by omega, by simp [Rows.cell, hm]⟩

theorem arr_cell_app {s : Nat} {xs ys : List (List AV)} {i n : Nat} (hin : i + n = xs.length) (hrow : ∀ (q : Nat) r, xs[q]? = some r → r.length = s) (hrow' : ∀ (q : Nat) r, ys[q]? = some r → r.length = s)
    {i' j' : Nat} {x : AV} (hx : (ABlk.arr s (xs.drop i ++ ys)).cell i' j' = some x) :
    j' < s ∧ ((i' < n ∧ (ABlk.arr s xs).cell (i + i') j' = some x) ∨ (n ≤ i' ∧ i' < n + ys.length ∧ (Rows.rows ys).cell (i' - n) j' = some x)) := by
  simp only [ABlk.cell, Option.bind_eq_some_iff] at hx ⊢
  obtain ⟨r, hr, hx⟩ := hx
  have hl : (xs.drop i).length = n := by simp; omega
  have hj := (List.getElem?_eq_some_iff.1 hx).1
  rw [List.getElem?_append] at hr
  split at hr
  · rw [List.getElem?_drop] at hr
    have := hrow _ r hr
    exact ⟨by omega, .inl ⟨by omega, r, hr, hx⟩⟩
  · rw [hl] at hr
    have := hrow' _ r hr
    have h2 := (List.getElem?_eq_some_iff.1 hr).1
    exact ⟨by omega, .inr ⟨by omega, by omega, by simp [Rows.cell, hr, hx]⟩⟩

theorem Src.rows_len {s : Nat} (_hs : s ≠ 0) {l : List (List AV)} {vy : Value} {ys : List Value} (S : Src E s (.rows l) vy ys) {q : Nat} {r : List AV} (hr : l[q]? = some r) : r.length ≤ s := by
  rcases Nat.lt_or_ge s r.length with h | h
  · have hx : (Rows.rows l).cell q s = some r[s] := by simp [Rows.cell, hr, h]
    have := (S.cell q s _ hx).1
    omega
  · exact h

theorem src_rows {s : Nat} {y : AV} {vy : Value} (H : HRel E h) (hy : E.R y vy) {l : List (List AV)} (hr : srcV h s y = .rows l) : ∀ (q : Nat) r, l[q]? = some r → r.length = s := by
  intro q r hq
  cases y <;> simp only [srcV] at hr <;> try (cases hr; done)
  · obtain rfl := Rows.rows.inj hr
    simp at hq
  · rename_i b i n
    rw [nth_eq] at hr
    split at hr
    · split at hr <;> cases hr
    · rename_i s' rows hb
      split at hr <;> try (cases hr; done)
      rename_i hs1
      have hs1 := Nat.eq_of_beq_eq_true hs1
      subst hs1
      obtain rfl := Rows.rows.inj hr
      rw [List.getElem?_take] at hq
      split at hq <;> try (cases hq; done)
      rw [List.getElem?_drop] at hq
      exact (H.blk _ _ hb).1 _ r hq
    · split at hr <;> try (cases hr; done)
      obtain rfl := Rows.rows.inj hr
      simp at hq
    · cases hr
  · split at hr <;> cases hr
  · rename_i s' rows
    split at hr <;> try (cases hr; done)
    rename_i hs1
    have hs1 := Nat.eq_of_beq_eq_true hs1
    subst hs1
    obtain rfl := Rows.rows.inj hr
    obtain ⟨a, cap, vs, rfl, h2, h3, h4, h5⟩ := rel_ro hy
    exact (h3 q r hq).1
  · rw [nth_eq] at hr
    split at hr <;> try (cases hr; done)
    rename_i s' rows hb
    split at hr <;> try (cases hr; done)
    rename_i hs1
    have hs1 := Nat.eq_of_beq_eq_true hs1
    subst hs1
    obtain rfl := Rows.rows.inj hr
    rw [List.getElem?_take] at hq
    split at hq <;> try (cases hq; done)
    rw [List.getElem?_drop] at hq
    exact (H.blk _ _ hb).1 _ r hq

theorem src_one {s : Nat} {r : Rows} {vy : Value} {ys : List Value} (S : Src E s r vy ys) (hl : ∀ i j x, r.cell i j = some x → leaf x = true) : ∀ v ∈ ys, v.oneCell' = true := by
  intro v hv
  obtain ⟨q, hq, rfl⟩ := List.getElem_of_mem hv
  obtain ⟨i, j, x, _, rfl, hx⟩ := S.cov q hq
  obtain ⟨_, u, hu, hR⟩ := S.cell i j x hx
  rw [List.getElem?_eq_getElem hq] at hu
  obtain rfl := Option.some.inj hu
  exact leaf_one (hl i j x hx) hR

theorem ints_leaf {k : IntKind} {xs : List Int} : ∀ i j x, (Rows.ints k xs).cell i j = some x → leaf x = true := by
  intro i j x hx
  simp only [Rows.cell] at hx
  split at hx <;> try (cases hx; done)
  rw [Option.map_eq_some_iff] at hx
  obtain ⟨m, _, rfl⟩ := hx
  rfl

theorem rows_leaf {l : List (List AV)} (h : l.all (fun r => r.all closed) = true) : ∀ i j x, (Rows.rows l).cell i j = some x → leaf x = true := by
  intro i j x hx
  simp only [Rows.cell, Option.bind_eq_some_iff] at hx
  obtain ⟨r, hr, hx⟩ := hx
  rw [List.all_eq_true] at h
  have h1 := h r (List.mem_of_getElem? hr)
  rw [List.all_eq_true] at h1
  exact closed_leaf (h1 x (List.mem_of_getElem? hx))

/-- The source is empty. -/
def emptyV : AV → Bool
  | .snil | .semp => true
  | _ => false

theorem src_empty {y : AV} {vy : Value} (hy : E.R y vy) (he : emptyV y = true) : ∃ a, vy = .slice a 0 0 := by
  cases hy <;> simp [emptyV] at he
  · exact ⟨none, rfl⟩
  · exact ⟨some _, rfl⟩

theorem src_cases {h : AHeap} {s : Nat} {y : AV} (he : emptyV y = true) : srcV h s y = .none := by
  cases y <;> simp [emptyV] at he <;> rfl

theorem op_append_0 (H : HRel E h) {t e ty : TypeId} {s bytes : Nat} {z : List AV} (T : AppT P t e s bytes z) {xe ye : AV} {vx vy : Value} (hx : E.R xe vx) (hvx : ∃ a, vx = .slice a 0 0) (hy : E.R ye vy)
    {v : AV} {f : Eff} (ha : (match srcV h s ye with
        | .ints k ys => match ys with
          | [] => some (true, xe, Eff.keep)
          | y :: ys => some (decide ((bytes + 1) * (ys.length + 1) ≤ 2 ^ 46), .sl h.length 0 (ys.length + 1), .push (.ia k (y :: ys)))
        | .rows ys => match ys with
          | [] => some (true, xe, .keep)
          | y :: ys => some (decide ((bytes + 1) * (ys.length + 1) ≤ 2 ^ 46) && (y :: ys).all (fun r => r.all closed), .sl h.length 0 (ys.length + 1), .push (.arr s (y :: ys)))
        | .none => none) = some (true, v, f)) :
    Runs P (do pure (.value (← Builtin.append_ #[t, t] ty #[vx, vy]))) E h v f := by
  have empty : ∀ r, srcV h s ye = r → r ≠ .none → r.len = 0 → Runs P (do pure (.value (← Builtin.append_ #[t, t] ty #[vx, vy]))) E h xe .keep := by
    intro r hr hne h0
    obtain ⟨ys, S⟩ := src_sound H T.hs0 hy hr hne
    obtain ⟨⟨a, cap, rfl, hat, hnone⟩, hlen, _⟩ := S
    have hys : ys = [] := List.eq_nil_of_length_eq_zero (by rw [hlen, h0]; simp)
    subst hys
    rw [h0]
    refine .keep H (u := vx) ?_ hx
    obtain ⟨a', rfl⟩ := hvx
    cases a <;> cases a' <;> simp [Builtin.append_, run_underlying T.ht, run_sizeOf' T.hs, Builtin.lenOf, Builtin.firstCells, loadCells, loadCellsFrom, storeCells]
  generalize hsrc : srcV h s ye = r at *
  cases r with
  | none => cases ha
  | ints k ys =>
    cases ys with
    | nil =>
      simp only [Option.some.injEq, Prod.mk.injEq, true_and] at ha
      obtain ⟨rfl, rfl⟩ := ha
      exact empty _ rfl (by simp) rfl
    | cons y0 ys =>
      simp only [Option.some.injEq, Prod.mk.injEq, decide_eq_true_eq] at ha
      obtain ⟨hb, rfl, rfl⟩ := ha
      obtain ⟨vs, S⟩ := src_sound H T.hs0 hy hsrc (by simp)
      refine op_append_nil H T S (by simp [Rows.len]) (by simpa [Rows.len] using hb) hvx (b := .ia k (y0 :: ys)) ?_ trivial (fun _ => rfl) (fun i j x hx => by simpa [ABlk.cell, Rows.cell] using hx)
      have hs1 : s = 1 := by
        have := (S.cell 0 0 (.int k y0) (by simp [Rows.cell])).1
        rcases Nat.lt_or_ge 1 s with h1 | h1
        · exfalso
          have hq : (1 : Nat) < vs.length := by rw [S.len]; simp only [Rows.len, List.length_cons]; have : 1 * s ≤ (ys.length + 1) * s := Nat.mul_le_mul_right _ (by omega); omega
          obtain ⟨i, j, x, _, e1, e2⟩ := S.cov 1 hq
          simp only [Rows.cell] at e2
          split at e2 <;> try (cases e2; done)
          rename_i hj
          subst hj
          have : i = 0 ∨ s ≤ i * s := by
            rcases Nat.eq_zero_or_pos i with h0 | h0
            · exact .inl h0
            · right; have := Nat.mul_le_mul_right s h0; omega
          rcases this with h0 | h0
          · subst h0; omega
          · omega
        · omega
      subst hs1
      simp [ABlk.shape, Rows.len]
  | rows ys =>
    cases ys with
    | nil =>
      simp only [Option.some.injEq, Prod.mk.injEq, true_and] at ha
      obtain ⟨rfl, rfl⟩ := ha
      exact empty _ rfl (by simp) rfl
    | cons y0 ys =>
      simp only [Option.some.injEq, Prod.mk.injEq, Bool.and_eq_true, decide_eq_true_eq] at ha
      obtain ⟨⟨hb, hall⟩, rfl, rfl⟩ := ha
      obtain ⟨vs, S⟩ := src_sound H T.hs0 hy hsrc (by simp)
      exact op_append_nil H T S (by simp [Rows.len]) (by simpa [Rows.len] using hb) hvx (b := .arr s (y0 :: ys)) (by simp [ABlk.shape, Rows.len]) (src_rows H hy hsrc) (fun _ => rfl) (fun i j x hx => by simpa [ABlk.cell, Rows.cell] using hx)

theorem op_append (H : HRel E h) {t e ty : TypeId} {s bytes : Nat} {z : List AV} (T : AppT P t e s bytes z) {tm : List (Nat × AV)} {x y : Opd} {vx vy : Value} (hx : E.R (ev tm x) vx) (hy : E.R (ev tm y) vy)
    (hns : ∀ b i n c, ev tm x ≠ .slc b i n c)
    {v : AV} {f : Eff} (ha : aop tm h h.length (.append bytes s x y) = some (true, v, f)) :
    Runs P (do pure (.value (← Builtin.append_ #[t, t] ty #[vx, vy]))) E h v f := by
  simp only [aop] at ha
  generalize hxe : ev tm x = xe at *
  generalize hye : ev tm y = ye at *
  have e0 : ∀ {xe : AV} {vx : Value} {a' : Option Addr}, vx = .slice a' 0 0 → E.R xe vx → emptyV ye = true → some (true, xe, Eff.keep) = some (true, v, f) →
      Runs P (do pure (.value (← Builtin.append_ #[t, t] ty #[vx, vy]))) E h v f := by
    intro xe vx a' hvx hx hye ha
    simp only [Option.some.injEq, Prod.mk.injEq, true_and] at ha
    obtain ⟨rfl, rfl⟩ := ha
    obtain ⟨a, rfl⟩ := src_empty hy hye
    subst hvx
    refine .keep H (u := .slice a' 0 0) ?_ hx
    cases a <;> cases a' <;> simp [Builtin.append_, run_underlying T.ht, run_sizeOf' T.hs, Builtin.lenOf, Builtin.firstCells, loadCells, loadCellsFrom, storeCells]
  cases xe <;> simp only [] at ha <;> try (cases ha; done)
  · have hvx : vx = .slice none 0 0 := by cases hx; rfl
    cases ye <;> first | exact e0 hvx hx rfl ha | exact op_append_0 H T hx ⟨_, hvx⟩ hy ha
  · have hvx : ∃ a, vx = .slice a 0 0 := by cases hx; exact ⟨_, rfl⟩
    obtain ⟨a, hvx⟩ := hvx
    cases ye <;> first | exact e0 hvx hx rfl ha | exact op_append_0 H T hx ⟨_, hvx⟩ hy ha
  · rename_i b i n
    by_cases hys : emptyV ye = true
    · have ha : some (true, AV.sl b i n, Eff.keep) = some (true, v, f) := by
        cases ye <;> first | exact ha | simp [emptyV] at hys
      simp only [Option.some.injEq, Prod.mk.injEq, true_and] at ha
      obtain ⟨rfl, rfl⟩ := ha
      obtain ⟨ay, rfl⟩ := src_empty hy hys
      have hx' := hx
      obtain ⟨cb, base, off, cap, rfl, h1, h3, h2⟩ := rel_sl hx
      refine .keep H (u := .slice (some ⟨cb, off, none⟩) n cap) ?_ hx'
      cases ay <;> simp [Builtin.append_, run_underlying T.ht, run_sizeOf' T.hs, Builtin.lenOf, Builtin.firstCells, h2, storeCells, loadCells, loadCellsFrom]
    · have ha' : (match nth h b, srcV h s ye with
        | some (some (.ia k' xs)), .ints k ys => match sameKind k' k with
          | true => some (decide (i + n = xs.length ∧ (bytes + 1) * (n + ys.length) ≤ 2 ^ 46), AV.sl h.length 0 (n + ys.length), Eff.move b (.ia k' (xs.drop i ++ ys)))
          | false => none
        | some (some (.arr s' rows)), .rows ys => match Nat.beq s' s with
          | true => some (decide (i + n = rows.length ∧ (bytes + 1) * (n + ys.length) ≤ 2 ^ 46) && ys.all (fun r => r.all closed), .sl h.length 0 (n + ys.length), .move b (.arr s' (rows.drop i ++ ys)))
          | false => none
        | _, _ => none) = some (true, v, f) := by
        cases ye <;> first | exact absurd rfl hys | exact ha
      clear ha
      rw [nth_eq] at ha'
      generalize hsrc : srcV h s ye = r at *
      split at ha' <;> try (cases ha'; done)
      · rename_i k' xs k ys hk
        split at ha' <;> try (cases ha'; done)
        rename_i hkk
        obtain rfl := sameKind_eq hkk
        simp only [Option.some.injEq, Prod.mk.injEq, decide_eq_true_eq] at ha'
        obtain ⟨⟨hin, hb⟩, rfl, rfl⟩ := ha'
        obtain ⟨vs, S⟩ := src_sound H T.hs0 hy hsrc (by simp)
        have hs1 : s = 1 := by
          cases ye <;> simp only [srcV] at hsrc <;> try (cases hsrc; done)
          · rw [nth_eq] at hsrc
            split at hsrc
            · split at hsrc <;> try (cases hsrc; done)
              exact Nat.eq_of_beq_eq_true ‹_›
            · split at hsrc <;> cases hsrc
            · split at hsrc <;> cases hsrc
            · cases hsrc
          · split at hsrc <;> try (cases hsrc; done)
            exact Nat.eq_of_beq_eq_true ‹_›
          · split at hsrc <;> cases hsrc
          · (repeat' (split at hsrc)) <;> cases hsrc
        subst hs1
        have hxl : (xs.drop i).length = n := by simp; omega
        refine op_append_sl H T hx hk rfl S hb ⟨by simp [ABlk.shape, Rows.len, hxl], trivial, rfl, fun _ => rfl, S.len, src_one S ints_leaf, Nat.le_of_eq (by simpa [ABlk.shape] using hin), fun i' j' x hc => ?_, rfl, rfl⟩
        obtain ⟨c1, c2⟩ := ia_cell_app hin hc
        refine ⟨by simpa [ABlk.shape] using c1, c2.imp id fun ⟨d1, d2, d3⟩ => ⟨d1, d2, ?_⟩⟩
        exact (S.cell _ _ x d3).2
      · rename_i s' rows ys hk
        split at ha' <;> try (cases ha'; done)
        rename_i hss
        have hss := Nat.eq_of_beq_eq_true hss
        subst hss
        simp only [Option.some.injEq, Prod.mk.injEq, Bool.and_eq_true, decide_eq_true_eq] at ha'
        obtain ⟨⟨⟨hin, hb⟩, hall⟩, rfl, rfl⟩ := ha'
        obtain ⟨vs, S⟩ := src_sound H T.hs0 hy hsrc (by simp)
        have hfit := (H.blk _ _ hk).1
        have hrl := src_rows H hy hsrc
        have hxl : (rows.drop i).length = n := by simp; omega
        refine op_append_sl H T hx hk rfl S hb ⟨by simp [ABlk.shape, Rows.len, hxl], fun q r hq => ?_, rfl, fun _ => rfl, S.len, src_one S (rows_leaf hall), Nat.le_of_eq (by simpa [ABlk.shape] using hin), fun i' j' x hc => ?_, rfl, rfl⟩
        · rw [List.getElem?_append] at hq
          split at hq
          · rw [List.getElem?_drop] at hq; exact hfit _ r hq
          · exact hrl _ r hq
        · obtain ⟨c1, c2⟩ := arr_cell_app hin hfit hrl hc
          exact ⟨c1, c2.imp id fun ⟨d1, d2, d3⟩ => ⟨d1, d2, (S.cell _ _ x d3).2⟩⟩
  · exact absurd rfl (hns _ _ _ _)

end Go.AL

/-! Appends of noughts (append(x, make([]T, n)...)) and of strings (append(b, s...)), bytes as a string: what the machine does, and that it is what the abstract operations say. Seat-independent. -/

namespace Go.AL
variable {E : Env} {h : AHeap} {P : Program}

/-- What an append comes to, whatever is appended. -/
structure AppRuns (P : Program) (t u e : TypeId) (s bytes m : Nat) (z : Array Value) (vy : Value) (ys : List Value) (w : World) : Prop where
  len : ys.length = m * s
  same : ∀ ty a sCap, (a = none → sCap = 0) → ∀ sLen, m = 0 → sLen ≤ sCap → (Builtin.append_ #[t, u] ty #[.slice a sLen sCap, vy]).run P w = .ok (.slice a sLen sCap) w
  inn : ∀ ty w' ad sLen sCap, sLen + m ≤ sCap → m ≠ 0 → (storeCells (ad.add (sLen * s)) ys 0).run P w = .ok () w' →
    (Builtin.append_ #[t, u] ty #[.slice (some ad) sLen sCap, vy]).run P w = .ok (.slice (some ad) (sLen + m) sCap) w'
  new : ∀ ty (a : Option Addr) sLen sCap olds, olds.length = sLen * s → (∀ ad, a = some ad → At w ad olds) → (a = none → sLen = 0) → sCap < sLen + m → m ≠ 0 → sLen + m ≤ 2 ^ 46 → (sLen + m) * bytes ≤ 2 ^ 46 →
    (Builtin.append_ #[t, u] ty #[.slice a sLen sCap, vy]).run P w = .ok (.slice (some ⟨w.heap.size, 0, none⟩) (sLen + m) (grownCap w (sLen + m) sCap e))
      (w.drew.alloc (.cells ((olds ++ ys).toArray ++ Builtin.zeroCells z (grownCap w (sLen + m) sCap e - (sLen + m))) e))

theorem zeroCells_len {z : Array Value} {m : Nat} : (Builtin.zeroCells z m).toList.length = m * z.size := by simp [Builtin.zeroCells]

theorem runs_noughts {t u e : TypeId} {s bytes : Nat} (ht : P.underlying t = some (.slice e)) {ik : IntKind} (hu : P.underlying u = some (.int ik)) {ti : TypeInfo} {z : Value} (hi : P.info? e = some ti) (hz : ti.zero = some z) (hs : ti.size = s) (hzs : z.cells.size = s) (hs0 : s ≠ 0) (hb : ti.bytes = bytes)
    {m : Nat} (k : IntKind) (hm : m ≤ 2 ^ 46) (hm2 : m * bytes ≤ 2 ^ 46) (w : World) : AppRuns P t u e s bytes m z.cells (.int k m) (Builtin.zeroCells z.cells m).toList w := by
  have e1 : IntKind.wrap .i64 (m : Int) = m := by rw [IntKind.wrap_i64]; omega
  have e2 : ¬ (281474976710656 : Int) < (m : Int) * (ti.bytes : Int) := by
    have : ((m * ti.bytes : Nat) : Int) ≤ 2 ^ 46 := by rw [hb]; omega
    rw [Int.natCast_mul] at this; omega
  have e3 : ¬ (m : Int) < 0 := by omega
  have h0 : ∀ w' : World, (Builtin.firstCells s 0 (.slice none 0 0)).run P w' = .ok #[] w' := fun _ => by simp [Builtin.firstCells]
  refine ⟨by rw [zeroCells_len, hzs], fun ty a sCap ha sLen h0 hl => ?_, fun ty w' ad sLen sCap hroom hpos hst => ?_, fun ty a sLen sCap olds hlo holds hnone hg hpos h63 hfit => ?_⟩
  · subst h0
    have w0 : IntKind.wrap .i64 0 = 0 := rfl
    cases a with
    | none =>
      obtain rfl := ha rfl
      have : sLen = 0 := by omega
      subst this
      simp [Builtin.append_, run_underlying ht, run_underlying hu, sizeOf, typeInfo, hi, asInt, asIntOf, w0]
    | some ad => simp [Builtin.append_, run_underlying ht, run_underlying hu, sizeOf, typeInfo, hi, asInt, asIntOf, w0, hl, storeCells]
  · have hpos' : m * s ≠ 0 := Nat.mul_ne_zero hpos hs0
    subst hs
    simp [Builtin.append_, run_underlying ht, run_underlying hu, sizeOf, typeInfo, zeroValue, hi, hz, asInt, asIntOf, e1, e2, e3, hroom, hst, hpos']
  · have hpos' : m * s ≠ 0 := Nat.mul_ne_zero hpos hs0
    subst hs
    have hn : ¬ (sLen + m ≤ sCap) := by omega
    have h63' : ¬ (9223372036854775807 < ((sLen : Int) + (m : Int))) := by omega
    have h48 := growslice_fits hg (show (sLen + m) * ti.bytes ≤ 140737488355328 by rw [hb]; omega)
    have h48' : ¬ (281474976710656 < Builtin.nextslicecap (sLen + m) sCap * ti.bytes) := by omega
    have hfo : (Builtin.firstCells ti.size sLen (.slice a sLen sCap)).run P w.drew = .ok olds.toArray w.drew := by
      cases a with
      | none =>
        have := hnone rfl
        subst this
        have : olds = [] := List.eq_nil_of_length_eq_zero (by omega)
        subst this
        simp [Builtin.firstCells]
      | some b => exact run_firstCells_some (P := P) w.drew ti.size sLen b sLen sCap olds hlo (by simpa [At] using holds b rfl)
    simp [Builtin.append_, run_underlying ht, run_underlying hu, sizeOf, typeInfo, zeroValue, hi, hz, asInt, asIntOf, e1, e2, e3, hn, h63', h48', Question.forced, hfo, newRow, grownCap, hpos']
    congr 2
    apply Array.ext'
    simp [List.append_assoc]

theorem runs_str {t u e : TypeId} {s bytes : Nat} (ht : P.underlying t = some (.slice e)) (hu : P.underlying u = some .string) {ti : TypeInfo} {z : Value} (hi : P.info? e = some ti) (hz : ti.zero = some z) (hs : ti.size = s) (hs1 : s = 1) (hb : ti.bytes = bytes)
    (b : ByteArray) (w : World) : AppRuns P t u e s bytes (numsOf b).length z.cells (.string b) ((numsOf b).map (.int .u8)) w := by
  have hsz : (numsOf b).length = b.size := by simp [numsOf]
  have hcells : ∀ w' : World, (Builtin.firstCells s b.size (.string b)).run P w' = .ok ((numsOf b).map (Value.int .u8)).toArray w' := fun w' => by
    have hx : (Array.map (fun b : UInt8 => Value.int IntKind.u8 (b.toNat : Int)) b.data).extract 0 b.size = Array.map (fun b : UInt8 => Value.int IntKind.u8 (b.toNat : Int)) b.data := by
      have hs : b.size = (Array.map (fun b : UInt8 => Value.int IntKind.u8 (b.toNat : Int)) b.data).size := by rw [Array.size_map]; rfl
      rw [hs, Array.extract_size]
    have hy : (Array.map (fun b : UInt8 => Value.int IntKind.u8 (b.toNat : Int)) b.data) = ((numsOf b).map (Value.int .u8)).toArray := by
      apply Array.ext'
      simp [numsOf]
    simp [Builtin.firstCells]
    exact hy
  refine ⟨by simp [hs1], fun ty a sCap ha sLen h0 hl => ?_, fun ty w' ad sLen sCap hroom hpos hst => ?_, fun ty a sLen sCap olds hlo holds hnone hg hpos h63 hfit => ?_⟩
  · rw [hsz] at h0
    have hc0 := hcells w
    have hn0 : numsOf b = [] := List.eq_nil_of_length_eq_zero (by omega)
    rw [h0, hn0] at hc0
    subst hs
    cases a with
    | none =>
      obtain rfl := ha rfl
      have : sLen = 0 := by omega
      subst this
      simp [Builtin.append_, run_underlying ht, run_underlying hu, sizeOf, typeInfo, hi, Builtin.lenOf, h0, hc0]
    | some ad => simp [Builtin.append_, run_underlying ht, run_underlying hu, sizeOf, typeInfo, hi, Builtin.lenOf, h0, hc0, hl, storeCells]
  · rw [hsz] at hroom ⊢
    have hc := hcells w
    subst hs
    simp [Builtin.append_, run_underlying ht, run_underlying hu, sizeOf, typeInfo, hi, Builtin.lenOf, hroom, hc, hst]
  · rw [hsz] at hg h63 hfit ⊢
    have hc := hcells w.drew
    subst hs
    have hn : ¬ (sLen + b.size ≤ sCap) := by omega
    have h63' : ¬ (9223372036854775807 < ((sLen : Int) + (b.size : Int))) := by omega
    have h48 := growslice_fits hg (show (sLen + b.size) * ti.bytes ≤ 140737488355328 by rw [hb]; omega)
    have h48' : ¬ (281474976710656 < Builtin.nextslicecap (sLen + b.size) sCap * ti.bytes) := by omega
    have hfo : (Builtin.firstCells ti.size sLen (.slice a sLen sCap)).run P w.drew = .ok olds.toArray w.drew := by
      cases a with
      | none =>
        have := hnone rfl
        subst this
        have : olds = [] := List.eq_nil_of_length_eq_zero (by omega)
        subst this
        simp [Builtin.firstCells]
      | some b => exact run_firstCells_some (P := P) w.drew ti.size sLen b sLen sCap olds hlo (by simpa [At] using holds b rfl)
    simp [Builtin.append_, run_underlying ht, run_underlying hu, sizeOf, typeInfo, zeroValue, hi, hz, Builtin.lenOf, hn, h63', h48', Question.forced, hfo, hc, newRow, grownCap]
    congr 2
    apply Array.ext'
    simp [List.append_assoc]

/-- To nothing. -/
theorem op_app_new (H : HRel E h) {t u e ty : TypeId} {s bytes m : Nat} {z : Value} (hzs : z.cells.size = s) {vy : Value} {ys : List Value} (A : AppRuns P t u e s bytes m z.cells vy ys E.w)
    (hm : m ≠ 0) (hb : (bytes + 1) * m ≤ 2 ^ 46) {a' : Option Addr} {b : ABlk} (hsh : b.shape = (s, m)) (hfit : b.fits) (hin : ∀ S', b.inner S' = .nil)
    (hcell : ∀ i j x, b.cell i j = some x → ∃ v, ys[i * s + j]? = some v ∧ Go.AL.Rel E.w E.F .nil x v)
    (hbm : b.isM = false := by first | rfl | assumption) :
    Runs P (do pure (.value (← Builtin.append_ #[t, u] ty #[.slice a' 0 0, vy]))) E h (.sl h.length 0 m) (.push b) := by
  obtain ⟨b1, b2⟩ := big46 hb
  have hrun := A.new ty a' 0 0 [] (by simp) (fun ad _ j v hv => by simp at hv) (fun _ => rfl) (by omega) hm (by omega) (by rw [Nat.zero_add]; exact b2)
  rw [Nat.zero_add, List.nil_append] at hrun
  have hlen := A.len
  have hge := grownCap_ge E.w m 0 e
  generalize grownCap E.w m 0 e = gc at hrun hge
  generalize hcc : (ys.toArray ++ Builtin.zeroCells z.cells (gc - m)) = c at hrun
  have hcsz : c.size = gc * s := by
    rw [← hcc]; simp only [Array.size_append, List.size_toArray, size_zeroCells, hzs, hlen, ← Nat.add_mul]; congr 1; omega
  have hle : m * s ≤ gc * s := Nat.mul_le_mul_right _ hge
  have Hd := H.drew
  have Hp := Hd.push b c e hfit (by rw [hsh, hcsz]; exact hle) (fun i j x hx => by
    obtain ⟨u, hu, hR⟩ := hcell i j x hx
    have hlt := (List.getElem?_eq_some_iff.1 hu).1
    rw [hin, hsh]
    refine ⟨u, ?_, rel_drew hR⟩
    rw [← hcc, Array.getElem?_append_left (by simpa using hlt)]
    simpa using hu)
  rw [hsh] at Hp
  refine ⟨_, .slice (some ⟨E.w.heap.size, 0, none⟩) m gc, .inl ?_, H.ext_drew.trans (Hd.ext_push _ _), Hp, new_slice_cap Hd c e s m gc (by rw [hcsz]; exact Nat.le_refl _) hge⟩
  simp only [Sem.run_bind, hrun, Result.andThen_ok, Sem.run_pure]
  rfl

/-- To a row. -/
theorem op_app_sl (H : HRel E h) {t u e ty : TypeId} {s bytes m : Nat} {z : Value} (hzs : z.cells.size = s) {vy : Value} {ys : List Value} (A : AppRuns P t u e s bytes m z.cells vy ys E.w)
    (hm : m ≠ 0) {k i n : Nat} {vx : Value} (hx : E.R (.sl k i n) vx) {b b' : ABlk} (hk : h[k]? = some (some b)) (hbs : b.shape.1 = s) (hb : (bytes + 1) * (n + m) ≤ 2 ^ 46) (G : Grows E b b' i n m ys) :
    Runs P (do pure (.value (← Builtin.append_ #[t, u] ty #[vx, vy]))) E h (.sl h.length 0 (n + m)) (.move k b') := by
  obtain ⟨b1, b2⟩ := big46 hb
  obtain ⟨cb, base, off, cap, rfl, h1, h3, h2⟩ := rel_sl hx
  obtain ⟨g1, g2, g3, c, ee, f, g4, g5⟩ := h3 _ _ (H.live.2 ⟨b, hk, rfl⟩)
  by_cases hroom : n + m ≤ cap
  · obtain ⟨E', w1, w2, w3, w4⟩ := grow_in P H hk h1 G ⟨c, ee, f, g4, g5⟩ hroom g1
    rw [hbs] at w1
    refine ⟨E', _, .inl ?_, w2, w3, w4⟩
    have hrun := A.inn ty E'.w ⟨cb, off, none⟩ n cap hroom hm (by rw [add_plain]; exact w1)
    simp only [Sem.run_bind, hrun, Result.andThen_ok, Sem.run_pure]
  · have hge := grownCap_ge E.w (n + m) cap e
    obtain ⟨os, o1, o2, E', o3, o4, o5, o6⟩ := grow_new P H hk h1 G (Builtin.zeroCells z.cells (grownCap E.w (n + m) cap e - (n + m))).toList e (cap := grownCap E.w (n + m) cap e)
      (by simp only [Array.length_toList, size_zeroCells, hzs, hbs, ← Nat.add_mul]; congr 1; omega) hge
    have o2' : At E.w ⟨cb, off, none⟩ os := by
      rcases g1 with g1 | g1
      · have : n = 0 := by omega
        subst this
        have : os = [] := List.eq_nil_of_length_eq_zero (by omega)
        subst this
        intro j v hv; simp at hv
      · rw [g1]; exact o2
    have hrun := A.new ty (some ⟨cb, off, none⟩) n cap os (by rw [← hbs]; exact o1) (fun ad ha => by obtain rfl := Option.some.inj ha; exact o2') (fun hh => by cases hh) (by omega) hm b1 b2
    refine ⟨E', _, .inl ?_, o4, o5, o6⟩
    simp only [Sem.run_bind, hrun, Result.andThen_ok, Sem.run_pure, o3]
    congr 4
    simp

/-- What an append of numbers comes to. -/
def appInts (h : AHeap) (bytes : Nat) (k : IntKind) (xe : AV) (ns : List Int) : Option (Bool × AV × Eff) :=
  match xe with
  | .sl b i l => match nth h b with
    | some (some (.ia k' xs)) => match sameKind k' k with
      | true => match ns with
        | [] => some (true, .sl b i l, .keep)
        | q :: qs => some (decide (i + l = xs.length ∧ (bytes + 1) * (l + (qs.length + 1)) ≤ 2 ^ 46), .sl h.length 0 (l + (qs.length + 1)), .move b (.ia k' (xs.drop i ++ q :: qs)))
      | false => none
    | _ => none
  | .snil => match ns with
    | [] => some (true, .snil, .keep)
    | q :: qs => some (decide ((bytes + 1) * (qs.length + 1) ≤ 2 ^ 46), .sl h.length 0 (qs.length + 1), .push (.ia k (q :: qs)))
  | .semp => match ns with
    | [] => some (true, .semp, .keep)
    | q :: qs => some (decide ((bytes + 1) * (qs.length + 1) ≤ 2 ^ 46), .sl h.length 0 (qs.length + 1), .push (.ia k (q :: qs)))
  | _ => none

/-- An append of numbers: to a row of numbers, or to nothing. -/
theorem op_app_ints (H : HRel E h) {t u e ty : TypeId} {bytes : Nat} {z : Value} (hzs : z.cells.size = 1) {vx vy : Value} {xe : AV} (hx : E.R xe vx) {k : IntKind} {ns : List Int}
    (A : AppRuns P t u e 1 bytes ns.length z.cells vy (ns.map (.int k)) E.w) {v : AV} {f : Eff}
    (ha : appInts h bytes k xe ns = some (true, v, f)) :
    Runs P (do pure (.value (← Builtin.append_ #[t, u] ty #[vx, vy]))) E h v f := by
  have e0 : ∀ (a' : Option Addr) xe, vx = .slice a' 0 0 → E.R xe vx → (ns = [] → some (true, xe, Eff.keep) = some (true, v, f)) →
      (∀ q qs, ns = q :: qs → some (decide ((bytes + 1) * (qs.length + 1) ≤ 2 ^ 46), AV.sl h.length 0 (qs.length + 1), Eff.push (.ia k (q :: qs))) = some (true, v, f)) →
      Runs P (do pure (.value (← Builtin.append_ #[t, u] ty #[vx, vy]))) E h v f := by
    rintro a' xe rfl hx ha1 ha2
    cases ns with
    | nil =>
      have ha := ha1 rfl
      simp only [Option.some.injEq, Prod.mk.injEq, true_and] at ha
      obtain ⟨rfl, rfl⟩ := ha
      refine .keep H (u := .slice a' 0 0) ?_ hx
      have := A.same ty a' 0 (fun _ => rfl) 0 rfl (Nat.le_refl _)
      simp only [Sem.run_bind, this, Result.andThen_ok, Sem.run_pure]
    | cons q qs =>
      have ha := ha2 q qs rfl
      simp only [Option.some.injEq, Prod.mk.injEq, decide_eq_true_eq] at ha
      obtain ⟨hb, rfl, rfl⟩ := ha
      refine op_app_new H hzs A (by simp) (by simpa using hb) (by simp [ABlk.shape]) trivial (fun _ => rfl) fun i j x hc => ?_
      simp only [ABlk.cell] at hc
      split at hc <;> try (cases hc; done)
      rename_i hj
      subst hj
      rw [Option.map_eq_some_iff] at hc
      obtain ⟨n, hn, rfl⟩ := hc
      exact ⟨.int k n, by rw [List.getElem?_map, Nat.mul_one, Nat.add_zero, hn]; rfl, .int ..⟩
  cases xe <;> simp only [appInts] at ha <;> try (cases ha; done)
  · have hvx : vx = .slice none 0 0 := by cases hx; rfl
    exact e0 none _ hvx hx (fun hn => by subst hn; exact ha) (fun q qs hn => by subst hn; exact ha)
  · have hvx : ∃ a, vx = .slice a 0 0 := by cases hx; exact ⟨_, rfl⟩
    obtain ⟨a, hvx⟩ := hvx
    exact e0 a _ hvx hx (fun hn => by subst hn; exact ha) (fun q qs hn => by subst hn; exact ha)
  · rename_i b i l
    rw [nth_eq] at ha
    split at ha <;> try (cases ha; done)
    rename_i k' xs hk
    split at ha <;> try (cases ha; done)
    rename_i hkk
    obtain rfl := sameKind_eq hkk
    cases ns with
    | nil =>
      simp only [Option.some.injEq, Prod.mk.injEq, true_and] at ha
      obtain ⟨rfl, rfl⟩ := ha
      have hx' := hx
      obtain ⟨cb, base, off, cap, rfl, h1, h3, h2⟩ := rel_sl hx
      refine .keep H (u := .slice (some ⟨cb, off, none⟩) l cap) ?_ hx'
      have := A.same ty (some ⟨cb, off, none⟩) cap (fun hh => by cases hh) l rfl h2
      simp only [Sem.run_bind, this, Result.andThen_ok, Sem.run_pure]
    | cons q qs =>
      simp only [Option.some.injEq, Prod.mk.injEq, decide_eq_true_eq] at ha
      obtain ⟨⟨hin, hb⟩, rfl, rfl⟩ := ha
      have hxl : (xs.drop i).length = l := by simp; omega
      refine op_app_sl H hzs A (by simp) hx hk rfl (by simpa using hb) ⟨by simp [ABlk.shape, hxl], trivial, rfl, fun _ => rfl, A.len, fun v hv => ?_, Nat.le_of_eq (by simpa [ABlk.shape] using hin), fun i' j' x hc => ?_, rfl, rfl⟩
      · rw [List.mem_map] at hv
        obtain ⟨n, _, rfl⟩ := hv
        rfl
      · obtain ⟨c1, c2⟩ := ia_cell_app hin hc
        refine ⟨by simpa [ABlk.shape] using c1, c2.imp id fun ⟨d1, d2, d3⟩ => ⟨d1, d2, ?_⟩⟩
        simp only [Rows.cell] at d3
        split at d3 <;> try (cases d3; done)
        rename_i hj
        subst hj
        rw [Option.map_eq_some_iff] at d3
        obtain ⟨n, hn, rfl⟩ := d3
        exact ⟨.int k' n, by simp only [ABlk.shape]; rw [List.getElem?_map, Nat.mul_one, Nat.add_zero, hn]; rfl, .int ..⟩

theorem zeroCells_one {k : IntKind} {x : Int} {v : Value} (hv : v.cells = #[.int k x]) (m : Nat) : (Builtin.zeroCells v.cells m).toList = (List.replicate m x).map (.int k) := by
  rw [hv]
  apply List.ext_getElem?
  intro i
  simp only [Builtin.zeroCells, Array.toList_map, Array.toList_range, List.getElem?_map, List.map_replicate]
  by_cases hi : i < m
  · rw [List.getElem?_eq_getElem (by simpa using hi), List.getElem?_replicate]
    simp [hi, Nat.mod_one]
  · rw [List.getElem?_eq_none (by simp; omega), List.getElem?_replicate, if_neg hi]
    rfl

theorem op_appendZ (H : HRel E h) {t u e ty : TypeId} {s bytes : Nat} {z : List AV} (T : AppT P t e s bytes z) {ik : IntKind} (hu : P.underlying u = some (.int ik)) {tm : List (Nat × AV)} {x y : Opd} {vx vy : Value} (hx : E.R (ev tm x) vx) (hy : E.R (ev tm y) vy)
    (hns : ∀ b i n c, ev tm x ≠ .slc b i n c)
    {v : AV} {f : Eff} (ha : aop tm h h.length (.appendZ bytes z x y) = some (true, v, f)) :
    Runs P (do pure (.value (← Builtin.append_ #[t, u] ty #[vx, vy]))) E h v f := by
  simp only [aop] at ha
  split at ha <;> try (cases ha; done)
  rename_i ky m hm
  rw [hm] at hy
  obtain rfl := rel_int hy
  split at ha <;> try (cases ha; done)
  rename_i k z
  obtain ⟨ti, zv, hi, hz, hbes, _⟩ := zeroB_info T.hz
  have hbi : ti.bytes = bytes := by simpa [bytesB, hi] using T.hby
  have hsi : ti.size = s := by simpa [sizeB, hi] using T.hs
  have hs1 : s = 1 := by have := T.hzl; simpa using this.symm
  subst hs1
  have hzs : zv.cells.size = 1 := by have := (hbes E).1; simp at this; omega
  have hzc : zv.cells = #[.int k z] := by
    apply Array.ext'
    obtain ⟨b1, b2⟩ := hbes E
    match hl : zv.cells.toList, b1 with
    | [q], _ =>
      have := b2 0 (.int k z) q rfl (by rw [hl]; rfl)
      rw [rel_int this]
  generalize hxe : ev tm x = xe at *
  have key : ∀ q : Nat, m = (q : Int) → q ≤ 2 ^ 46 → q * bytes ≤ 2 ^ 46 → AppRuns P t u e 1 bytes (List.replicate q z).length zv.cells (.int ky m) ((List.replicate q z).map (.int k)) E.w := by
    rintro q rfl h1 h2
    have := runs_noughts T.ht hu hi hz hsi hzs (by omega) hbi ky h1 h2 E.w
    rw [zeroCells_one hzc] at this
    rw [List.length_replicate]
    exact this
  have fin : ∀ q : Nat, m.toNat = q → appInts h bytes k xe (List.replicate q z) = some (true, v, f) → 0 ≤ m → q ≤ 2 ^ 46 → q * bytes ≤ 2 ^ 46 → Runs P (do pure (.value (← Builtin.append_ #[t, u] ty #[vx, .int ky m]))) E h v f :=
    fun q hq hm h0 h1 h2 => op_app_ints H hzs hx (key q (by omega) h1 h2) hm
  cases xe <;> simp only [] at ha <;> try (cases ha; done)
  · split at ha
    · rename_i h0
      simp only [Option.some.injEq, Prod.mk.injEq, decide_eq_true_eq] at ha
      exact fin 0 h0 (by simp [appInts, ha]) ha.1 (by omega) (by omega)
    · rename_i q h0
      simp only [Option.some.injEq, Prod.mk.injEq, decide_eq_true_eq] at ha
      obtain ⟨b1, b2⟩ := big46 ha.1.2
      exact fin (q + 1) h0 (by rw [List.replicate_succ]; simp [appInts]; simp only [List.replicate_succ] at ha; simp [ha]) ha.1.1 b1 b2
  · split at ha
    · rename_i h0
      simp only [Option.some.injEq, Prod.mk.injEq, decide_eq_true_eq] at ha
      exact fin 0 h0 (by simp [appInts, ha]) ha.1 (by omega) (by omega)
    · rename_i q h0
      simp only [Option.some.injEq, Prod.mk.injEq, decide_eq_true_eq] at ha
      obtain ⟨b1, b2⟩ := big46 ha.1.2
      exact fin (q + 1) h0 (by rw [List.replicate_succ]; simp [appInts]; simp only [List.replicate_succ] at ha; simp [ha]) ha.1.1 b1 b2
  · rename_i b i l
    split at ha <;> try (cases ha; done)
    rename_i k' xs hk
    split at ha <;> try (cases ha; done)
    rename_i hkk
    split at ha
    · rename_i h0
      simp only [Option.some.injEq, Prod.mk.injEq, decide_eq_true_eq] at ha
      exact fin 0 h0 (by simp [appInts, hk, hkk, ha]) ha.1 (by omega) (by omega)
    · rename_i q h0
      simp only [Option.some.injEq, Prod.mk.injEq, decide_eq_true_eq] at ha
      obtain ⟨b1, b2⟩ := big46 ha.1.2.2
      have hle : (q + 1) * bytes ≤ (q + 1) * (bytes + 1) := Nat.mul_le_mul_left _ (by omega)
      refine fin (q + 1) h0 ?_ ha.1.1 (by omega) ?_
      · simp only [List.replicate_succ] at ha
        simp [appInts, hk, hkk, List.replicate_succ, ha]
      · have : (q + 1) * bytes ≤ (l + (q + 1)) * bytes := Nat.mul_le_mul_right _ (by omega)
        omega

theorem op_appendS (H : HRel E h) {t u e ty : TypeId} {s bytes : Nat} {z : List AV} (T : AppT P t e s bytes z) (hu : P.underlying u = some .string) {tm : List (Nat × AV)} {x y : Opd} {vx vy : Value} (hx : E.R (ev tm x) vx) (hy : E.R (ev tm y) vy)
    {v : AV} {f : Eff} (hs1 : s = 1) (ha : aop tm h h.length (.appendS bytes x y) = some (true, v, f)) :
    Runs P (do pure (.value (← Builtin.append_ #[t, u] ty #[vx, vy]))) E h v f := by
  simp only [aop] at ha
  split at ha <;> try (cases ha; done)
  rename_i b hb
  rw [hb] at hy
  obtain rfl := rel_str hy
  obtain ⟨ti, zv, hi, hz, hbes, _⟩ := zeroB_info T.hz
  have hbi : ti.bytes = bytes := by simpa [bytesB, hi] using T.hby
  have hsi : ti.size = s := by simpa [sizeB, hi] using T.hs
  have hzs : zv.cells.size = 1 := by have h1 := (hbes E).1; have h2 := T.hzl; simp at h1; omega
  have A := runs_str (s := s) T.ht hu hi hz hsi hs1 hbi b E.w
  subst hs1
  generalize hxe : ev tm x = xe at *
  refine op_app_ints H hzs hx A ?_
  cases xe <;> try exact ha

theorem op_bytesS (H : HRel E h) {src dst e : TypeId} (hs : P.underlying src = some .string) (hd : P.underlying dst = some (.slice e)) (he : P.underlying e = some (.int .u8)) {s : ByteArray} :
    Runs P (do pure (.value (← convert src dst (.string s)))) E h (.ri .u8 (numsOf s)) .keep := by
  have hrun := run_bytes_of_string (P := P) E.w src dst e s hs hd he
  have hge := grownCap_ge E.w s.size 0 e
  generalize grownCap E.w s.size 0 e = gc at hrun hge
  generalize hm : ((bytesRow s gc).size, (bytesRow s gc).size + 1) = mk at hrun
  have Hd := H.drew
  refine ⟨E.drew.jfrz (.cells (bytesRow s gc) e mk), .slice (some ⟨E.w.heap.size, 0, none⟩) s.size gc, .inl ?_, H.ext_drew.trans (Hd.ext_jfrz _), Hd.jfrz _, ?_⟩
  · simp only [Sem.run_bind, hrun, Result.andThen_ok, Sem.run_pure]
    rfl
  · have hl : s.size = (numsOf s).length := by unfold numsOf; rw [List.length_map, Array.length_toList]; rfl
    refine .ri _ _ _ _ _ _ hl hge (fun i x hx => ⟨_, _, rfl, .inr rfl, ?_⟩) (by simp)
    have hlt := (List.getElem?_eq_some_iff.1 hx).1
    rw [Nat.zero_add]
    refine (World.cell?_alloc_mark E.w.drew (bytesRow s gc) e mk i).trans ?_
    have hi : i < s.data.size := by rw [← hl] at hlt; exact hlt
    unfold bytesRow
    rw [Array.getElem?_append_left (by simpa using hi)]
    simp [numsOf] at hx ⊢
    obtain ⟨b, hb, rfl⟩ := hx
    exact ⟨b, hb, rfl⟩

/-- A block is marked, and given up to be read only. -/
theorem HRel.mark (H : HRel E h) {k : Nat} {b : ABlk} (hk : h[k]? = some (some b)) {cb base : Nat} (hr : E.S.ρ[k]? = some (cb, base)) {c : Array Value} {e : TypeId} (hc : E.w.heap[cb]? = some (.cells c e (0, 0))) (mk : Nat × Nat) {w' : World}
    (hw : w' = { E.w with heap := E.w.heap.setIfInBounds cb (.cells c e mk) }) :
    Ext E ⟨w', fun x => E.F x ∨ x = cb, ⟨E.S.ρ, E.S.sh.set k none⟩⟩ ∧ HRel ⟨w', fun x => E.F x ∨ x = cb, ⟨E.S.ρ, E.S.sh.set k none⟩⟩ (lset h k none) := by
  subst hw
  have hown := H.own_of hk hr
  have K := H.ext_kill k
  have HK := H.kill k
  have hget : ∀ x, x ≠ cb → (E.w.heap.setIfInBounds cb (Obj.cells c e mk))[x]? = E.w.heap[x]? := fun x hx => by
    rw [Array.getElem?_setIfInBounds, if_neg (fun h => hx h.symm)]
  have hlt : cb < E.w.heap.size := (Array.getElem?_eq_some_iff.1 hc).1
  have X : Ext E ⟨{ E.w with heap := E.w.heap.setIfInBounds cb (.cells c e mk) }, fun x => E.F x ∨ x = cb, ⟨E.S.ρ, E.S.sh.set k none⟩⟩ := by
    refine ⟨rfl, rfl, rfl, by simp, fun _ h => .inl h, fun x _ hx => hget x (fun h => hx (h ▸ hown)), fun _ _ h => h, K.sh, H.rlen, K.own, ?_, ?_, fun x es q hx => ?_, H.off⟩
    · rintro x (hx | rfl)
      · exact .inl hx
      · exact .inr (.inl hown)
    · intro x c' e' f' hx
      by_cases hxe : x = cb
      · subst hxe
        rw [hc] at hx
        obtain ⟨rfl, rfl, rfl⟩ := Obj.cells.inj (Option.some.inj hx)
        exact ⟨c, e, mk, by show (E.w.heap.setIfInBounds x (Obj.cells c e mk))[x]? = _; rw [Array.getElem?_setIfInBounds, if_pos rfl, if_pos hlt], rfl, rfl⟩
      · exact ⟨c', e', f', by show (E.w.heap.setIfInBounds cb (Obj.cells c e mk))[x]? = _; rw [hget x hxe]; exact hx, rfl, rfl⟩
    · by_cases hxe : x = cb
      · subst hxe; rw [hc] at hx; cases hx
      · exact ⟨es, q, by show (E.w.heap.setIfInBounds cb (Obj.cells c e mk))[x]? = _; rw [hget x hxe]; exact hx⟩
  refine ⟨X, HK.sh, HK.len, fun q b' hq => ?_, HK.inj, ?_⟩
  · have hqk : q ≠ k := by
      rintro rfl
      rw [lset_eq, List.getElem?_set] at hq
      split at hq
      · split at hq <;> simp at hq
      · rename_i h; exact h rfl
    have hq0 : h[q]? = some (some b') := by
      rw [lset_eq, List.getElem?_set, if_neg (fun h => hqk h.symm)] at hq; exact hq
    obtain ⟨h0, cb', base', c', e', h1, h2, h3, h4, h5⟩ := H.blk q b' hq0
    have hne : cb' ≠ cb := by
      rintro rfl
      exact hqk (H.inj q k b' b cb' base' base hq0 hk h1 hr)
    refine ⟨h0, cb', base', c', e', h1, ?_, ?_, h4, fun i j x hx => ?_⟩
    · show (E.w.heap.setIfInBounds cb (Obj.cells c e mk))[cb']? = _
      rw [hget cb' hne]; exact h2
    · rintro (hx | hx)
      · exact h3 hx
      · exact hne hx
    · obtain ⟨v, hv1, hv2⟩ := h5 i j x hx
      exact ⟨v, hv1, inner_mono X H.frz b' hv2⟩
  · rintro x (hx | rfl)
    · have := H.frz x hx
      show x < (E.w.heap.setIfInBounds cb (Obj.cells c e mk)).size
      simpa using this
    · show x < (E.w.heap.setIfInBounds x (Obj.cells c e mk)).size
      simpa using hlt

theorem op_markS (H : HRel E h) {src e : TypeId} (hs : P.underlying src = some (.slice e)) (he : P.underlying e = some (.int .u8)) {b i n : Nat} {xs : List Int} (hb : nth h b = some (some (.ia .u8 xs))) {vx : Value} (hx : E.R (.sl b i n) vx) :
    Runs P (do pure (.value (← convert src src vx))) E h (.ri .u8 ((xs.drop i).take n)) (.kill b) := by
  rw [nth_eq] at hb
  obtain ⟨cb, base, off, cap, rfl, h1, h3, h2⟩ := rel_sl hx
  obtain ⟨g1, g2, g3, c, ee, f, g4, g5⟩ := h3 _ _ (H.live.2 ⟨_, hb, rfl⟩)
  obtain ⟨h0, cb', base', c', e', k1, k2, k3, k4, k5⟩ := H.cblk b _ hb
  rw [h1] at k1
  obtain ⟨rfl, rfl⟩ := Prod.mk.inj (Option.some.inj k1)
  simp only [ABlk.shape, Nat.mul_one] at g1 g2 g3 g5 k4 k5
  obtain ⟨X, HH⟩ := H.mark hb h1 k2 (c'.size, c'.size + 1) rfl
  have hlt : cb < E.w.heap.size := (Array.getElem?_eq_some_iff.1 k2).1
  refine ⟨_, .slice (some ⟨cb, off, none⟩) n cap, .inl ?_, X, HH, ?_⟩
  · have hsh : E.w.shape? cb = some (e', c'.size) := by unfold World.shape?; rw [k2]
    have hfr : E.w.freeze ⟨cb, c'.size, none⟩ 1 = { E.w with heap := E.w.heap.setIfInBounds cb (.cells c' e' (c'.size, c'.size + 1)) } := by
      unfold World.freeze
      rw [if_neg (by decide)]
      congr 1
      apply Array.ext
      · simp
      · intro j h1 h2
        simp only [Array.getElem_modify]
        by_cases hj : cb = j
        · subst hj
          have := (Array.getElem?_eq_some_iff.1 k2).2
          simp [this]
        · rw [Array.getElem_setIfInBounds_ne (by simpa using h1) hj]
          simp [hj]
    simp [convert, run_underlying hs, run_underlying he, markStringish, hsh, hfr]
  · have hl : n = ((xs.drop i).take n).length := by rw [List.length_take, List.length_drop]; omega
    refine .ri _ _ _ _ _ _ hl h2 (fun q x hq => ⟨_, _, rfl, .inr rfl, ?_⟩) (by simp)
    have hqn := (List.getElem?_eq_some_iff.1 hq).1
    rw [← hl] at hqn
    rw [List.getElem?_take, if_pos hqn, List.getElem?_drop] at hq
    obtain ⟨v, hv, hR⟩ := k5 (i + q) 0 (.int .u8 x) (by simp [ABlk.cell, hq])
    have := rel_int (E := ⟨E.w, E.F, (ABlk.ia .u8 xs).inner E.S⟩) hR
    subst this
    rcases g1 with g1 | g1
    · omega
    subst g1
    have hnew : ({ E.w with heap := E.w.heap.setIfInBounds cb (Obj.cells c' e' (c'.size, c'.size + 1)) } : World).heap[cb]? = some (Obj.cells c' e' (c'.size, c'.size + 1)) := by
      show (E.w.heap.setIfInBounds cb _)[cb]? = _
      rw [Array.getElem?_setIfInBounds, if_pos rfl, if_pos hlt]
    simp only [World.cell?, hnew]
    simpa [Nat.add_assoc] using hv


theorem op_strB (H : HRel E h) {src dst e : TypeId} (hs : P.underlying src = some (.slice e)) (he : P.underlying e = some (.int .u8)) (hd : P.underlying dst = some .string) {tm : List (Nat × AV)} {x : Opd} {vx : Value} (hx : E.R (ev tm x) vx)
    {v : AV} {f : Eff} (ha : aop tm h h.length (.strB x) = some (true, v, f)) :
    Runs P (do pure (.value (← convert src dst vx))) E h v f := by
  simp only [aop] at ha
  generalize hxe : ev tm x = xe at *
  have lit : ∀ (a : Option Addr) cap (xs : List Int), v = .str (strOfNums xs) → f = .keep → vx = .slice a xs.length cap → (∀ ad, a = some ad → At E.w ad (xs.map (.int .u8))) → (a = none → xs = []) →
      Runs P (do pure (.value (← convert src dst vx))) E h v f := by
    rintro a cap xs rfl rfl rfl hat hn
    refine .keep H (u := .string (strOfNums xs)) ?_ (.str ..)
    have : (convert src dst (.slice a xs.length cap)).run P E.w = .ok (.string (strOfNums xs)) E.w := by
      cases a with
      | none =>
        obtain rfl := hn rfl
        exact run_convert_bytes_nil E.w src e hs he _ _ dst hd
      | some ad =>
        have hl := run_loadCells_list (P := P) E.w ad (xs.map (Value.int .u8)) (hat ad rfl)
        rw [List.length_map] at hl
        rw [run_convert_bytes_string E.w src dst e _ _ cap hs he hd, run_bytesToString E.w _ _ cap xs hl, foldl_push_bytes]
        simp [strOfNums, ByteArray.empty, ByteArray.emptyWithCapacity]
        rfl
    simp only [Sem.run_bind, this, Result.andThen_ok, Sem.run_pure]
  have e0 : ∀ a cap, vx = .slice a 0 cap → some (true, AV.str (strOfNums []), Eff.keep) = some (true, v, f) → Runs P (do pure (.value (← convert src dst vx))) E h v f := by
    intro a cap hv ha
    simp only [Option.some.injEq, Prod.mk.injEq, true_and] at ha
    exact lit a cap [] ha.1.symm ha.2.symm hv (fun ad _ j v hv => by simp at hv) (fun _ => rfl)
  have gen : (match srcV h 1 xe with
      | .ints k xs => match sameKind k .u8 with
        | true => some (true, AV.str (strOfNums xs), Eff.keep)
        | false => none
      | .rows xs => match xs with
        | [] => some (true, .str (strOfNums []), .keep)
        | _ :: _ => none
      | .none => none) = some (true, v, f) → Runs P (do pure (.value (← convert src dst vx))) E h v f := by
    intro ha
    split at ha <;> try (cases ha; done)
    · rename_i k xs hsrc
      split at ha <;> try (cases ha; done)
      rename_i hk
      obtain rfl := sameKind_eq hk
      simp only [Option.some.injEq, Prod.mk.injEq, true_and] at ha
      obtain ⟨ys, ⟨⟨a, cap, rfl, hat, hn⟩, hlen, hcell, _⟩⟩ := src_sound H (by omega) hx hsrc (by simp)
      have hys : ys = xs.map (Value.int .u8) := by
        apply List.ext_getElem?
        intro i
        simp only [Rows.len, Nat.mul_one] at hlen
        by_cases hi : i < xs.length
        · obtain ⟨_, u, hu, hR⟩ := hcell i 0 (.int .u8 xs[i]) (by simp [Rows.cell, hi])
          rw [Nat.mul_one, Nat.add_zero] at hu
          rw [hu, List.getElem?_map, List.getElem?_eq_getElem hi, rel_int (E := ⟨E.w, E.F, .nil⟩) hR]; rfl
        · rw [List.getElem?_eq_none (by omega), List.getElem?_eq_none (by simp; omega)]
      subst hys
      exact lit a cap xs ha.1.symm ha.2.symm rfl hat (fun h0 => List.eq_nil_of_length_eq_zero (hn h0))
    · rename_i xs hsrc
      split at ha <;> try (cases ha; done)
      obtain ⟨ys, ⟨⟨a, cap, rfl, hat, hn⟩, hlen, hcell, _⟩⟩ := src_sound H (by omega) hx hsrc (by simp)
      exact e0 a cap rfl ha
  cases xe <;> first
    | exact gen ha
    | (obtain ⟨a, hv⟩ := src_empty hx rfl; exact e0 a 0 hv ha)

/-- What a copy writes, cell by cell. -/
structure Copies (E : Env) (b b' : ABlk) (i m : Nat) (ys : List Value) : Prop where
  shape : b'.shape = b.shape
  fits : b'.fits
  inb : b.inner E.S = .nil
  inb' : ∀ S, b'.inner S = .nil
  len : ys.length = m * b.shape.1
  one : ∀ v ∈ ys, v.oneCell' = true
  fin : i + m ≤ b.shape.2
  cell : ∀ i' j' x, b'.cell i' j' = some x → j' < b.shape.1 ∧ ((¬ (i ≤ i' ∧ i' < i + m) ∧ b.cell i' j' = some x) ∨
    (i ≤ i' ∧ i' < i + m ∧ ∃ v, ys[(i' - i) * b.shape.1 + j']? = some v ∧ Go.AL.Rel E.w E.F .nil x v))
  cb : b.isM = false := by first | rfl | assumption
  cb' : b'.isM = false := by first | rfl | assumption

theorem copies_in (P : Program) (H : HRel E h) {k : Nat} {b b' : ABlk} (hk : h[k]? = some (some b)) {cb base : Nat} (hr : E.S.ρ[k]? = some (cb, base)) {i m : Nat} {ys : List Value}
    (G : Copies E b b' i m ys) : ∃ c' : Array Value, (storeCells ⟨cb, base + i * b.shape.1, none⟩ ys 0).run P E.w = .ok () (E.setRow cb c').w ∧ Ext E (E.setRow cb c') ∧ HRel (E.setRow cb c') (lset h k (some b')) := by
  obtain ⟨h0, cb₁, base₁, c, e, h1, h2, h3, h4, h5⟩ := H.cblk k b hk G.cb
  rw [hr] at h1
  obtain ⟨rfl, rfl⟩ := Prod.mk.inj (Option.some.inj h1)
  have hlen := G.len
  have hfin := Nat.mul_le_mul_right b.shape.1 G.fin
  rw [Nat.add_mul] at hfin
  generalize ho : base + i * b.shape.1 = o
  have hfitc : o + ys.length ≤ c.size := by omega
  have hst := run_storeCells_at P cb o e ys 0 c E.w h2 (by simpa using hfitc) G.one
  simp only [Nat.add_zero] at hst
  refine ⟨_, hst, H.ext_setRow (H.own_of hk hr) h2 (by simp; omega), ?_⟩
  refine H.set hk hr h2 (by simp; omega) G.shape G.fits (fun i' j' x hx => ?_) G.cb G.cb'
  rw [G.inb', G.shape]
  have hget : ∀ p : Nat, (c.toList.take o ++ ys ++ c.toList.drop (o + ys.length)).toArray[p]? = if o ≤ p ∧ p < o + ys.length then ys[p - o]? else c[p]? := by
    intro p
    rw [List.getElem?_toArray, List.getElem?_append, List.getElem?_append]
    have ht : (c.toList.take o).length = o := by simp; omega
    simp only [List.length_append, ht]
    by_cases hp1 : p < o
    · rw [if_pos (by omega), if_pos hp1, if_neg (by omega)]
      rw [List.getElem?_take, if_pos hp1]; simp
    · by_cases hp2 : p < o + ys.length
      · rw [if_pos hp2, if_neg hp1, if_pos ⟨by omega, hp2⟩]
      · rw [if_neg hp2, if_neg (by omega), List.getElem?_drop, show o + ys.length + (p - (o + ys.length)) = p by omega]; simp
  obtain ⟨hj, ⟨hn, hcell⟩ | ⟨hge, hlt, v, hv, hR⟩⟩ := G.cell i' j' x hx
  · obtain ⟨v, hv1, hv2⟩ := h5 i' j' x hcell
    rw [G.inb] at hv2
    refine ⟨v, ?_, hv2⟩
    rw [hget, if_neg, hv1]
    rintro ⟨r1, r2⟩
    apply hn
    constructor
    · apply Classical.byContradiction
      intro hlt
      have : i' * b.shape.1 + b.shape.1 ≤ i * b.shape.1 := by rw [← Nat.succ_mul]; exact Nat.mul_le_mul_right _ (by omega)
      omega
    · apply Classical.byContradiction
      intro hge
      have : (i + m) * b.shape.1 ≤ i' * b.shape.1 := Nat.mul_le_mul_right _ (by omega)
      rw [Nat.add_mul] at this
      omega
  · refine ⟨v, ?_, hR⟩
    have e1 : i' * b.shape.1 = i * b.shape.1 + (i' - i) * b.shape.1 := by rw [← Nat.add_mul, show i + (i' - i) = i' by omega]
    have e2 : (i' - i) * b.shape.1 + b.shape.1 ≤ m * b.shape.1 := by rw [← Nat.succ_mul]; exact Nat.mul_le_mul_right _ (by omega)
    rw [hget, if_pos (by omega), ← hv]
    congr 1; omega

theorem op_copy_sl (H : HRel E h) {t e ty : TypeId} {ts : Array TypeId} {s : Nat} (ht : P.underlying t = some (.slice e)) (hs : sizeB P e = some s) (h0 : ts[0]? = some t) {k i n : Nat} {vx : Value} (hx : E.R (.sl k i n) vx) {b b' : ABlk} (hk : h[k]? = some (some b))
    {vy : Value} {r : Rows} {ys : List Value} (S : Src E s r vy ys) (G : Copies E b b' i (min r.len n) (ys.take (min r.len n * s))) :
    Runs P (do pure (.value (← Builtin.copy_ ts ty #[vx, vy]))) E h (.int .i64 (min r.len n : Nat)) (.put k b') := by
  obtain ⟨⟨a, capy, rfl, hat, hnone⟩, hlen, hc, _⟩ := S
  obtain ⟨cb, base, off, cap, rfl, h1, h3, h2⟩ := rel_sl hx
  obtain ⟨g1, g2, g3, _⟩ := h3 _ _ (H.live.2 ⟨b, hk, rfl⟩)
  obtain ⟨c', w1, w2, w3⟩ := copies_in P H hk h1 G
  have hle : min r.len n * s ≤ r.len * s := Nat.mul_le_mul_right _ (Nat.min_le_left _ _)
  have hyl : (ys.take (min r.len n * s)).length = min r.len n * s := by rw [List.length_take]; omega
  have hst : (storeCells ⟨cb, off, none⟩ (ys.take (min r.len n * s)) 0).run P E.w = .ok () (E.setRow cb c').w := by
    rcases g1 with g1 | g1
    · have hn0 : n = 0 := by omega
      have : ys.take (min r.len n * s) = [] := List.eq_nil_of_length_eq_zero (by rw [hyl, hn0]; simp)
      rw [this] at w1 ⊢
      exact w1
    · rw [g1]; exact w1
  have hf : (Builtin.firstCells s (min r.len n) (.slice a r.len capy)).run P E.w = .ok (ys.take (min r.len n * s)).toArray E.w := by
    cases a with
    | none =>
      have h00 := hnone rfl
      have : ys = [] := List.eq_nil_of_length_eq_zero (by rw [hlen, h00]; simp)
      subst this
      simp [Builtin.firstCells]
    | some ad =>
      refine run_firstCells_some E.w s _ ad _ _ _ hyl fun j v hj => ?_
      rw [List.getElem?_take] at hj
      split at hj
      · exact hat ad rfl j v hj
      · cases hj
  refine ⟨_, .int .i64 (min r.len n : Nat), .inl ?_, w2, w3, .int ..⟩
  have hmin : Nat.min r.len n = min r.len n := rfl
  simp [Builtin.copy_, h0, run_underlying ht, run_sizeOf' hs, Builtin.lenOf, hmin, hf, hst, goInt]

theorem op_copy (H : HRel E h) {t e ty : TypeId} {ts : Array TypeId} {s : Nat} (ht : P.underlying t = some (.slice e)) (hs : sizeB P e = some s) (hs0 : s ≠ 0) (h0 : ts[0]? = some t) {tm : List (Nat × AV)} {x y : Opd} {vx vy : Value} (hx : E.R (ev tm x) vx) (hy : E.R (ev tm y) vy)
    (hns : ∀ b i n c, ev tm x ≠ .slc b i n c)
    {v : AV} {f : Eff} (ha : aop tm h h.length (.copy s x y) = some (true, v, f)) :
    Runs P (do pure (.value (← Builtin.copy_ ts ty #[vx, vy]))) E h v f := by
  simp only [aop] at ha
  split at ha <;> try (cases ha; done)
  rotate_left
  · exact absurd ‹_› (hns _ _ _ _)
  rename_i b i n hxe
  rw [hxe] at hx
  rw [nth_eq] at ha
  have hx' := hx
  obtain ⟨cb, base, off, cap, _, h1, h3, _⟩ := rel_sl hx'
  split at ha <;> try (cases ha; done)
  · rename_i k xs hk
    split at ha <;> try (cases ha; done)
    rename_i k' ys hsrc
    split at ha <;> try (cases ha; done)
    rename_i hkk
    obtain rfl := sameKind_eq hkk
    simp only [Option.some.injEq, Prod.mk.injEq, true_and] at ha
    obtain ⟨rfl, rfl⟩ := ha
    obtain ⟨vs, S⟩ := src_sound H hs0 hy hsrc (by simp)
    have hs1 : s = 1 := by
      cases hye : ev tm y <;> rw [hye] at hsrc <;> simp only [srcV] at hsrc <;> try (cases hsrc; done)
      · rw [nth_eq] at hsrc
        split at hsrc
        · split at hsrc <;> try (cases hsrc; done)
          exact Nat.eq_of_beq_eq_true ‹_›
        · split at hsrc <;> cases hsrc
        · split at hsrc <;> cases hsrc
        · cases hsrc
      · split at hsrc <;> try (cases hsrc; done)
        exact Nat.eq_of_beq_eq_true ‹_›
      · split at hsrc <;> cases hsrc
      · (repeat' (split at hsrc)) <;> cases hsrc
    subst hs1
    have g2 : i + n ≤ xs.length := (h3 _ _ (H.live.2 ⟨_, hk, rfl⟩)).2.1
    have hlen := S.len
    simp only [Rows.len, Nat.mul_one] at hlen
    refine op_copy_sl H ht hs h0 hx hk S ⟨by simp [ABlk.shape]; omega, trivial, rfl, fun _ => rfl, ?_, fun v hv => src_one S ints_leaf v (List.mem_of_mem_take hv), by simp only [ABlk.shape, Rows.len]; omega, fun i' j' x hc => ?_, rfl, rfl⟩
    · simp only [ABlk.shape, Rows.len, Nat.mul_one, List.length_take]; omega
    · simp only [ABlk.cell] at hc
      split at hc <;> try (cases hc; done)
      rename_i hj
      subst hj
      rw [Option.map_eq_some_iff] at hc
      obtain ⟨q, hq, rfl⟩ := hc
      refine ⟨by simp [ABlk.shape], ?_⟩
      simp only [Rows.len, ABlk.shape, ABlk.cell, if_true, Nat.mul_one, Nat.add_zero]
      have l1 : (xs.take i).length = i := by simp; omega
      have l2 : (ys.take n).length = min ys.length n := by simp; omega
      rw [List.getElem?_append] at hq
      simp only [List.length_append, l1, l2] at hq
      by_cases c1 : i' < i + min ys.length n
      · rw [if_pos c1, List.getElem?_append] at hq
        simp only [l1] at hq
        by_cases c2 : i' < i
        · rw [if_pos c2, List.getElem?_take, if_pos c2] at hq
          exact .inl ⟨by omega, by rw [hq]; rfl⟩
        · rw [if_neg c2, List.getElem?_take] at hq
          split at hq <;> try (cases hq; done)
          obtain ⟨_, u, hu, hR⟩ := S.cell (i' - i) 0 (.int k q) (by simp [Rows.cell, hq])
          refine .inr ⟨by omega, by omega, u, ?_, hR⟩
          rw [List.getElem?_take, if_pos (by omega), ← hu, Nat.mul_one, Nat.add_zero]
      · rw [if_neg c1, List.getElem?_drop] at hq
        exact .inl ⟨by omega, by rw [show i + min ys.length n + (i' - (i + min ys.length n)) = i' by omega] at hq; rw [hq]; rfl⟩
  · rename_i s' xs hk
    split at ha <;> try (cases ha; done)
    rename_i ys hsrc
    split at ha <;> try (cases ha; done)
    rename_i hss
    have hss := Nat.eq_of_beq_eq_true hss
    subst hss
    simp only [Option.some.injEq, Prod.mk.injEq] at ha
    obtain ⟨hall, rfl, rfl⟩ := ha
    obtain ⟨vs, S⟩ := src_sound H hs0 hy hsrc (by simp)
    have hfit := (H.blk _ _ hk).1
    have hrl := src_rows H hy hsrc
    have g2 : i + n ≤ xs.length := (h3 _ _ (H.live.2 ⟨_, hk, rfl⟩)).2.1
    have hlen := S.len
    simp only [Rows.len] at hlen
    have l1 : (xs.take i).length = i := by simp; omega
    have l2 : (ys.take n).length = min ys.length n := by simp; omega
    have hget : ∀ q : Nat, (xs.take i ++ ys.take n ++ xs.drop (i + min ys.length n))[q]? = if q < i then xs[q]? else if q < i + min ys.length n then ys[q - i]? else xs[q]? := by
      intro q
      rw [List.getElem?_append]
      simp only [List.length_append, l1, l2]
      by_cases c1 : q < i + min ys.length n
      · rw [if_pos c1, List.getElem?_append]
        simp only [l1]
        by_cases c2 : q < i
        · rw [if_pos c2, if_pos c2, List.getElem?_take, if_pos c2]
        · rw [if_neg c2, if_neg c2, if_pos c1, List.getElem?_take, if_pos (by omega)]
      · rw [if_neg c1, if_neg (by omega), if_neg c1, List.getElem?_drop, show i + min ys.length n + (q - (i + min ys.length n)) = q by omega]
    refine op_copy_sl H ht hs h0 hx hk S ⟨by simp [ABlk.shape]; omega, fun q r hq => ?_, rfl, fun _ => rfl, ?_, fun v hv => src_one S (rows_leaf hall) v (List.mem_of_mem_take hv), by simp only [ABlk.shape, Rows.len]; omega, fun i' j' x hc => ?_, rfl, rfl⟩
    · rw [hget] at hq
      split at hq
      · exact hfit _ r hq
      · split at hq
        · exact hrl _ r hq
        · exact hfit _ r hq
    · simp only [ABlk.shape, Rows.len, List.length_take]
      have : min ys.length n * s' ≤ ys.length * s' := Nat.mul_le_mul_right _ (Nat.min_le_left _ _)
      omega
    · simp only [ABlk.cell, Option.bind_eq_some_iff] at hc
      obtain ⟨r, hr, hx2⟩ := hc
      rw [hget] at hr
      have hjlt := (List.getElem?_eq_some_iff.1 hx2).1
      simp only [Rows.len, ABlk.shape, ABlk.cell]
      split at hr
      · have := hfit _ r hr
        exact ⟨by omega, .inl ⟨by omega, by rw [hr]; exact hx2⟩⟩
      · split at hr
        · have := hrl _ r hr
          obtain ⟨_, u, hu, hR⟩ := S.cell (i' - i) j' x (by simp [Rows.cell, hr, hx2])
          refine ⟨by omega, .inr ⟨by omega, by omega, u, ?_, hR⟩⟩
          have e2 : (i' - i) * s' + s' ≤ min ys.length n * s' := by rw [← Nat.succ_mul]; exact Nat.mul_le_mul_right _ (by omega)
          rw [List.getElem?_take, if_pos (by omega), ← hu]
        · have := hfit _ r hr
          exact ⟨by omega, .inl ⟨by omega, by rw [hr]; exact hx2⟩⟩

end Go.AL
