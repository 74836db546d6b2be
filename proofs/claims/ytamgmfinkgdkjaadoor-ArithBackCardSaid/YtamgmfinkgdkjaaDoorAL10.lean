/- Building, making, appending; and every operation that calls nothing. Seat-independent. -/
import Derived.Test.YtamgmfinkgdkjaaDoorAL9
namespace Go.AL
variable {E : Env} {h : AHeap} {P : Program}

theorem Bes.mapM {xs : List Opd} {ops : List Operand} {tm : List (Nat × AV)} {a : Act} (T : TRel E tm a) (hm : ops.mapM cOpd = some xs) : Bes E (xs.map (ev tm)) (ops.map a.eval) := by
  obtain ⟨h1, h2⟩ := mapM_get hm
  refine ⟨by simp [h1], fun q x v hx hv => ?_⟩
  rw [List.getElem?_map, Option.map_eq_some_iff] at hx hv
  obtain ⟨y, hy, rfl⟩ := hx
  obtain ⟨o, ho, rfl⟩ := hv
  exact cOpd_rel T (h2 q o y ho hy)

theorem run_fields {w : World} (fields : List Field) (hs : ∀ f ∈ fields, (sizeB P f.type).isSome) :
    (fields.mapM fun f => (do pure (f.offset, ← sizeOf f.type) : Sem (Nat × Nat))).run P w = .ok (fields.map fun f => (f.offset, (sizeB P f.type).getD 0)) w := by
  induction fields with
  | nil => simp
  | cons f fs ih =>
    have h1 := hs f (by simp)
    obtain ⟨s, hs1⟩ := Option.isSome_iff_exists.1 h1
    have h3 := ih (fun g hg => hs g (by simp [hg]))
    simp only [List.mapM_cons, Sem.run_bind, run_sizeOf' hs1, Result.andThen_ok, Sem.run_pure, h3, List.map_cons, hs1, Option.getD_some]

theorem op_build (H : HRel E h) {t : TypeId} {z : List AV} (hz : zeroB P t = some z) {parts : Array (Nat × Operand)} {ps : List (Nat × Nat × Opd)} (hp : cParts P t parts = some ps)
    {tm : List (Nat × AV)} {a : Act} (T : TRel E tm a) {l : List AV} (hf : fill z (ps.map fun (o, n, x) => (o, n, ev tm x)) = some l) :
    Runs P (do pure (.value (← Instr.build t (parts.map fun (i, x) => (i, a.eval x))))) E h (.agg l) .keep := by
  obtain ⟨i, v, hi, hv, hb, _⟩ := zeroB_info hz
  have hzr : ∀ w, (zeroValue t).run P w = .ok v w := by intro w; simp [zeroValue, typeInfo, hi, hv]
  unfold cParts at hp
  split at hp
  · rename_i fields hd
    split at hp <;> try (cases hp; done)
    rename_i hall
    obtain ⟨h1, h2⟩ := mapM_get hp
    have hfs : ∀ f ∈ fields.toList, (sizeB P f.type).isSome := by
      intro f hf
      rw [Array.all_eq_true_iff_forall_mem] at hall
      exact hall f (by simpa using hf)
    have hplaces : ∀ w, (fields.mapM fun f => (do pure (f.offset, ← sizeOf f.type) : Sem (Nat × Nat))).run P w = .ok (fields.map fun f => (f.offset, (sizeB P f.type).getD 0)) w := by
      intro w
      rw [Array.mapM_eq_mapM_toList, Sem.run_map, run_fields _ hfs]
      simp only [Result.andThen_ok]
      rw [← Array.toList_map]
    obtain ⟨c', g1, g2⟩ := fill_sound (E := E) ((fields.map fun f => (f.offset, (sizeB P f.type).getD 0))[·]?) (parts.toList.map fun (i, x) => (i, a.eval x)) (ps.map fun (o, n, x) => (o, n, ev tm x)) v.cells z l (hb E) (by simp [h1])
      (fun q i' v' off n x hq1 hq2 => by
        rw [List.getElem?_map, Option.map_eq_some_iff] at hq1 hq2
        obtain ⟨⟨i₀, o₀⟩, hq1, e1⟩ := hq1
        obtain ⟨⟨off₀, n₀, x₀⟩, hq2, e2⟩ := hq2
        simp only [Prod.mk.injEq] at e1 e2
        obtain ⟨rfl, rfl⟩ := e1
        obtain ⟨rfl, rfl, rfl⟩ := e2
        have := h2 q _ _ hq1 hq2
        simp only [Option.bind_eq_bind, Option.bind_eq_some_iff] at this
        obtain ⟨f, hf1, s, hs1, y, hy1, hlast⟩ := this
        split at hlast <;> try (cases hlast; done)
        rename_i hne
        simp only [Option.some.injEq, Prod.mk.injEq] at hlast
        obtain ⟨rfl, rfl, rfl⟩ := hlast
        refine ⟨?_, hne, cOpd_rel T hy1⟩
        simp [hf1, hs1]) hf
    refine .keep H (u := .agg c') ?_ (agg_rel g2)
    simp only [Instr.build, Sem.run_bind, hzr, Result.andThen_ok, run_underlying hd, hplaces, Array.toList_map]
    simp only [g1, Sem.run_pure, Result.andThen_ok]
  · rename_i n e hd
    split at hp <;> try (cases hp; done)
    rename_i hnn
    obtain ⟨h1, h2⟩ := mapM_get hp
    cases hse : sizeB P e with
    | none => simp [hse] at hnn
    | some s =>
      obtain ⟨c', g1, g2⟩ := fill_sound (E := E) (fun i => some (i * s, s)) (parts.toList.map fun (i, x) => (i, a.eval x)) (ps.map fun (o, n, x) => (o, n, ev tm x)) v.cells z l (hb E) (by simp [h1])
        (fun q i' v' off n x hq1 hq2 => by
          rw [List.getElem?_map, Option.map_eq_some_iff] at hq1 hq2
          obtain ⟨⟨i₀, o₀⟩, hq1, e1⟩ := hq1
          obtain ⟨⟨off₀, n₀, x₀⟩, hq2, e2⟩ := hq2
          simp only [Prod.mk.injEq] at e1 e2
          obtain ⟨rfl, rfl⟩ := e1
          obtain ⟨rfl, rfl, rfl⟩ := e2
          have := h2 q _ _ hq1 hq2
          simp only [Option.bind_eq_bind, Option.bind_eq_some_iff, hse, Option.some.injEq] at this
          obtain ⟨s, rfl, y, hy1, hlast⟩ := this
          split at hlast <;> try (cases hlast; done)
          rename_i hne
          simp only [Option.some.injEq, Prod.mk.injEq] at hlast
          obtain ⟨rfl, rfl, rfl⟩ := hlast
          exact ⟨rfl, hne, cOpd_rel T hy1⟩) hf
      refine .keep H (u := .agg c') ?_ (agg_rel g2)
      simp [Instr.build, hzr, run_underlying hd, run_sizeOf' hse, g1]
  · cases hp

/-- Rows beside cells. -/
structure RowsRel (E : Env) (s : Nat) (rows : List (List AV)) (c : Array Value) : Prop where
  size : c.size = rows.length * s
  row : ∀ (i : Nat) row, rows[i]? = some row → row.length = s ∧ ∀ (j : Nat) x, row[j]? = some x → ∃ v, c[i * s + j]? = some v ∧ E.R x v

theorem zero_at {z : Array Value} {s n : Nat} (hz : z.size = s) {i j : Nat} (hi : i < n) (hj : j < s) :
    ((Array.range (n * s)).map (z[· % z.size]!))[i * s + j]? = z[j]? := by
  have h1 : i * s + s ≤ n * s := by rw [← Nat.succ_mul]; exact Nat.mul_le_mul_right _ hi
  have h2 : i * s + j < n * s := by omega
  have h3 : (i * s + j) % s = j := by rw [Nat.mul_comm, Nat.mul_add_mod]; exact Nat.mod_eq_of_lt hj
  rw [Array.getElem?_map, Array.getElem?_range, if_pos h2]
  simp only [Option.map_some, hz, h3]
  rw [getElem!_pos z j (by omega), Array.getElem?_eq_getElem (by omega)]

theorem RowsRel.zeros {z : List AV} {v : Value} (hb : Bes E z v.cells.toList) {s : Nat} (hs : z.length = s) (n : Nat) :
    RowsRel E s (List.replicate n z) ((Array.range (n * s)).map (v.cells[· % v.cells.size]!)) := by
  have hz : v.cells.size = s := by have := hb.1; simp at this; omega
  refine ⟨by simp, fun i row hr => ?_⟩
  rw [List.getElem?_replicate] at hr
  split at hr <;> try (cases hr; done)
  rename_i hi
  obtain rfl := Option.some.inj hr
  refine ⟨hs, fun j x hx => ?_⟩
  obtain ⟨u, hu, hR⟩ := hb.get hx
  have hj : j < z.length := (List.getElem?_eq_some_iff.1 hx).1
  exact ⟨u, by rw [zero_at hz hi (by omega)]; simpa using hu, hR⟩

theorem RowsRel.push (H : HRel E h) {s : Nat} {rows : List (List AV)} {c : Array Value} (hR : RowsRel E s rows c) (e : TypeId) {b : ABlk} (hb : rowsBlk s rows = some b) :
    b.shape = (s, rows.length) ∧ Ext E (E.push (.cells c e) (s, rows.length)) ∧ HRel (E.push (.cells c e) (s, rows.length)) (h ++ [some b]) := by
  unfold rowsBlk at hb
  split at hb
  · rename_i k l hi
    obtain rfl := Option.some.inj hb
    have key : ∀ (rows : List (List AV)) k l, intsOf rows = some (k, l) → rows.length = l.length ∧ ∀ (i : Nat) row, rows[i]? = some row → ∃ n, l[i]? = some n ∧ row = [.int k n] := by
      intro rows
      induction rows with
      | nil => intro k l h; simp [intsOf] at h
      | cons r rs ih =>
        intro k l h
        cases rs with
        | nil =>
          unfold intsOf at h
          split at h <;> try (cases h; done)
          · rename_i heq
            simp only [List.cons.injEq, and_true] at heq
            subst heq
            simp only [Option.some.injEq, Prod.mk.injEq] at h
            obtain ⟨rfl, rfl⟩ := h
            refine ⟨rfl, fun i row hr => ?_⟩
            match i, hr with
            | 0, hr => simp only [List.getElem?_cons_zero, Option.some.injEq] at hr; exact ⟨_, rfl, hr.symm⟩
          · rename_i heq
            simp only [List.cons.injEq] at heq
            obtain ⟨_, rfl⟩ := heq
            simp [intsOf] at h
        | cons r2 rs2 =>
          unfold intsOf at h
          split at h <;> try (cases h; done)
          · rename_i heq; simp at heq
          · rename_i k1 n1 rr hne heq
            simp only [List.cons.injEq] at heq
            obtain ⟨rfl, rfl⟩ := heq
            split at h <;> try (cases h; done)
            rename_i k' l' hl'
            split at h <;> try (cases h; done)
            rename_i hk
            have hk := of_decide_eq_true hk
            subst hk
            simp only [Option.some.injEq, Prod.mk.injEq] at h
            obtain ⟨rfl, rfl⟩ := h
            obtain ⟨i1, i2⟩ := ih _ _ hl'
            refine ⟨by simp at i1 ⊢; omega, fun i row hr => ?_⟩
            cases i with
            | zero => simp only [List.getElem?_cons_zero, Option.some.injEq] at hr; exact ⟨_, rfl, hr.symm⟩
            | succ i => exact i2 i row (by simpa using hr)
    obtain ⟨k1, k2⟩ := key rows k l hi
    have hs : s = 1 := by
      cases hrow : rows with
      | nil => rw [hrow] at hi; simp [intsOf] at hi
      | cons r rs =>
        obtain ⟨n, _, hr⟩ := k2 0 r (by rw [hrow]; rfl)
        have := (hR.row 0 r (by rw [hrow]; rfl)).1
        rw [hr] at this; simpa using this.symm
    subst hs
    have hsh : (ABlk.ia k l).shape = (1, rows.length) := by simp [ABlk.shape, k1]
    refine ⟨hsh, H.ext_push _ _, ?_⟩
    rw [← hsh]
    refine H.push (.ia k l) c e trivial (by rw [hsh, hR.size]; exact Nat.le_refl _) fun i j x hx => ?_
    simp only [ABlk.cell] at hx
    split at hx <;> try (cases hx; done)
    rename_i hj
    subst hj
    rw [Option.map_eq_some_iff] at hx
    obtain ⟨n, hn, rfl⟩ := hx
    have hlt : i < rows.length := by rw [k1]; exact (List.getElem?_eq_some_iff.1 hn).1
    obtain ⟨n', hn', hrow⟩ := k2 i _ (List.getElem?_eq_getElem hlt)
    rw [hn] at hn'
    obtain rfl := Option.some.inj hn'
    obtain ⟨v, hv, hRv⟩ := (hR.row i _ (List.getElem?_eq_getElem hlt)).2 0 (.int k n) (by rw [hrow]; rfl)
    exact ⟨v, by simpa [hsh] using hv, closed_nil rfl hRv⟩
  · split at hb <;> try (cases hb; done)
    rename_i hall
    obtain rfl := Option.some.inj hb
    have hsh : (ABlk.arr s rows).shape = (s, rows.length) := rfl
    refine ⟨hsh, H.ext_push _ _, ?_⟩
    rw [← hsh]
    refine H.push (.arr s rows) c e (fun i row hr => (hR.row i row hr).1) (by rw [hsh, hR.size]; exact Nat.le_refl _) fun i j x hx => ?_
    simp only [ABlk.cell, Option.bind_eq_some_iff] at hx
    obtain ⟨row, hrow, hx⟩ := hx
    obtain ⟨v, hv, hRv⟩ := (hR.row i row hrow).2 j x hx
    rw [List.all_eq_true] at hall
    have h1 := hall row (List.mem_of_getElem? hrow)
    rw [Bool.and_eq_true, List.all_eq_true] at h1
    exact ⟨v, hv, closed_nil (h1.2 x (List.mem_of_getElem? hx)) hRv⟩

/-- The value of a new slice. -/
theorem new_slice (H : HRel E h) (c : Array Value) (e : TypeId) (s n : Nat) (hsz : n * s ≤ c.size) :
    (E.push (.cells c e) (s, n)).R (.sl h.length 0 n) (.slice (some ⟨E.w.heap.size, 0, none⟩) n n) := by
  have hsl : E.S.sh.length = h.length := by rw [← H.rlen, H.len]
  refine .sl _ _ _ _ E.w.heap.size 0 _ _ ?_ (fun s' N hN => ?_) (Nat.le_refl _)
  · show (E.S.ρ ++ [(E.w.heap.size, 0)])[h.length]? = _
    rw [← H.len]; simp
  · have hN' : (E.S.sh ++ [some (s, n)])[h.length]? = some (some (s', N)) := hN
    rw [← hsl] at hN'
    simp at hN'
    obtain ⟨rfl, rfl⟩ := hN'
    refine ⟨by omega, by omega, by omega, c, e, (0, 0), ?_, by simpa using hsz⟩
    show (E.w.heap.push _)[E.w.heap.size]? = _
    simp

theorem wrap_small {n : Int} (h0 : 0 ≤ n) (h1 : n ≤ 2 ^ 46) : IntKind.i64.wrap n = n := by
  have h2 : n % 18446744073709551616 = n := by omega
  simp [IntKind.wrap, IntKind.bits, IntKind.signed, h2]
  omega

theorem op_mkslice (H : HRel E h) {t e : TypeId} (ht : P.underlying t = some (.slice e)) {s : Nat} (hs : sizeB P e = some s) {z : List AV} (hz : zeroB P e = some z) (hzl : z.length = s) (hs0 : s ≠ 0)
    {bytes : Nat} (hby : bytesB P e = some bytes) {n : Int} (hn : 0 ≤ n ∧ (bytes + 1) * n ≤ 2 ^ 46) {b : ABlk}
    (hb : (∃ k x, z = [.int k x] ∧ b = .ia k (List.replicate n.toNat x)) ∨ (z.all closed = true ∧ b = .arr s (List.replicate n.toNat z))) :
    Runs P (do pure (.value (← Instr.makeSlice t (.int .i64 n) (.int .i64 n)))) E h (.sl h.length 0 n.toNat) (.push b) := by
  obtain ⟨i, v, hi, hv, hbes, hcl⟩ := zeroB_info hz
  have hn46 : n ≤ 2 ^ 46 := by
    have : (bytes + 1 : Int) * n = bytes * n + n := by rw [Int.add_mul, Int.one_mul]
    have h2 : (0 : Int) ≤ bytes * n := Int.mul_nonneg (by omega) hn.1
    omega
  have hbn : (bytes : Int) * n ≤ 2 ^ 46 := by
    have : (bytes + 1 : Int) * n = bytes * n + n := by rw [Int.add_mul, Int.one_mul]
    omega
  have hw := wrap_small hn.1 hn46
  have hbi : i.bytes = bytes := by simpa [bytesB, hi] using hby
  have hsi : i.size = s := by simpa [sizeB, hi] using hs
  have hcells := RowsRel.zeros (hbes E) hzl n.toNat
  generalize hc : (Array.range (n.toNat * s)).map (v.cells[· % v.cells.size]!) = c at hcells
  have hrows : ∀ i j x, b.cell i j = some x → ∃ u, c[i * b.shape.1 + j]? = some u ∧ Go.AL.Rel E.w E.F (b.inner E.S) x u := by
    intro i j x hx
    rcases hb with ⟨k, x0, rfl, rfl⟩ | ⟨hall, rfl⟩
    · simp only [ABlk.cell] at hx
      split at hx <;> try (cases hx; done)
      rename_i hj
      subst hj
      rw [Option.map_eq_some_iff] at hx
      obtain ⟨m, hm, rfl⟩ := hx
      rw [List.getElem?_replicate] at hm
      split at hm <;> try (cases hm; done)
      rename_i hlt
      obtain rfl := Option.some.inj hm
      obtain ⟨u, hu, hRu⟩ := (hcells.row i [.int k x0] (by rw [List.getElem?_replicate, if_pos hlt])).2 0 _ rfl
      have hs1 : s = 1 := by simpa using hzl.symm
      subst hs1
      exact ⟨u, by simpa [ABlk.shape] using hu, closed_nil rfl hRu⟩
    · simp only [ABlk.cell, Option.bind_eq_some_iff] at hx
      obtain ⟨row, hrow, hx⟩ := hx
      obtain ⟨u, hu, hRu⟩ := (hcells.row i row hrow).2 j x hx
      rw [List.getElem?_replicate] at hrow
      split at hrow <;> try (cases hrow; done)
      obtain rfl := Option.some.inj hrow
      exact ⟨u, hu, closed_nil (List.all_eq_true.1 hall x (List.mem_of_getElem? hx)) hRu⟩
  have hsh : b.shape = (s, n.toNat) := by
    rcases hb with ⟨k, x0, rfl, rfl⟩ | ⟨hall, rfl⟩
    · simp [ABlk.shape]; simpa using hzl
    · simp [ABlk.shape]
  have hfit : b.fits := by
    rcases hb with ⟨k, x0, rfl, rfl⟩ | ⟨hall, rfl⟩
    · trivial
    · intro i row hr; rw [List.getElem?_replicate] at hr; split at hr <;> try (cases hr; done)
      obtain rfl := Option.some.inj hr; exact hzl
  have hcs : c.size = n.toNat * s := by rw [hcells.size]; simp
  have hp := H.push b c e hfit (by rw [hsh, hcs]; exact Nat.le_refl _) hrows
  rw [hsh] at hp
  refine ⟨_, .slice (some ⟨E.w.heap.size, 0, none⟩) n.toNat n.toNat, .inl ?_, H.ext_push _ _, hp, new_slice H c e s n.toNat (by rw [hcs]; exact Nat.le_refl _)⟩
  have hb48 : ¬ ((bytes : Int) * n > 2 ^ 48) := by omega
  have hzr : ∀ w, (zeroValue e).run P w = .ok v w := by intro w; simp [zeroValue, typeInfo, hi, hv]
  have hnn : ¬ n < 0 := by omega
  have hb48' : ¬ (281474976710656 < (bytes : Int) * n) := by omega
  by_cases h0 : n.toNat * s = 0
  · have hc0 : c = #[] := by apply Array.eq_empty_of_size_eq_zero; omega
    have hr0 : Array.range 0 = #[] := Array.eq_empty_of_size_eq_zero (by simp)
    simp [Instr.makeSlice, run_underlying ht, asInt, asIntOf, typeInfo, hi, hbi, hw, hnn, hb48', run_sizeOf' hs, newRow, Env.push, h0, hc0, hr0]
  · simp only [Instr.makeSlice, Sem.run_bind, run_underlying ht, Result.andThen_ok, asInt, asIntOf, Sem.run_pure, typeInfo, run_program, hi, hbi, hw]
    simp [hnn, hb48', run_sizeOf' hs, newRow, Env.push, h0, hzr, hc]

theorem fillRows_sound {s : Nat} : ∀ (parts : List (Nat × Value)) (aps : List (Nat × AV)) (c : Array Value) (rows l : List (List AV)), RowsRel E s rows c → aps.length = parts.length → s ≠ 0 →
    (∀ (q : Nat) i v i' x, parts[q]? = some (i, v) → aps[q]? = some (i', x) → i' = i ∧ E.R x v) → fillRows rows aps = some l →
    ∃ c', Instr.fill (fun i => some (i * s, s)) c parts = some c' ∧ RowsRel E s l c' ∧ l.length = rows.length
  | [], [], c, rows, l, hb, _, _, _, hf => by simp only [fillRows, Option.some.injEq] at hf; subst hf; exact ⟨c, rfl, hb, rfl⟩
  | [], _ :: _, _, _, _, _, hl, _, _, _ => by simp at hl
  | _ :: _, [], _, _, _, _, hl, _, _, _ => by simp at hl
  | (i, v) :: ps, (i', x) :: as, c, rows, l, hb, hl, hs, hp, hf => by
    obtain ⟨rfl, hR⟩ := hp 0 i v i' x rfl rfl
    simp only [fillRows, nth_eq] at hf
    split at hf <;> try (cases hf; done)
    rename_i row hrow
    split at hf <;> try (cases hf; done)
    rename_i hlen
    have e1 : x.cells.length = row.length := Nat.eq_of_beq_eq_true hlen
    have e0 := (hb.row i' row hrow).1
    have hxu : x ≠ .undef := by rintro rfl; simp [AV.cells] at e1; omega
    have hbx := cells_bes hR hxu
    have e3 : v.cells.size = s := by have := hbx.1; simp at this; omega
    have hi : i' < rows.length := (List.getElem?_eq_some_iff.1 hrow).1
    have h1 : i' * s + s ≤ rows.length * s := by rw [← Nat.succ_mul]; exact Nat.mul_le_mul_right _ hi
    obtain ⟨f1, f2⟩ := fill_step c (i' * s) v (by rw [hb.size]; omega)
    rw [lset_eq] at hf
    obtain ⟨c', g1, g2, g3⟩ := fillRows_sound ps as (v.cells.zipIdx.foldl (fun cs (c, j) => cs.setIfInBounds (i' * s + j) c) c) (rows.set i' x.cells) l
      ⟨by rw [f1, hb.size]; simp, fun q r hq => by
        rw [List.getElem?_set] at hq
        by_cases hqi : i' = q
        · subst hqi
          rw [if_pos rfl, if_pos hi] at hq
          obtain rfl := Option.some.inj hq
          refine ⟨by omega, fun j y hy => ?_⟩
          obtain ⟨u, hu, hRu⟩ := hbx.get hy
          have hj : j < x.cells.length := (List.getElem?_eq_some_iff.1 hy).1
          refine ⟨u, ?_, hRu⟩
          rw [f2, if_pos (by omega), show i' * s + j - i' * s = j by omega]
          simpa using hu
        · rw [if_neg hqi] at hq
          obtain ⟨r1, r2⟩ := hb.row q r hq
          refine ⟨r1, fun j y hy => ?_⟩
          obtain ⟨u, hu, hRu⟩ := r2 j y hy
          have hj : j < r.length := (List.getElem?_eq_some_iff.1 hy).1
          refine ⟨u, ?_, hRu⟩
          rw [f2, if_neg, hu]
          rintro ⟨a1, a2⟩
          rcases Nat.lt_trichotomy i' q with h' | h' | h'
          · have : i' * s + s ≤ q * s := by rw [← Nat.succ_mul]; exact Nat.mul_le_mul_right _ h'
            omega
          · exact hqi h'
          · have : q * s + s ≤ i' * s := by rw [← Nat.succ_mul]; exact Nat.mul_le_mul_right _ h'
            omega⟩ (by simpa using hl) hs
      (fun q i v i' x h1 h2 => hp (q + 1) i v i' x (by simpa using h1) (by simpa using h2)) hf
    refine ⟨c', ?_, g2, by simpa using g3⟩
    simp only [Instr.fill]
    rw [if_neg (by simp [e3]; rw [hb.size]; omega)]
    exact g1

theorem op_bslice_run (H : HRel E h) {t e : TypeId} (ht : P.underlying t = some (.slice e)) {s : Nat} (hs : sizeB P e = some s) {z : List AV} (hz : zeroB P e = some z) (hzl : z.length = s) (hs0 : s ≠ 0)
    {len : Nat} (hlen : len * s ≤ 2 ^ 24) {parts : Array (Nat × Operand)} {ps : List (Nat × Opd)} (hp : (parts.toList.mapM fun (i, x) => do pure (i, ← cOpd x)) = some ps)
    {tm : List (Nat × AV)} {a : Act} (T : TRel E tm a) {rows : List (List AV)} (hf : fillRows (List.replicate len z) (ps.map fun (i, x) => (i, ev tm x)) = some rows) {b : ABlk}
    (hb : rowsBlk s rows = some b ∨ (rows = [] ∧ ∃ k x, z = [.int k x] ∧ b = .ia k [])) :
    ∃ c', len * s ≤ c'.size ∧ ((do pure (.value (← Instr.buildSlice t len (parts.map fun (i, x) => (i, a.eval x)))) : Sem Next).run P E.w = .ok (.value (.slice (some ⟨E.w.heap.size, 0, none⟩) len len)) (E.push (.cells c' e) (s, len)).w) ∧
      HRel (E.push (.cells c' e) (s, len)) (h ++ [some b]) := by
  obtain ⟨i, v, hi, hv, hbes, _⟩ := zeroB_info hz
  have hzr : ∀ w, (zeroValue e).run P w = .ok v w := by intro w; simp [zeroValue, typeInfo, hi, hv]
  obtain ⟨h1, h2⟩ := mapM_get hp
  obtain ⟨c', g1, g2, g3⟩ := fillRows_sound (E := E) (s := s) (parts.toList.map fun (i, x) => (i, a.eval x)) (ps.map fun (i, x) => (i, ev tm x)) _ _ rows (RowsRel.zeros (hbes E) hzl len) (by simp [h1]) hs0
    (fun q i v i' x hq1 hq2 => by
      rw [List.getElem?_map, Option.map_eq_some_iff] at hq1 hq2
      obtain ⟨⟨i₀, o₀⟩, hq1, e1⟩ := hq1
      obtain ⟨⟨i₁, x₀⟩, hq2, e2⟩ := hq2
      simp only [Prod.mk.injEq] at e1 e2
      obtain ⟨rfl, rfl⟩ := e1
      obtain ⟨rfl, rfl⟩ := e2
      have := h2 q _ _ hq1 hq2
      simp only [Option.bind_eq_bind, Option.bind_eq_some_iff, Option.pure_def, Option.some.injEq, Prod.mk.injEq] at this
      obtain ⟨y, hy, rfl, rfl⟩ := this
      exact ⟨rfl, cOpd_rel T hy⟩) hf
  have hrl : rows.length = len := by rw [g3]; simp
  have hpush : b.shape = (s, len) ∧ HRel (E.push (.cells c' e) (s, len)) (h ++ [some b]) := by
    rcases hb with hb | ⟨rfl, k, x, rfl, rfl⟩
    · obtain ⟨q1, q2, q3⟩ := g2.push H e hb
      rw [hrl] at q1 q3
      exact ⟨q1, q3⟩
    · have hs1 : s = 1 := by simpa using hzl.symm
      have hl0 : len = 0 := by simpa using hrl.symm
      subst hs1 hl0
      exact ⟨rfl, H.push (.ia k []) c' e trivial (by simp [ABlk.shape]) (fun i j x hx => by simp [ABlk.cell] at hx)⟩
  refine ⟨c', by rw [g2.size, hrl]; exact Nat.le_refl _, ?_, hpush.2⟩
  have hlim : ¬ (16777216 < len * s) := by omega
  by_cases h0 : len * s = 0
  · have hl0 : len = 0 := (Nat.mul_eq_zero.1 h0).resolve_right hs0
    have hr0 : Array.range 0 = #[] := Array.eq_empty_of_size_eq_zero (by simp)
    subst hl0
    have hps : parts.toList = [] := by
      cases hpl : parts.toList with
      | nil => rfl
      | cons x xs =>
        exfalso
        rw [hpl] at h1 hp
        cases ps with
        | nil => simp at h1
        | cons y ys => simp [fillRows, nth] at hf
    have hpe : parts = #[] := by cases parts; simpa using hps
    subst hpe
    have hc0 : c' = #[] := by apply Array.eq_empty_of_size_eq_zero; rw [g2.size, hrl]; omega
    subst hc0
    simp [Instr.buildSlice, run_underlying ht, run_sizeOf' hs, Instr.fill, newRow, Env.push, hr0]
  · simp only [Instr.buildSlice, Sem.run_bind, run_underlying ht, Result.andThen_ok, run_sizeOf' hs, Array.toList_map]
    simp [hlim, h0, hzr, g1, newRow, Env.push]

theorem op_bslice (H : HRel E h) {t e : TypeId} (ht : P.underlying t = some (.slice e)) {s : Nat} (hs : sizeB P e = some s) {z : List AV} (hz : zeroB P e = some z) (hzl : z.length = s) (hs0 : s ≠ 0)
    {len : Nat} (hlen : len * s ≤ 2 ^ 24) {parts : Array (Nat × Operand)} {ps : List (Nat × Opd)} (hp : (parts.toList.mapM fun (i, x) => do pure (i, ← cOpd x)) = some ps)
    {tm : List (Nat × AV)} {a : Act} (T : TRel E tm a) {rows : List (List AV)} (hf : fillRows (List.replicate len z) (ps.map fun (i, x) => (i, ev tm x)) = some rows) {b : ABlk}
    (hb : rowsBlk s rows = some b ∨ (rows = [] ∧ ∃ k x, z = [.int k x] ∧ b = .ia k [])) :
    Runs P (do pure (.value (← Instr.buildSlice t len (parts.map fun (i, x) => (i, a.eval x))))) E h (.sl h.length 0 len) (.push b) := by
  obtain ⟨c', h1, h2, h3⟩ := op_bslice_run (P := P) H ht hs hz hzl hs0 hlen hp T hf hb
  exact ⟨_, .slice (some ⟨E.w.heap.size, 0, none⟩) len len, .inl h2, H.ext_push _ _, h3, new_slice H c' e s len h1⟩

/-- A new block that is read alone from now on. -/
def Env.jfrz (E : Env) (o : Obj) : Env := { w := E.w.alloc o, F := fun b => E.F b ∨ b = E.w.heap.size, S := E.S }

theorem HRel.ext_jfrz (H : HRel E h) (o : Obj) : Ext E (E.jfrz o) :=
  { H.ext_junk o with frz := fun b hb => .inl hb, nfrz := fun b hb => hb.imp id fun he => .inr (by rw [he]; exact Nat.le_refl _) }

theorem HRel.jfrz (H : HRel E h) (o : Obj) : HRel (E.jfrz o) h where
  sh := H.sh
  len := H.len
  blk k b hk := by
    obtain ⟨h0, cb, base, c, e, h1, h2, h3, h4, h5⟩ := (H.junk o).blk k b hk
    refine ⟨h0, cb, base, c, e, h1, h2, ?_, h4, fun i j x hx => ?_⟩
    · rintro (hF | he)
      · exact h3 hF
      · have := H.own_lt (H.own_of hk h1); omega
    · obtain ⟨v, hv, hR⟩ := h5 i j x hx
      exact ⟨v, hv, Rel.mono (F := E.F) (fun b h => .inl h) (fun _ _ _ => rfl) hR _ (fun _ _ h => h) (fun _ _ _ _ h => h) fun b c e f h => ⟨c, e, f, h, rfl⟩⟩
  inj := H.inj
  frz b hb := by
    have hs : (E.w.alloc o).heap.size = E.w.heap.size + 1 := by simp
    show b < (E.w.alloc o).heap.size
    rw [hs]
    rcases hb with hb | hb
    · have := H.frz b hb; omega
    · omega

theorem op_bfrz (H : HRel E h) {t e : TypeId} (ht : P.underlying t = some (.slice e)) {s : Nat} (hs : sizeB P e = some s) {z : List AV} (hz : zeroB P e = some z) (hzl : z.length = s) (hs0 : s ≠ 0)
    {len : Nat} (hlen : len * s ≤ 2 ^ 24) {parts : Array (Nat × Operand)} {ps : List (Nat × Opd)} (hp : (parts.toList.mapM fun (i, x) => do pure (i, ← cOpd x)) = some ps)
    {tm : List (Nat × AV)} {a : Act} (T : TRel E tm a) {rows : List (List AV)} (hf : fillRows (List.replicate len z) (ps.map fun (i, x) => (i, ev tm x)) = some rows) {b : ABlk}
    (hb : rowsBlk s rows = some b) {v : AV} (hv : (∃ k l, b = .ia k l ∧ v = .ri k l) ∨ ∃ s' l, b = .arr s' l ∧ v = .ro s' l) :
    Runs P (do pure (.value (← Instr.buildSlice t len (parts.map fun (i, x) => (i, a.eval x))))) E h v .keep := by
  obtain ⟨c', h1, h2, h3⟩ := op_bslice_run (P := P) H ht hs hz hzl hs0 hlen hp T hf (.inl hb)
  have h4 : (E.push (.cells c' e) (s, len)).w = (E.jfrz (.cells c' e)).w := rfl
  rw [h4] at h2
  refine ⟨_, _, .inl h2, H.ext_jfrz _, H.jfrz _, ?_⟩
  obtain ⟨f0, cb, base, c, e2, r1, r2, r3, r4, r5⟩ := h3.blk h.length b (by simp)
  have hr : (E.S.ρ ++ [(E.w.heap.size, 0)])[h.length]? = some (cb, base) := r1
  rw [← H.len] at hr
  simp at hr
  obtain ⟨rfl, rfl⟩ := hr
  have hc2 : (E.jfrz (.cells c' e)).w.heap[E.w.heap.size]? = some (.cells c e2 (0, 0)) := r2
  have hnew : (E.jfrz (.cells c' e)).w.heap[E.w.heap.size]? = some (.cells c' e (0, 0)) := World.alloc_heap_new E.w _
  have hln : len = b.shape.2 := by
    have := h3.sh
    have h5 : (E.S.sh ++ [some (s, len)]) = (h ++ [some b]).map (·.map ABlk.shape) := this
    rw [List.map_append, ← H.sh] at h5
    have h6 := List.append_cancel_left h5
    simp at h6
    rw [← h6]
  have mono : ∀ {x : AV} {u : Value} {S : Shp}, Go.AL.Rel (E.push (.cells c' e) (s, len)).w (E.push (.cells c' e) (s, len)).F S x u → Go.AL.Rel (E.jfrz (.cells c' e)).w (E.jfrz (.cells c' e)).F S x u := fun h =>
    Rel.mono (fun b h => .inl h) (fun _ _ _ => rfl) h _ (fun _ _ h => h) (fun _ _ _ _ h => h) fun b c e f h => ⟨c, e, f, h, rfl⟩
  rcases hv with ⟨k, l, rfl, rfl⟩ | ⟨s', l, rfl, rfl⟩
  · refine .ri _ _ _ _ _ _ hln (Nat.le_refl _) (fun i x hx => ?_) (by simp)
    obtain ⟨u, hu, hR⟩ := r5 i 0 (.int k x) (by simp [ABlk.cell, hx])
    have := rel_int (E := E.push (.cells c' e) (s, len)) (hR.nil_to _)
    subst this
    refine ⟨_, _, rfl, .inr rfl, ?_⟩
    simp only [ABlk.shape] at hu
    simp only [World.cell?, hc2]
    simpa using hu
  · refine .ro _ _ _ _ _ _ (fun i j => (c[i * s' + j]?).getD undef) hln (Nat.le_refl _) (fun i row hrow => ⟨f0 i row hrow, _, _, rfl, .inr rfl, fun j x hx => ?_⟩) (fun i j row x hrow hx => ?_) (by simp)
    · obtain ⟨u, hu, hR⟩ := r5 i j x (by simp [ABlk.cell, hrow, hx])
      simp only [ABlk.shape] at hu
      simp only [World.cell?, hc2]
      have hu : c[i * s' + j]? = some u := by simpa using hu
      simp [hu]
    · obtain ⟨u, hu, hR⟩ := r5 i j x (by simp [ABlk.cell, hrow, hx])
      simp only [ABlk.shape] at hu
      have hu : c[i * s' + j]? = some u := by simpa using hu
      rw [hu]
      exact mono hR

theorem op_bslice0 (H : HRel E h) {t e : TypeId} (ht : P.underlying t = some (.slice e)) {s : Nat} (hs : sizeB P e = some s) :
    Runs P (do pure (.value (← Instr.buildSlice t 0 #[]))) E h .semp .keep := by
  refine ⟨E.junk (.cells #[] e), .slice (some ⟨E.w.heap.size, 0, none⟩) 0 0, .inl ?_, H.ext_junk _, H.junk _, .semp ..⟩
  have hr0 : Array.range 0 = #[] := Array.eq_empty_of_size_eq_zero (by simp)
  simp [Instr.buildSlice, run_underlying ht, run_sizeOf' hs, Instr.fill, newRow, Env.junk, hr0]

end Go.AL
