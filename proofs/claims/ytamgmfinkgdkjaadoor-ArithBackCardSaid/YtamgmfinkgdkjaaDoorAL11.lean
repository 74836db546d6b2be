/- Appending. Seat-independent. -/
import Derived.Test.YtamgmfinkgdkjaaDoorAL10
namespace Go.AL
variable {E : Env} {h : AHeap} {P : Program}

def Rows.len : Rows → Nat
  | .ints _ xs => xs.length
  | .rows l => l.length
  | .none => 0

def Rows.cell : Rows → Nat → Nat → Option AV
  | .ints k xs, i, j => if j = 0 then (xs[i]?).map (.int k) else Option.none
  | .rows l, i, j => (l[i]?).bind (·[j]?)
  | .none, _, _ => Option.none

/-- What a source's cells are. -/
structure Src (E : Env) (s : Nat) (r : Rows) (vy : Value) (ys : List Value) : Prop where
  form : ∃ a cap, vy = .slice a r.len cap ∧ (∀ ad, a = some ad → At E.w ad ys) ∧ (a = none → r.len = 0)
  len : ys.length = r.len * s
  cell : ∀ i j x, r.cell i j = some x → j < s ∧ ∃ v, ys[i * s + j]? = some v ∧ Go.AL.Rel E.w E.F .nil x v
  cov : ∀ q : Nat, q < ys.length → ∃ i j x, i < r.len ∧ q = i * s + j ∧ r.cell i j = some x

theorem div_split {q n s : Nat} (hs : s ≠ 0) (h : q < n * s) : q / s < n ∧ q = q / s * s + q % s ∧ q % s < s := by
  refine ⟨(Nat.div_lt_iff_lt_mul (by omega)).2 h, ?_, Nat.mod_lt _ (by omega)⟩
  rw [Nat.mul_comm]; exact (Nat.div_add_mod q s).symm

theorem Src.of_cells {s : Nat} (hs : s ≠ 0) {r : Rows} {a : Option Addr} {cap : Nat} (f : Nat → Value) (hrow : ∀ i, i < r.len → ∀ j, j < s → (r.cell i j).isSome) (hj : ∀ i j x, r.cell i j = some x → i < r.len ∧ j < s)
    (hf : ∀ i j x, r.cell i j = some x → (∃ cb off, a = some ⟨cb, off, none⟩ ∧ E.w.cell? ⟨cb, off + i * s + j, none⟩ = some (f (i * s + j))) ∧ Go.AL.Rel E.w E.F .nil x (f (i * s + j)))
    (hn : a = none → r.len = 0) : Src E s r (.slice a r.len cap) ((List.range (r.len * s)).map f) := by
  have get : ∀ q, q < r.len * s → ((List.range (r.len * s)).map f)[q]? = some (f q) := by
    intro q hq; rw [List.getElem?_map, List.getElem?_range hq]; rfl
  refine ⟨⟨a, cap, rfl, fun ad ha q v hq => ?_, hn⟩, by simp, fun i j x hx => ?_, fun q hq => ?_⟩
  · have hlt : q < r.len * s := by have := (List.getElem?_eq_some_iff.1 hq).1; simpa using this
    rw [get q hlt] at hq
    obtain rfl := Option.some.inj hq
    obtain ⟨d1, d2, d3⟩ := div_split hs hlt
    obtain ⟨x, hx⟩ := Option.isSome_iff_exists.1 (hrow (q / s) d1 (q % s) d3)
    obtain ⟨⟨cb, off, e1, e2⟩, _⟩ := hf _ _ x hx
    rw [ha] at e1
    obtain rfl := Option.some.inj e1
    rw [add_plain]
    rw [← d2] at e2
    rw [← e2]; congr 2; omega
  · obtain ⟨h1, h2⟩ := hj i j x hx
    refine ⟨h2, f (i * s + j), get _ ?_, (hf i j x hx).2⟩
    have : i * s + s ≤ r.len * s := by rw [← Nat.succ_mul]; exact Nat.mul_le_mul_right _ h1
    omega
  · have hlt : q < r.len * s := by simpa using hq
    obtain ⟨d1, d2, d3⟩ := div_split hs hlt
    obtain ⟨x, hx⟩ := Option.isSome_iff_exists.1 (hrow (q / s) d1 (q % s) d3)
    exact ⟨_, _, x, d1, d2, hx⟩

theorem src_sound (H : HRel E h) {s : Nat} (hs : s ≠ 0) {y : AV} {vy : Value} (hy : E.R y vy) {r : Rows} (hr : srcV h s y = r) (hne : r ≠ .none) : ∃ ys, Src E s r vy ys := by
  cases y <;> simp only [srcV] at hr <;> try (exact absurd hr.symm hne)
  · rename_i b i n
    obtain ⟨cb, base, off, cap, rfl, h1, h3, h2⟩ := rel_sl hy
    rw [nth_eq] at hr
    split at hr
    · rename_i k xs hb
      split at hr <;> try (exact absurd hr.symm hne)
      rename_i hs1
      have hs1 := Nat.eq_of_beq_eq_true hs1
      subst hs1 hr
      obtain ⟨g1, g2, g3, c, ee, f, g4, g5⟩ := h3 _ _ (H.live.2 ⟨_, hb, rfl⟩)
      obtain ⟨_, cb', base', c', e', b1, b2, b3, b4, b5⟩ := H.blk _ _ hb
      rw [h1] at b1
      obtain ⟨rfl, rfl⟩ := Prod.mk.inj (Option.some.inj b1)
      simp only [ABlk.shape] at g1 g2 g3 g5 b4 b5
      have hlen : Rows.len (.ints k ((xs.drop i).take n)) = n := by simp [Rows.len]; omega
      have S := Src.of_cells (E := E) (r := .ints k ((xs.drop i).take n)) (a := some ⟨cb, off, none⟩) (cap := cap) hs (fun q => .int k (xs.getD (i + q) 0))
        (fun q hq j hj => by
          rw [hlen] at hq
          have : j = 0 := by omega
          subst this
          simp only [Rows.cell, if_true]
          rw [List.getElem?_take, if_pos hq, List.getElem?_drop, List.getElem?_eq_getElem (by omega)]; rfl)
        (fun q j x hx => by
          simp only [Rows.cell] at hx
          split at hx <;> try (cases hx; done)
          rename_i hj
          rw [Option.map_eq_some_iff] at hx
          obtain ⟨m, hm, _⟩ := hx
          exact ⟨(List.getElem?_eq_some_iff.1 hm).1, by omega⟩)
        (fun q j x hx => by
          simp only [Rows.cell] at hx
          split at hx <;> try (cases hx; done)
          rename_i hj
          subst hj
          rw [Option.map_eq_some_iff] at hx
          obtain ⟨m, hm, rfl⟩ := hx
          rw [List.getElem?_take] at hm
          split at hm <;> try (cases hm; done)
          rename_i hqn
          rw [List.getElem?_drop] at hm
          have e0 : xs.getD (i + (q * 1 + 0)) 0 = m := by simp [List.getD, hm]
          rw [e0]
          obtain ⟨u, hu1, hu2⟩ := b5 (i + q) 0 (.int k m) (by simp [ABlk.cell, hm])
          have hu2' := hu2
          cases hu2'
          refine ⟨⟨cb, off, rfl, ?_⟩, .int ..⟩
          rw [g1.resolve_left (by omega)]
          simp only [World.cell?, b2, Option.isSome_none, Bool.false_eq_true, if_false]
          rw [← hu1]; congr 1; omega)
        (by simp)
      rw [hlen] at S
      exact ⟨_, S⟩
    · rename_i s' rows hb
      split at hr <;> try (exact absurd hr.symm hne)
      rename_i hs1
      have hs1 := Nat.eq_of_beq_eq_true hs1
      subst hs1 hr
      obtain ⟨g1, g2, g3, c, ee, f, g4, g5⟩ := h3 _ _ (H.live.2 ⟨_, hb, rfl⟩)
      obtain ⟨b0, cb', base', c', e', b1, b2, b3, b4, b5⟩ := H.blk _ _ hb
      rw [h1] at b1
      obtain ⟨rfl, rfl⟩ := Prod.mk.inj (Option.some.inj b1)
      simp only [ABlk.shape] at g1 g2 g3 g5 b4 b5
      have hlen : Rows.len (.rows ((rows.drop i).take n)) = n := by simp [Rows.len]; omega
      have row : ∀ q, q < n → ∃ l, ((rows.drop i).take n)[q]? = some l ∧ rows[i + q]? = some l ∧ l.length = s' := by
        intro q hq
        refine ⟨rows[i + q]'(by omega), ?_, List.getElem?_eq_getElem _, b0 (i + q) _ (List.getElem?_eq_getElem _)⟩
        rw [List.getElem?_take, if_pos hq, List.getElem?_drop, List.getElem?_eq_getElem]
      have S := Src.of_cells (E := E) (r := .rows ((rows.drop i).take n)) (a := some ⟨cb, off, none⟩) (cap := cap) hs (fun q => (c'[base + i * s' + q]?).getD undef)
        (fun q hq j hj => by
          rw [hlen] at hq
          obtain ⟨l, e1, e2, e3⟩ := row q hq
          simp only [Rows.cell, e1, Option.bind_some]
          rw [List.getElem?_eq_getElem (by omega)]; rfl)
        (fun q j x hx => by
          simp only [Rows.cell, Option.bind_eq_some_iff] at hx
          obtain ⟨l, e1, e2⟩ := hx
          have hq : q < n := by have := (List.getElem?_eq_some_iff.1 e1).1; simp at this; omega
          obtain ⟨l', f1, f2, f3⟩ := row q hq
          rw [e1] at f1
          obtain rfl := Option.some.inj f1
          exact ⟨by rw [hlen]; exact hq, by have := (List.getElem?_eq_some_iff.1 e2).1; omega⟩)
        (fun q j x hx => by
          simp only [Rows.cell, Option.bind_eq_some_iff] at hx
          obtain ⟨l, e1, e2⟩ := hx
          have hq : q < n := by have := (List.getElem?_eq_some_iff.1 e1).1; simp at this; omega
          obtain ⟨l', f1, f2, f3⟩ := row q hq
          rw [e1] at f1
          obtain rfl := Option.some.inj f1
          obtain ⟨u, hu1, hu2⟩ := b5 (i + q) j x (by simp [ABlk.cell, f2, e2])
          have e3 : base + i * s' + (q * s' + j) = base + (i + q) * s' + j := by rw [Nat.add_mul]; omega
          simp only [e3, hu1, Option.getD_some]
          refine ⟨⟨cb, off, rfl, ?_⟩, hu2⟩
          rw [g1.resolve_left (by omega)]
          simp only [World.cell?, b2, Option.isSome_none, Bool.false_eq_true, if_false]
          rw [← hu1]; congr 1; rw [Nat.add_mul]; omega)
        (by simp)
      rw [hlen] at S
      exact ⟨_, S⟩
    · exact absurd hr.symm hne
  · rename_i k xs
    split at hr <;> try (exact absurd hr.symm hne)
    rename_i hs1
    have hs1 := Nat.eq_of_beq_eq_true hs1
    subst hs1 hr
    obtain ⟨a, cap, rfl, h2, h3, h4⟩ := rel_ri hy
    exact ⟨_, Src.of_cells (E := E) (r := .ints k xs) (a := a) (cap := cap) hs (fun q => .int k (xs.getD q 0))
      (fun q hq j hj => by
        have : j = 0 := by omega
        subst this
        simp only [Rows.cell, if_true]
        rw [List.getElem?_eq_getElem (show q < xs.length from hq)]; rfl)
      (fun q j x hx => by
        simp only [Rows.cell] at hx
        split at hx <;> try (cases hx; done)
        rw [Option.map_eq_some_iff] at hx
        obtain ⟨m, hm, _⟩ := hx
        exact ⟨(List.getElem?_eq_some_iff.1 hm).1, by omega⟩)
      (fun q j x hx => by
        simp only [Rows.cell] at hx
        split at hx <;> try (cases hx; done)
        rename_i hj
        subst hj
        rw [Option.map_eq_some_iff] at hx
        obtain ⟨m, hm, rfl⟩ := hx
        obtain ⟨cb, off, e1, _, e2⟩ := h3 q m hm
        have e0 : xs.getD (q * 1 + 0) 0 = m := by simp [List.getD, hm]
        rw [e0]
        exact ⟨⟨cb, off, e1, by rw [← e2]; congr 2; omega⟩, .int ..⟩)
      (fun ha => by have := h4 ha; show xs.length = 0; omega)⟩
  · rename_i s' rows
    split at hr <;> try (exact absurd hr.symm hne)
    rename_i hs1
    have hs1 := Nat.eq_of_beq_eq_true hs1
    subst hs1 hr
    obtain ⟨a, cap, vs, rfl, h2, h3, h4, h5⟩ := rel_ro hy
    exact ⟨_, Src.of_cells (E := E) (r := .rows rows) (a := a) (cap := cap) hs (fun q => vs (q / s') (q % s'))
      (fun q hq j hj => by
        have hq : q < rows.length := hq
        have := (h3 q _ (List.getElem?_eq_getElem hq)).1
        simp only [Rows.cell, List.getElem?_eq_getElem hq, Option.bind_some]
        rw [List.getElem?_eq_getElem (by omega)]; rfl)
      (fun q j x hx => by
        simp only [Rows.cell, Option.bind_eq_some_iff] at hx
        obtain ⟨l, e1, e2⟩ := hx
        have := (h3 q l e1).1
        exact ⟨(List.getElem?_eq_some_iff.1 e1).1, by have := (List.getElem?_eq_some_iff.1 e2).1; omega⟩)
      (fun q j x hx => by
        simp only [Rows.cell, Option.bind_eq_some_iff] at hx
        obtain ⟨l, e1, e2⟩ := hx
        obtain ⟨g1, cb, off, g2, _, g3⟩ := h3 q l e1
        have hj : j < s' := by have := (List.getElem?_eq_some_iff.1 e2).1; omega
        have d1 : (q * s' + j) / s' = q := by rw [Nat.mul_comm, Nat.mul_add_div (by omega)]; rw [Nat.div_eq_of_lt hj]; omega
        have d2 : (q * s' + j) % s' = j := by rw [Nat.mul_comm, Nat.mul_add_mod]; exact Nat.mod_eq_of_lt hj
        simp only [d1, d2]
        exact ⟨⟨cb, off, g2, g3 j x e2⟩, h4 q j l x e1 e2⟩)
      (fun ha => by have := h5 ha; show rows.length = 0; omega)⟩

theorem new_slice_cap (H : HRel E h) (c : Array Value) (e : TypeId) (s n cap : Nat) (hsz : cap * s ≤ c.size) (hn : n ≤ cap) :
    (E.push (.cells c e) (s, n)).R (.sl h.length 0 n) (.slice (some ⟨E.w.heap.size, 0, none⟩) n cap) := by
  have hsl : E.S.sh.length = h.length := by rw [← H.rlen, H.len]
  refine .sl _ _ _ _ E.w.heap.size 0 _ _ ?_ (fun s' N hN => ?_) hn
  · show (E.S.ρ ++ [(E.w.heap.size, 0)])[h.length]? = _
    rw [← H.len]; simp
  · have hN' : (E.S.sh ++ [some (s, n)])[h.length]? = some (some (s', N)) := hN
    rw [← hsl] at hN'
    simp at hN'
    obtain ⟨rfl, rfl⟩ := hN'
    refine ⟨by omega, by omega, by omega, c, e, (0, 0), ?_, by simpa using hsz⟩
    show (E.w.heap.push _)[E.w.heap.size]? = _
    simp

theorem rel_drew {w : World} {F S x v} (h : Rel w F S x v) : Rel w.drew F S x v :=
  Rel.mono (w := w) (F := F) (w' := w.drew) (F' := F) (fun _ h => h) (fun _ _ _ => rfl) h S (fun _ _ h => h) (fun _ _ _ _ h => h) fun _b c e f h => ⟨c, e, f, h, rfl⟩

structure AppT (P : Program) (t e : TypeId) (s bytes : Nat) (z : List AV) : Prop where
  ht : P.underlying t = some (.slice e)
  hs : sizeB P e = some s
  hz : zeroB P e = some z
  hzl : z.length = s
  hs0 : s ≠ 0
  hby : bytesB P e = some bytes

theorem big46 {bytes n : Nat} (h : (bytes + 1) * n ≤ 2 ^ 46) : n ≤ 2 ^ 46 ∧ n * bytes ≤ 2 ^ 46 := by
  have : (bytes + 1) * n = n * bytes + n := by rw [Nat.add_mul, Nat.one_mul, Nat.mul_comm]
  omega

theorem op_append_nil (H : HRel E h) {t e ty : TypeId} {s bytes : Nat} {z : List AV} (T : AppT P t e s bytes z) {vy : Value} {r : Rows} {ys : List Value} (S : Src E s r vy ys) (hpos : r.len ≠ 0)
    (hb : (bytes + 1) * r.len ≤ 2 ^ 46) {vx : Value} (hvx : ∃ a', vx = .slice a' 0 0) {b : ABlk} (hsh : b.shape = (s, r.len)) (hfit : b.fits) (hin : ∀ S', b.inner S' = .nil) (hcell : ∀ i j x, b.cell i j = some x → r.cell i j = some x) :
    Runs P (do pure (.value (← Builtin.append_ #[t, t] ty #[vx, vy]))) E h (.sl h.length 0 r.len) (.push b) := by
  obtain ⟨i, v, hi, hv, hbes, _⟩ := zeroB_info T.hz
  obtain ⟨⟨a, cap, rfl, hat, hnone⟩, hlen, hc, _⟩ := S
  obtain ⟨b1, b2⟩ := big46 hb
  cases a with
  | none => exact absurd (hnone rfl) hpos
  | some ad =>
    have hbi : i.bytes = bytes := by simpa [bytesB, hi] using T.hby
    have hsi : i.size = s := by simpa [sizeB, hi] using T.hs
    have hz : v.cells.size = s := by have := (hbes E).1; simp at this; have := T.hzl; omega
    have hrun : (Builtin.append_ #[t, t] ty #[vx, .slice (some ad) r.len cap]).run P E.w = .ok (.slice (some ⟨E.w.heap.size, 0, none⟩) r.len (grownCap E.w r.len 0 e))
        (E.w.drew.alloc (.cells (ys.toArray ++ Builtin.zeroCells v.cells (grownCap E.w r.len 0 e - r.len)) e)) := by
      obtain ⟨a', rfl⟩ := hvx
      cases a' with
      | none => exact run_append_nil (P := P) E.w t ty e i v T.ht hi hv ad r.len cap ys (by rw [hsi]; exact hlen) (hat ad rfl) (by omega) (by omega) (by rw [hbi]; omega)
      | some a' =>
        have := run_append_grow (P := P) E.w t ty e i v T.ht hi hv a' 0 0 [] (by simp) (by simp) ad r.len cap ys (by rw [hsi]; exact hlen) (hat ad rfl) (by omega) (by omega)
          (by rw [hbi]; exact growslice_fits (by omega) (by rw [Nat.zero_add]; omega))
        simpa using this
    have hge := grownCap_ge E.w r.len 0 e
    generalize grownCap E.w r.len 0 e = gc at hrun hge
    generalize hcc : (ys.toArray ++ Builtin.zeroCells v.cells (gc - r.len)) = c at hrun
    have hcsz : c.size = gc * s := by
      rw [← hcc]; simp only [Array.size_append, List.size_toArray, size_zeroCells, hz, hlen, ← Nat.add_mul]; congr 1; omega
    have hle : r.len * s ≤ gc * s := Nat.mul_le_mul_right _ hge
    have Hd := H.drew
    have Hp := Hd.push b c e hfit (by rw [hsh, hcsz]; exact hle) (fun i j x hx => by
      obtain ⟨hj, u, hu, hR⟩ := hc i j x (hcell i j x hx)
      have hlt := (List.getElem?_eq_some_iff.1 hu).1
      rw [hin, hsh]
      refine ⟨u, ?_, rel_drew hR⟩
      rw [← hcc, Array.getElem?_append_left (by simpa using hlt)]
      simpa using hu)
    rw [hsh] at Hp
    refine ⟨_, .slice (some ⟨E.w.heap.size, 0, none⟩) r.len gc, .inl ?_, H.ext_drew.trans (Hd.ext_push _ _), Hp, new_slice_cap Hd c e s r.len gc (by rw [hcsz]; exact Nat.le_refl _) hge⟩
    simp only [Sem.run_bind, hrun, Result.andThen_ok, Sem.run_pure]
    rfl

theorem run_append_in {t e ty : TypeId} {s : Nat} (ht : P.underlying t = some (.slice e)) (hs : sizeB P e = some s) {w w' : World} {ad : Addr} {sLen sCap m c : Nat} {a : Option Addr} {ys : List Value}
    (hlen : ys.length = m * s) (hat : ∀ ad, a = some ad → At w ad ys) (hnone : a = none → m = 0) (hroom : sLen + m ≤ sCap) (hst : (storeCells (ad.add (sLen * s)) ys 0).run P w = .ok () w') :
    (Builtin.append_ #[t, t] ty #[.slice (some ad) sLen sCap, .slice a m c]).run P w = .ok (.slice (some ad) (sLen + m) sCap) w' := by
  have hf : (Builtin.firstCells s m (.slice a m c)).run P w = .ok ys.toArray w := by
    cases a with
    | none =>
      have := hnone rfl
      subst this
      have : ys = [] := List.eq_nil_of_length_eq_zero (by omega)
      subst this
      simp [Builtin.firstCells]
    | some b => exact run_firstCells_some w s m b m c ys hlen (hat b rfl)
  simp only [Builtin.append_]
  simp [run_underlying ht, run_sizeOf' hs, Builtin.lenOf, hroom, hf, hst]

theorem op_append_sl (H : HRel E h) {t e ty : TypeId} {s bytes : Nat} {z : List AV} (T : AppT P t e s bytes z) {k i n : Nat} {vx : Value} (hx : E.R (.sl k i n) vx) {b b' : ABlk} (hk : h[k]? = some (some b))
    (hbs : b.shape.1 = s) {vy : Value} {r : Rows} {ys : List Value} (S : Src E s r vy ys) (hb : (bytes + 1) * (n + r.len) ≤ 2 ^ 46) (G : Grows E b b' i n r.len ys) :
    Runs P (do pure (.value (← Builtin.append_ #[t, t] ty #[vx, vy]))) E h (.sl h.length 0 (n + r.len)) (.move k b') := by
  obtain ⟨ti, v, hi, hv, hbes, _⟩ := zeroB_info T.hz
  obtain ⟨⟨a, capy, rfl, hat, hnone⟩, hlen, hc, _⟩ := S
  obtain ⟨b1, b2⟩ := big46 hb
  have hbi : ti.bytes = bytes := by simpa [bytesB, hi] using T.hby
  have hsi : ti.size = s := by simpa [sizeB, hi] using T.hs
  have hz : v.cells.size = s := by have := (hbes E).1; simp at this; have := T.hzl; omega
  obtain ⟨cb, base, off, cap, rfl, h1, h3, h2⟩ := rel_sl hx
  obtain ⟨g1, g2, g3, c, ee, f, g4, g5⟩ := h3 _ _ (H.live.2 ⟨b, hk, rfl⟩)
  by_cases hroom : n + r.len ≤ cap
  · obtain ⟨E', w1, w2, w3, w4⟩ := grow_in P H hk h1 G ⟨c, ee, f, g4, g5⟩ hroom g1
    rw [hbs] at w1
    refine ⟨E', _, .inl ?_, w2, w3, w4⟩
    have hrun := run_append_in (P := P) (ty := ty) T.ht T.hs (w := E.w) (w' := E'.w) (ad := ⟨cb, off, none⟩) (sLen := n) (sCap := cap) (c := capy) hlen hat hnone hroom (by rw [add_plain]; exact w1)
    simp only [Sem.run_bind, hrun, Result.andThen_ok, Sem.run_pure]
  · cases a with
    | none => have := hnone rfl; omega
    | some ad =>
      have hge := grownCap_ge E.w (n + r.len) cap e
      obtain ⟨os, o1, o2, E', o3, o4, o5, o6⟩ := grow_new P H hk h1 G (Builtin.zeroCells v.cells (grownCap E.w (n + r.len) cap e - (n + r.len))).toList e (cap := grownCap E.w (n + r.len) cap e)
        (by simp only [Array.length_toList, size_zeroCells, hz, hbs, ← Nat.add_mul]; congr 1; omega) hge
      have o2' : At E.w ⟨cb, off, none⟩ os := by
        rcases g1 with g1 | g1
        · have : n = 0 := by omega
          subst this
          have : os = [] := List.eq_nil_of_length_eq_zero (by omega)
          subst this
          intro j v hv; simp at hv
        · rw [g1]; exact o2
      have hrun := run_append_grow (P := P) E.w t ty e ti v T.ht hi hv ⟨cb, off, none⟩ n cap os (by rw [hsi, ← hbs]; exact o1) o2' ad r.len capy ys (by rw [hsi]; exact hlen) (hat ad rfl) (by omega) (by omega)
        (by rw [hbi]; exact growslice_fits (by omega) (by omega))
      refine ⟨E', _, .inl ?_, o4, o5, o6⟩
      simp only [Sem.run_bind, hrun, Result.andThen_ok, Sem.run_pure, o3]
      congr 4
      simp

end Go.AL
