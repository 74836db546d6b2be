/- Every operation that calls nothing. Seat-independent. -/
import Derived.Test.YtamgmfinkgdkjaaDoorAL11
namespace Go.AL
variable {E : Env} {h : AHeap} {P : Program}

theorem bnd_sound {tm : List (Nat × AV)} {a : Act} (T : TRel E tm a) {lo : Option Operand} {lo' : Option Opd} (hc : cOO lo = some lo') {d l : Int}
    (hb : bnd tm lo' d = some l) : lo.map a.eval = none ∧ l = d ∨ ∃ k, lo.map a.eval = some (.int k l) := by
  cases lo with
  | none =>
    simp only [cOO, Option.some.injEq] at hc
    subst hc
    simp only [bnd, Option.some.injEq] at hb
    exact .inl ⟨rfl, hb.symm⟩
  | some o =>
    simp only [cOO, Option.map_eq_some_iff] at hc
    obtain ⟨y, hy, rfl⟩ := hc
    have hr := cOpd_rel T hy
    simp only [bnd] at hb
    split at hb <;> try (cases hb; done)
    rename_i k n he
    obtain rfl := Option.some.inj hb
    rw [he] at hr
    exact .inr ⟨k, by simp only [Option.map_some]; rw [rel_int hr]⟩

theorem rel_fnptr {x : AV} (hk : (match x with | .bp .. | .ep .. | .rp .. | .fn .. => true | _ => false) = true) : x ≠ .undef := by rintro rfl; cases hk

theorem ia_cell_app {k : IntKind} {xs ys : List Int} {i n : Nat} (hin : i + n = xs.length) {i' j' : Nat} {x : AV} (hx : (ABlk.ia k (xs.drop i ++ ys)).cell i' j' = some x) :
    j' < 1 ∧ ((i' < n ∧ (ABlk.ia k xs).cell (i + i') j' = some x) ∨ (n ≤ i' ∧ i' < n + ys.length ∧ (Rows.ints k ys).cell (i' - n) j' = some x)) := by
  simp only [ABlk.cell] at hx ⊢
  split at hx <;> try (cases hx; done)
  rename_i hj
  subst hj
  refine ⟨by omega, ?_⟩
  rw [Option.map_eq_some_iff] at hx
  obtain ⟨m, hm, rfl⟩ := hx
  have hl : (xs.drop i).length = n := by simp; omega
  rw [List.getElem?_append] at hm
  split at hm
  · left
    rw [List.getElem?_drop] at hm
    exact ⟨by omega, by simp [hm]⟩
  · right
    rw [hl] at hm
    have := (List.getElem?_eq_some_iff.1 hm).1
    exact ⟨by omega, by omega, by simp [Rows.cell, hm]⟩

theorem arr_cell_app {s : Nat} {xs ys : List (List AV)} {i n : Nat} (hin : i + n = xs.length) (hrow : ∀ (q : Nat) r, xs[q]? = some r → r.length = s) (hrow' : ∀ (q : Nat) r, ys[q]? = some r → r.length = s)
    {i' j' : Nat} {x : AV} (hx : (ABlk.arr s (xs.drop i ++ ys)).cell i' j' = some x) :
    j' < s ∧ ((i' < n ∧ (ABlk.arr s xs).cell (i + i') j' = some x) ∨ (n ≤ i' ∧ i' < n + ys.length ∧ (Rows.rows ys).cell (i' - n) j' = some x)) := by
  simp only [ABlk.cell, Option.bind_eq_some_iff] at hx ⊢
  obtain ⟨r, hr, hx⟩ := hx
  have hl : (xs.drop i).length = n := by simp; omega
  have hj := (List.getElem?_eq_some_iff.1 hx).1
  rw [List.getElem?_append] at hr
  split at hr
  · rw [List.getElem?_drop] at hr
    have := hrow _ r hr
    exact ⟨by omega, .inl ⟨by omega, r, hr, hx⟩⟩
  · rw [hl] at hr
    have := hrow' _ r hr
    have h2 := (List.getElem?_eq_some_iff.1 hr).1
    exact ⟨by omega, .inr ⟨by omega, by omega, by simp [Rows.cell, hr, hx]⟩⟩

theorem Src.rows_len {s : Nat} (_hs : s ≠ 0) {l : List (List AV)} {vy : Value} {ys : List Value} (S : Src E s (.rows l) vy ys) {q : Nat} {r : List AV} (hr : l[q]? = some r) : r.length ≤ s := by
  rcases Nat.lt_or_ge s r.length with h | h
  · have hx : (Rows.rows l).cell q s = some r[s] := by simp [Rows.cell, hr, h]
    have := (S.cell q s _ hx).1
    omega
  · exact h

theorem src_rows {s : Nat} {y : AV} {vy : Value} (H : HRel E h) (hy : E.R y vy) {l : List (List AV)} (hr : srcV h s y = .rows l) : ∀ (q : Nat) r, l[q]? = some r → r.length = s := by
  intro q r hq
  cases y <;> simp only [srcV] at hr <;> try (cases hr; done)
  · rename_i b i n
    rw [nth_eq] at hr
    split at hr
    · split at hr <;> cases hr
    · rename_i s' rows hb
      split at hr <;> try (cases hr; done)
      rename_i hs1
      have hs1 := Nat.eq_of_beq_eq_true hs1
      subst hs1
      obtain rfl := Rows.rows.inj hr
      rw [List.getElem?_take] at hq
      split at hq <;> try (cases hq; done)
      rw [List.getElem?_drop] at hq
      exact (H.blk _ _ hb).1 _ r hq
    · cases hr
  · split at hr <;> cases hr
  · rename_i s' rows
    split at hr <;> try (cases hr; done)
    rename_i hs1
    have hs1 := Nat.eq_of_beq_eq_true hs1
    subst hs1
    obtain rfl := Rows.rows.inj hr
    obtain ⟨a, cap, vs, rfl, h2, h3, h4, h5⟩ := rel_ro hy
    exact (h3 q r hq).1

theorem src_one {s : Nat} {r : Rows} {vy : Value} {ys : List Value} (S : Src E s r vy ys) (hl : ∀ i j x, r.cell i j = some x → leaf x = true) : ∀ v ∈ ys, v.oneCell' = true := by
  intro v hv
  obtain ⟨q, hq, rfl⟩ := List.getElem_of_mem hv
  obtain ⟨i, j, x, _, rfl, hx⟩ := S.cov q hq
  obtain ⟨_, u, hu, hR⟩ := S.cell i j x hx
  rw [List.getElem?_eq_getElem hq] at hu
  obtain rfl := Option.some.inj hu
  exact leaf_one (hl i j x hx) hR

theorem ints_leaf {k : IntKind} {xs : List Int} : ∀ i j x, (Rows.ints k xs).cell i j = some x → leaf x = true := by
  intro i j x hx
  simp only [Rows.cell] at hx
  split at hx <;> try (cases hx; done)
  rw [Option.map_eq_some_iff] at hx
  obtain ⟨m, _, rfl⟩ := hx
  rfl

theorem rows_leaf {l : List (List AV)} (h : l.all (fun r => r.all closed) = true) : ∀ i j x, (Rows.rows l).cell i j = some x → leaf x = true := by
  intro i j x hx
  simp only [Rows.cell, Option.bind_eq_some_iff] at hx
  obtain ⟨r, hr, hx⟩ := hx
  rw [List.all_eq_true] at h
  have h1 := h r (List.mem_of_getElem? hr)
  rw [List.all_eq_true] at h1
  exact closed_leaf (h1 x (List.mem_of_getElem? hx))

/-- The source is empty. -/
def emptyV : AV → Bool
  | .snil | .semp => true
  | _ => false

theorem src_empty {y : AV} {vy : Value} (hy : E.R y vy) (he : emptyV y = true) : ∃ a, vy = .slice a 0 0 := by
  cases hy <;> simp [emptyV] at he
  · exact ⟨none, rfl⟩
  · exact ⟨some _, rfl⟩

theorem src_cases {h : AHeap} {s : Nat} {y : AV} (he : emptyV y = true) : srcV h s y = .none := by
  cases y <;> simp [emptyV] at he <;> rfl

theorem op_append_0 (H : HRel E h) {t e ty : TypeId} {s bytes : Nat} {z : List AV} (T : AppT P t e s bytes z) {xe ye : AV} {vx vy : Value} (hx : E.R xe vx) (hvx : ∃ a, vx = .slice a 0 0) (hy : E.R ye vy)
    {v : AV} {f : Eff} (ha : (match srcV h s ye with
        | .ints k ys => match ys with
          | [] => some (true, xe, Eff.keep)
          | y :: ys => some (decide ((bytes + 1) * (ys.length + 1) ≤ 2 ^ 46), .sl h.length 0 (ys.length + 1), .push (.ia k (y :: ys)))
        | .rows ys => match ys with
          | [] => some (true, xe, .keep)
          | y :: ys => some (decide ((bytes + 1) * (ys.length + 1) ≤ 2 ^ 46) && (y :: ys).all (fun r => r.all closed), .sl h.length 0 (ys.length + 1), .push (.arr s (y :: ys)))
        | .none => none) = some (true, v, f)) :
    Runs P (do pure (.value (← Builtin.append_ #[t, t] ty #[vx, vy]))) E h v f := by
  have empty : ∀ r, srcV h s ye = r → r ≠ .none → r.len = 0 → Runs P (do pure (.value (← Builtin.append_ #[t, t] ty #[vx, vy]))) E h xe .keep := by
    intro r hr hne h0
    obtain ⟨ys, S⟩ := src_sound H T.hs0 hy hr hne
    obtain ⟨⟨a, cap, rfl, hat, hnone⟩, hlen, _⟩ := S
    have hys : ys = [] := List.eq_nil_of_length_eq_zero (by rw [hlen, h0]; simp)
    subst hys
    rw [h0]
    refine .keep H (u := vx) ?_ hx
    obtain ⟨a', rfl⟩ := hvx
    cases a <;> cases a' <;> simp [Builtin.append_, run_underlying T.ht, run_sizeOf' T.hs, Builtin.lenOf, Builtin.firstCells, loadCells, loadCellsFrom, storeCells]
  generalize hsrc : srcV h s ye = r at *
  cases r with
  | none => cases ha
  | ints k ys =>
    cases ys with
    | nil =>
      simp only [Option.some.injEq, Prod.mk.injEq, true_and] at ha
      obtain ⟨rfl, rfl⟩ := ha
      exact empty _ rfl (by simp) rfl
    | cons y0 ys =>
      simp only [Option.some.injEq, Prod.mk.injEq, decide_eq_true_eq] at ha
      obtain ⟨hb, rfl, rfl⟩ := ha
      obtain ⟨vs, S⟩ := src_sound H T.hs0 hy hsrc (by simp)
      refine op_append_nil H T S (by simp [Rows.len]) (by simpa [Rows.len] using hb) hvx (b := .ia k (y0 :: ys)) ?_ trivial (fun _ => rfl) (fun i j x hx => by simpa [ABlk.cell, Rows.cell] using hx)
      have hs1 : s = 1 := by
        have := (S.cell 0 0 (.int k y0) (by simp [Rows.cell])).1
        rcases Nat.lt_or_ge 1 s with h1 | h1
        · exfalso
          have hq : (1 : Nat) < vs.length := by rw [S.len]; simp only [Rows.len, List.length_cons]; have : 1 * s ≤ (ys.length + 1) * s := Nat.mul_le_mul_right _ (by omega); omega
          obtain ⟨i, j, x, _, e1, e2⟩ := S.cov 1 hq
          simp only [Rows.cell] at e2
          split at e2 <;> try (cases e2; done)
          rename_i hj
          subst hj
          have : i = 0 ∨ s ≤ i * s := by
            rcases Nat.eq_zero_or_pos i with h0 | h0
            · exact .inl h0
            · right; have := Nat.mul_le_mul_right s h0; omega
          rcases this with h0 | h0
          · subst h0; omega
          · omega
        · omega
      subst hs1
      simp [ABlk.shape, Rows.len]
  | rows ys =>
    cases ys with
    | nil =>
      simp only [Option.some.injEq, Prod.mk.injEq, true_and] at ha
      obtain ⟨rfl, rfl⟩ := ha
      exact empty _ rfl (by simp) rfl
    | cons y0 ys =>
      simp only [Option.some.injEq, Prod.mk.injEq, Bool.and_eq_true, decide_eq_true_eq] at ha
      obtain ⟨⟨hb, hall⟩, rfl, rfl⟩ := ha
      obtain ⟨vs, S⟩ := src_sound H T.hs0 hy hsrc (by simp)
      exact op_append_nil H T S (by simp [Rows.len]) (by simpa [Rows.len] using hb) hvx (b := .arr s (y0 :: ys)) (by simp [ABlk.shape, Rows.len]) (src_rows H hy hsrc) (fun _ => rfl) (fun i j x hx => by simpa [ABlk.cell, Rows.cell] using hx)

theorem op_append (H : HRel E h) {t e ty : TypeId} {s bytes : Nat} {z : List AV} (T : AppT P t e s bytes z) {tm : List (Nat × AV)} {x y : Opd} {vx vy : Value} (hx : E.R (ev tm x) vx) (hy : E.R (ev tm y) vy)
    {v : AV} {f : Eff} (ha : aop tm h h.length (.append bytes s x y) = some (true, v, f)) :
    Runs P (do pure (.value (← Builtin.append_ #[t, t] ty #[vx, vy]))) E h v f := by
  simp only [aop] at ha
  generalize hxe : ev tm x = xe at *
  generalize hye : ev tm y = ye at *
  have e0 : ∀ {xe : AV} {vx : Value} {a' : Option Addr}, vx = .slice a' 0 0 → E.R xe vx → emptyV ye = true → some (true, xe, Eff.keep) = some (true, v, f) →
      Runs P (do pure (.value (← Builtin.append_ #[t, t] ty #[vx, vy]))) E h v f := by
    intro xe vx a' hvx hx hye ha
    simp only [Option.some.injEq, Prod.mk.injEq, true_and] at ha
    obtain ⟨rfl, rfl⟩ := ha
    obtain ⟨a, rfl⟩ := src_empty hy hye
    subst hvx
    refine .keep H (u := .slice a' 0 0) ?_ hx
    cases a <;> cases a' <;> simp [Builtin.append_, run_underlying T.ht, run_sizeOf' T.hs, Builtin.lenOf, Builtin.firstCells, loadCells, loadCellsFrom, storeCells]
  cases xe <;> simp only [] at ha <;> try (cases ha; done)
  · have hvx : vx = .slice none 0 0 := by cases hx; rfl
    cases ye <;> first | exact e0 hvx hx rfl ha | exact op_append_0 H T hx ⟨_, hvx⟩ hy ha
  · have hvx : ∃ a, vx = .slice a 0 0 := by cases hx; exact ⟨_, rfl⟩
    obtain ⟨a, hvx⟩ := hvx
    cases ye <;> first | exact e0 hvx hx rfl ha | exact op_append_0 H T hx ⟨_, hvx⟩ hy ha
  · rename_i b i n
    by_cases hys : emptyV ye = true
    · have ha : some (true, AV.sl b i n, Eff.keep) = some (true, v, f) := by
        cases ye <;> first | exact ha | simp [emptyV] at hys
      simp only [Option.some.injEq, Prod.mk.injEq, true_and] at ha
      obtain ⟨rfl, rfl⟩ := ha
      obtain ⟨ay, rfl⟩ := src_empty hy hys
      have hx' := hx
      obtain ⟨cb, base, off, cap, rfl, h1, h3, h2⟩ := rel_sl hx
      refine .keep H (u := .slice (some ⟨cb, off, none⟩) n cap) ?_ hx'
      cases ay <;> simp [Builtin.append_, run_underlying T.ht, run_sizeOf' T.hs, Builtin.lenOf, Builtin.firstCells, h2, storeCells, loadCells, loadCellsFrom]
    · have ha' : (match nth h b, srcV h s ye with
        | some (some (.ia k' xs)), .ints k ys => match sameKind k' k with
          | true => some (decide (i + n = xs.length ∧ (bytes + 1) * (n + ys.length) ≤ 2 ^ 46), AV.sl h.length 0 (n + ys.length), Eff.move b (.ia k' (xs.drop i ++ ys)))
          | false => none
        | some (some (.arr s' rows)), .rows ys => match Nat.beq s' s with
          | true => some (decide (i + n = rows.length ∧ (bytes + 1) * (n + ys.length) ≤ 2 ^ 46) && ys.all (fun r => r.all closed), .sl h.length 0 (n + ys.length), .move b (.arr s' (rows.drop i ++ ys)))
          | false => none
        | _, _ => none) = some (true, v, f) := by
        cases ye <;> first | exact absurd rfl hys | exact ha
      clear ha
      rw [nth_eq] at ha'
      generalize hsrc : srcV h s ye = r at *
      split at ha' <;> try (cases ha'; done)
      · rename_i k' xs k ys hk
        split at ha' <;> try (cases ha'; done)
        rename_i hkk
        obtain rfl := sameKind_eq hkk
        simp only [Option.some.injEq, Prod.mk.injEq, decide_eq_true_eq] at ha'
        obtain ⟨⟨hin, hb⟩, rfl, rfl⟩ := ha'
        obtain ⟨vs, S⟩ := src_sound H T.hs0 hy hsrc (by simp)
        have hs1 : s = 1 := by
          cases ye <;> simp only [srcV] at hsrc <;> try (cases hsrc; done)
          · rw [nth_eq] at hsrc
            split at hsrc
            · split at hsrc <;> try (cases hsrc; done)
              exact Nat.eq_of_beq_eq_true ‹_›
            · split at hsrc <;> cases hsrc
            · cases hsrc
          · split at hsrc <;> try (cases hsrc; done)
            exact Nat.eq_of_beq_eq_true ‹_›
          · split at hsrc <;> cases hsrc
        subst hs1
        have hxl : (xs.drop i).length = n := by simp; omega
        refine op_append_sl H T hx hk rfl S hb ⟨by simp [ABlk.shape, Rows.len, hxl], trivial, rfl, fun _ => rfl, S.len, src_one S ints_leaf, by simpa [ABlk.shape] using hin, fun i' j' x hc => ?_⟩
        obtain ⟨c1, c2⟩ := ia_cell_app hin hc
        refine ⟨by simpa [ABlk.shape] using c1, c2.imp id fun ⟨d1, d2, d3⟩ => ⟨d1, d2, ?_⟩⟩
        exact (S.cell _ _ x d3).2
      · rename_i s' rows ys hk
        split at ha' <;> try (cases ha'; done)
        rename_i hss
        have hss := Nat.eq_of_beq_eq_true hss
        subst hss
        simp only [Option.some.injEq, Prod.mk.injEq, Bool.and_eq_true, decide_eq_true_eq] at ha'
        obtain ⟨⟨⟨hin, hb⟩, hall⟩, rfl, rfl⟩ := ha'
        obtain ⟨vs, S⟩ := src_sound H T.hs0 hy hsrc (by simp)
        have hfit := (H.blk _ _ hk).1
        have hrl := src_rows H hy hsrc
        have hxl : (rows.drop i).length = n := by simp; omega
        refine op_append_sl H T hx hk rfl S hb ⟨by simp [ABlk.shape, Rows.len, hxl], fun q r hq => ?_, rfl, fun _ => rfl, S.len, src_one S (rows_leaf hall), by simpa [ABlk.shape] using hin, fun i' j' x hc => ?_⟩
        · rw [List.getElem?_append] at hq
          split at hq
          · rw [List.getElem?_drop] at hq; exact hfit _ r hq
          · exact hrl _ r hq
        · obtain ⟨c1, c2⟩ := arr_cell_app hin hfit hrl hc
          exact ⟨c1, c2.imp id fun ⟨d1, d2, d3⟩ => ⟨d1, d2, (S.cell _ _ x d3).2⟩⟩

end Go.AL
