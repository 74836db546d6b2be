/- Equality of values of a flat type. Seat-independent. -/
import Derived.Test.YtdjnndcdplgojaaAL10
import Derived.ChangeKeysEq
import Derived.Laws.StructEq
import Derived.Laws.Cover3
import Derived.Laws.Pointers
namespace Go.AL
variable {E : Env} {h : AHeap} {P : Program}

theorem eqAll_append {xs ys : List AV} : ∀ {l1 l2 : List (Nat × Nat)} {b : Bool}, eqAll xs ys (l1 ++ l2) = some b → ∃ b1 b2, eqAll xs ys l1 = some b1 ∧ eqAll xs ys l2 = some b2 ∧ b = (b1 && b2)
  | [], l2, b, h => ⟨true, b, rfl, h, by simp⟩
  | (o, k) :: r, l2, b, h => by
    simp only [List.cons_append, eqAll] at h
    split at h <;> try (cases h; done)
    rename_i u v hu hv
    split at h <;> try (cases h; done)
    rename_i e he
    split at h <;> try (cases h; done)
    rename_i q hq
    obtain rfl := Option.some.inj h
    obtain ⟨b1, b2, h1, h2, rfl⟩ := eqAll_append hq
    exact ⟨e && b1, b2, by simp only [eqAll, hu, hv, he, h1], h2, by rw [Bool.and_assoc]⟩

theorem eqAll_part {xs ys : List AV} {o s : Nat} : ∀ {l : List (Nat × Nat)} {b : Bool}, l.all (fun x => Nat.blt x.1 s) = true → eqAll xs ys (l.map fun x => (o + x.1, x.2)) = some b → eqAll ((xs.drop o).take s) ((ys.drop o).take s) l = some b
  | [], b, _, h => h
  | (q, k) :: r, b, hl, h => by
    simp only [List.all_cons, Bool.and_eq_true] at hl
    have hq : q < s := by simpa [Nat.blt_eq] using hl.1
    simp only [List.map_cons, eqAll] at h
    split at h <;> try (cases h; done)
    rename_i u v hu hv
    split at h <;> try (cases h; done)
    rename_i e he
    split at h <;> try (cases h; done)
    rename_i b' hb
    have ih := eqAll_part (o := o) hl.2 hb
    have get : ∀ {l : List AV} {u : AV}, nth l (o + q) = some u → nth ((l.drop o).take s) q = some u := by
      intro l u hu
      rw [nth_eq] at hu ⊢
      rw [List.getElem?_take, if_pos hq, List.getElem?_drop]; exact hu
    simp only [eqAll, get hu, get hv, he, ih]
    exact h

theorem bes_extract {xs : List AV} {vs : Array Value} (hb : Bes E xs vs.toList) (o s : Nat) : Bes E ((xs.drop o).take s) (vs.extract o (o + s)).toList := by
  have h1 := hb.1
  simp at h1
  refine ⟨by simp; omega, fun q x v hx hv => ?_⟩
  rw [List.getElem?_take] at hx
  split at hx <;> try (cases hx; done)
  rw [List.getElem?_drop] at hx
  refine hb.2 (o + q) x v hx ?_
  simp only [Array.toList_extract, List.extract_eq_take_drop, List.getElem?_take, List.getElem?_drop] at hv
  split at hv
  · exact hv
  · cases hv

/-- A value of a flat type, with its cells. -/
def Whole (P : Program) (E : Env) (t : TypeId) (xs : List AV) (v : Value) : Prop :=
  (isAggB P t = some true ∧ ∃ vs : Array Value, v = .agg vs ∧ Bes E xs vs.toList) ∨ (isAggB P t = some false ∧ ∃ x, nth xs 0 = some x ∧ E.R x v)

theorem whole_part {t : TypeId} {s : Nat} (hs : sizeB P t = some s) {xs : List AV} {vs : Array Value} (hb : Bes E xs vs.toList) {o : Nat} (hg : ∃ g, isAggB P t = some g) (h0 : isAggB P t = some false → ∃ x, nth ((xs.drop o).take s) 0 = some x) (w : World) :
    ∃ u, (Go.part t vs o).run P w = .ok u w ∧ Whole P E t ((xs.drop o).take s) u := by
  obtain ⟨g, hg⟩ := hg
  cases g with
  | true => exact ⟨_, run_partN hg hs w, .inl ⟨hg, _, rfl, bes_extract hb o s⟩⟩
  | false =>
    obtain ⟨x, hx⟩ := h0 hg
    have hx0 := hx
    rw [nth_eq, List.getElem?_take] at hx
    split at hx <;> try (cases hx; done)
    rw [List.getElem?_drop, Nat.add_zero] at hx
    have hl : o < vs.size := by have := (List.getElem?_eq_some_iff.1 hx).1; have := hb.1; simp at this; omega
    exact ⟨vs[o], run_part1 hg (by simp [hl]) w, .inr ⟨hg, x, hx0, hb.2 o x _ hx (by simp [hl])⟩⟩

theorem leaf_first {d : Nat} {t : TypeId} {l : List (Nat × Nat)} (hl : leafOffs P d t = some l) : (∃ g, isAggB P t = some g) ∧ (isAggB P t = some false → ∃ k, l = [(0, k)]) := by
  cases d with
  | zero => cases hl
  | succ d =>
    simp only [leafOffs] at hl
    unfold isAggB
    split at hl
    · rename_i hu; rw [hu]; exact ⟨⟨_, rfl⟩, fun _ => ⟨0, (Option.some.inj hl).symm⟩⟩
    · rename_i hu; rw [hu]; exact ⟨⟨_, rfl⟩, fun _ => ⟨1, (Option.some.inj hl).symm⟩⟩
    · rename_i hu; rw [hu]; exact ⟨⟨_, rfl⟩, fun _ => ⟨2, (Option.some.inj hl).symm⟩⟩
    · rename_i hu; rw [hu]; exact ⟨⟨_, rfl⟩, fun h => by cases h⟩
    · rename_i hu; rw [hu]; exact ⟨⟨_, rfl⟩, fun h => by cases h⟩
    · cases hl

/-- Fields and items alike. -/
def eqStep (d : Nat) (us vs : Array Value) : List (Nat × TypeId × Bool) → Sem Bool
  | [] => pure true
  | (o, t, sk) :: r => if sk = true then eqStep d us vs r else do
      let a ← Go.part t us o
      let c ← Go.part t vs o
      let q ← Op.equalIn d t a c
      if (!q) = true then pure false else eqStep d us vs r

theorem eqFields_step (d : Nat) (us vs : Array Value) : ∀ fs : List Field, Op.eqFields d us vs fs = eqStep d us vs (fs.map fun f => (f.offset, f.type, f.name == "_"))
  | [] => rfl
  | f :: r => by
    simp only [Op.eqFields, List.map_cons, eqStep, eqFields_step d us vs r]
    by_cases h : f.name = "_"
    · simp [h]
    · simp [h]

theorem eqItems_step (d : Nat) (e : TypeId) (c : Nat) (us vs : Array Value) : ∀ is : List Nat, Op.eqItems d e c us vs is = eqStep d us vs (is.map fun i => (i * c, e, false))
  | [] => rfl
  | i :: r => by
    simp only [Op.eqItems, List.map_cons, eqStep, eqItems_step d e c us vs r]
    simp

set_option maxHeartbeats 800000 in
theorem equal_sound (w : World) : ∀ (d : Nat) (t : TypeId) (l : List (Nat × Nat)), leafOffs P d t = some l → ∀ (D : Nat) (xs ys : List AV) (u v : Value) (b : Bool), d ≤ D → Whole P E t xs u → Whole P E t ys v → eqAll xs ys l = some b →
    (Op.equalIn D t u v).run P w = .ok b w
  | 0, t, l, hl => by cases hl
  | d + 1, t, l, hl => by
    intro D xs ys u v b hD hx hy hb
    obtain ⟨D, rfl⟩ : ∃ D', D = D' + 1 := ⟨D - 1, by omega⟩
    have ih := equal_sound w d
    simp only [leafOffs] at hl
    have leaf : ∀ k, l = [(0, k)] → isAggB P t = some false → ∃ a c e, E.R a u ∧ E.R c v ∧ eqLeaf k a c = some e ∧ b = e := by
      rintro k rfl hg
      rcases hx with ⟨h1, _⟩ | ⟨_, a, ha, hRa⟩
      · rw [hg] at h1; cases h1
      rcases hy with ⟨h1, _⟩ | ⟨_, c, hc, hRc⟩
      · rw [hg] at h1; cases h1
      simp only [eqAll, ha, hc] at hb
      split at hb <;> try (cases hb; done)
      rename_i e he
      exact ⟨a, c, e, hRa, hRc, he, by simpa using (Option.some.inj hb).symm⟩
    have fields : ∀ (fs : List (Nat × TypeId × Bool)) (l : List (Nat × Nat)) (b : Bool) (us vs : Array Value), leafOffs.offsOf (leafOffs P d) (sizeB P) fs = some l → Bes E xs us.toList → Bes E ys vs.toList → eqAll xs ys l = some b →
        (eqStep D us vs fs).run P w = .ok b w := by
      intro fs
      induction fs with
      | nil =>
        intro l b us vs hl _ _ hb
        simp only [leafOffs.offsOf, Option.some.injEq] at hl
        subst hl
        simp only [eqAll, Option.some.injEq] at hb
        subst hb
        simp [eqStep]
      | cons f r ihf =>
        obtain ⟨o, t', sk⟩ := f
        intro l b us vs hl hbu hbv hb
        simp only [leafOffs.offsOf] at hl
        split at hl <;> try (cases hl; done)
        rename_i q hq
        rw [eqStep]
        cases sk with
        | true =>
          simp only [Option.some.injEq] at hl
          subst hl
          rw [if_pos rfl]
          exact ihf q b us vs hq hbu hbv hb
        | false =>
          simp only at hl
          split at hl <;> try (cases hl; done)
          rename_i l' s hl' hs
          split at hl <;> try (cases hl; done)
          rename_i hall
          obtain rfl := Option.some.inj hl
          obtain ⟨b1, b2, e1, e2, rfl⟩ := eqAll_append hb
          have e1' := eqAll_part hall e1
          obtain ⟨hg, hgf⟩ := leaf_first hl'
          have h0 : isAggB P t' = some false → (∃ x, nth ((xs.drop o).take s) 0 = some x) ∧ ∃ x, nth ((ys.drop o).take s) 0 = some x := by
            intro hf
            obtain ⟨k, rfl⟩ := hgf hf
            simp only [eqAll] at e1'
            split at e1' <;> try (cases e1'; done)
            rename_i x y hx hy
            exact ⟨⟨x, hx⟩, ⟨y, hy⟩⟩
          obtain ⟨u1, p1, w1⟩ := whole_part (P := P) hs hbu hg (fun h => (h0 h).1) w
          obtain ⟨u2, p2, w2⟩ := whole_part (P := P) hs hbv hg (fun h => (h0 h).2) w
          have he := ih t' l' hl' D _ _ u1 u2 b1 (by omega) w1 w2 e1'
          rw [if_neg (by simp)]
          simp only [Sem.run_bind, p1, p2, he, Result.andThen_ok]
          cases b1 with
          | false => simp
          | true =>
            simp only [Bool.not_true, Bool.false_eq_true, if_false, Bool.true_and]
            exact ihf q b2 us vs hq hbu hbv e2
    have two : isAggB P t = some true → ∃ us vs : Array Value, u = .agg us ∧ v = .agg vs ∧ Bes E xs us.toList ∧ Bes E ys vs.toList := by
      intro hg
      rcases hx with ⟨_, us, rfl, hbu⟩ | ⟨h1, _⟩
      rotate_left
      · rw [hg] at h1; cases h1
      rcases hy with ⟨_, vs, rfl, hbv⟩ | ⟨h1, _⟩
      rotate_left
      · rw [hg] at h1; cases h1
      exact ⟨us, vs, rfl, rfl, hbu, hbv⟩
    split at hl
    · rename_i hu
      obtain ⟨a, c, e, h1, h2, h3, rfl⟩ := leaf 0 (Option.some.inj hl).symm (by simp [isAggB, hu])
      replace h3 : eqFlat 0 a c = some _ := h3
      cases a <;> cases c <;> simp only [eqFlat, Option.some.injEq, reduceCtorEq] at h3
      subst h3
      rw [rel_bool h1, rel_bool h2]
      exact run_equalIn_bool w D t _ _ hu
    · rename_i k hu
      obtain ⟨a, c, e, h1, h2, h3, rfl⟩ := leaf 1 (Option.some.inj hl).symm (by simp [isAggB, hu])
      replace h3 : eqFlat 1 a c = some _ := h3
      cases a <;> cases c <;> simp only [eqFlat, reduceCtorEq] at h3
      split at h3 <;> try (cases h3; done)
      rename_i hk
      obtain rfl := sameKind_eq hk
      obtain rfl := Option.some.inj h3
      rw [rel_int h1, rel_int h2]
      exact run_equalIn_int w D t _ _ _ _ hu
    · rename_i hu
      obtain ⟨a, c, e, h1, h2, h3, rfl⟩ := leaf 2 (Option.some.inj hl).symm (by simp [isAggB, hu])
      replace h3 : eqFlat 2 a c = some _ := h3
      cases a <;> cases c <;> simp only [eqFlat, Option.some.injEq, reduceCtorEq] at h3
      subst h3
      rw [rel_str h1, rel_str h2]
      rw [run_equalIn_string w D t _ _ hu, ← beq_toListBytes]
    · rename_i fs hu
      split at hl <;> try (cases hl; done)
      rename_i hst
      obtain ⟨us, vs, rfl, rfl, hbu, hbv⟩ := two (by simp [isAggB, hu])
      have hf : P.fieldsOf t = fs := by simp [Program.fieldsOf, hu]
      rw [run_equalIn_struct w D t us vs (by rw [hf]; exact hu) hst, hf, eqFields_step]
      exact fields _ l b us vs hl hbu hbv hb
    · rename_i n e hu
      split at hl <;> try (cases hl; done)
      rename_i s _ hs
      obtain ⟨us, vs, rfl, rfl, hbu, hbv⟩ := two (by simp [isAggB, hu])
      unfold sizeB at hs
      rw [Option.map_eq_some_iff] at hs
      obtain ⟨i, hi, hs⟩ := hs
      have hc : P.cellsOf e = s := by simp [Program.cellsOf, hi, hs]
      rw [run_equalIn_array w D us vs hu hi, eqItems_step, hc]
      exact fields _ l b us vs hl hbu hbv hb
    · cases hl

theorem eq_fin {op : BinOp} {t : TypeId} {neg : Bool} (hop : op = if neg = true then .neq else .eql) {x y : Operand} {b : Bool} (w : World) (u v : Value) (g1 : (eqGuard op t x y u v).run P w = .ok () w)
    (g2 : Go.binOp .eql t u v = do pure (.bool (← Op.equal t u v))) (g3 : Go.binOp .neq t u v = do pure (.bool (!(← Op.equal t u v)))) (g4 : (Op.equal t u v).run P w = .ok b w) :
    ((do pure (.value (← (do eqGuard op t x y u v; Go.binOp op t u v))) : Sem Next).run P w) = .ok (.value (.bool (if neg = true then !b else b))) w := by
  subst hop
  cases neg with
  | true =>
    simp only [if_true] at g1 ⊢
    simp only [Sem.run_bind, g1, Result.andThen_ok, g3, g4, Sem.run_pure]
  | false =>
    simp only [Bool.false_eq_true, if_false] at g1 ⊢
    simp only [Sem.run_bind, g1, Result.andThen_ok, g2, g4, Sem.run_pure]

theorem op_eq1 (H : HRel E h) {op : BinOp} {t : TypeId} {neg : Bool} (hop : op = if neg = true then .neq else .eql) {k : Nat} {x y : Operand} (ho : eqPlan P t y = some (.one k)) {a : Act} {xa ya : AV} (hx : E.R xa (a.eval x)) (hy : E.R ya (a.eval y)) {b : Bool}
    (hb : eqLeaf k xa ya = some b) :
    Runs P (do pure (.value (← (do eqGuard op t x y (a.eval x) (a.eval y); Go.binOp op t (a.eval x) (a.eval y))))) E h (.bool (if neg = true then !b else b)) .keep := by
  refine .keep H (u := .bool (if neg = true then !b else b)) ?_ (.bool ..)
  unfold eqPlan at ho
  split at ho
  · rename_i hu
    obtain rfl : 0 = k := by simpa using ho
    replace hb : eqFlat 0 xa ya = some b := hb
    cases xa <;> cases ya <;> simp only [eqFlat, Option.some.injEq, reduceCtorEq] at hb
    subst hb
    rw [rel_bool hx, rel_bool hy]
    refine eq_fin hop E.w _ _ ?_ (by simp only [Go.binOp]) (by simp only [Go.binOp]) (run_equalIn_bool E.w 9999 t _ _ hu)
    unfold eqGuard
    simp only [Sem.run_ite, Sem.run_pure]
    split <;> simp
  · rename_i hu
    obtain rfl : 2 = k := by simpa using ho
    replace hb : eqFlat 2 xa ya = some b := hb
    cases xa <;> cases ya <;> simp only [eqFlat, Option.some.injEq, reduceCtorEq] at hb
    rename_i s s'
    subst hb
    rw [rel_str hx, rel_str hy]
    have hg : (eqGuard op t x y (.string s) (.string s')).run P E.w = .ok () E.w := by
      unfold eqGuard
      simp only [Sem.run_ite, Sem.run_pure]
      split <;> simp
    subst hop
    cases neg with
    | true =>
      simp only [if_true] at hg ⊢
      simp only [Sem.run_bind, hg, Result.andThen_ok, Go.binOp, Op.stringOp, ← beq_toListBytes, Sem.run_pure]
    | false =>
      simp only [Bool.false_eq_true, if_false] at hg ⊢
      simp only [Sem.run_bind, hg, Result.andThen_ok, Go.binOp, Op.stringOp, ← beq_toListBytes, Sem.run_pure]
  · rename_i e hu
    obtain rfl : 3 = k := by simpa using ho
    replace hb : eqPtr xa ya = some b := hb
    have key : ∃ p : Option Addr, a.eval x = .pointer p ∧ a.eval y = .pointer none ∧ b = p.isNone := by
      cases ya <;> simp only [eqPtr, reduceCtorEq] at hb
      obtain e2 : a.eval y = .pointer none := by generalize a.eval y = q at hy; cases hy; rfl
      rw [e2]
      generalize a.eval x = q at hx ⊢
      cases hx <;> simp only [Option.some.injEq, reduceCtorEq] at hb <;> subst hb <;> exact ⟨_, rfl, rfl, rfl⟩
    obtain ⟨p, e1, e2, rfl⟩ := key
    rw [e1, e2]
    refine eq_fin hop E.w _ _ ?_ (by simp only [Go.binOp]) (by simp only [Go.binOp]) ?_
    · unfold eqGuard
      simp only [Sem.run_ite, Sem.run_pure]
      split <;> simp
    · exact run_equal_pointer_nil E.w t p (by rw [hu]; simp [Program.pointee, hu])
  · rename_i e hu
    obtain rfl : 4 = k := by simpa using ho
    replace hb : eqSl xa ya = some b := hb
    have key : ∃ (p : Option Addr) (n c : Nat), a.eval x = .slice p n c ∧ a.eval y = .slice none 0 0 ∧ b = p.isNone := by
      cases ya <;> simp only [eqSl, reduceCtorEq] at hb
      obtain e2 : a.eval y = .slice none 0 0 := by generalize a.eval y = q at hy; cases hy; rfl
      rw [e2]
      generalize a.eval x = q at hx ⊢
      cases hx <;> simp only [Option.some.injEq, reduceCtorEq] at hb
      · subst hb; exact ⟨_, _, _, rfl, rfl, rfl⟩
      · subst hb; exact ⟨_, _, _, rfl, rfl, rfl⟩
      · subst hb; exact ⟨_, _, _, rfl, rfl, rfl⟩
      · subst hb; exact ⟨_, _, _, rfl, rfl, rfl⟩
      · rename_i h1 h2 h3 h4
        split at hb <;> try (cases hb; done)
        obtain rfl := Option.some.inj hb
        obtain ⟨cb, off, rfl, _⟩ := h3 0 _ rfl
        exact ⟨_, _, _, rfl, rfl, rfl⟩
      · rename_i h1 h2 h3 h4 h5
        split at hb <;> try (cases hb; done)
        obtain rfl := Option.some.inj hb
        obtain ⟨_, cb, off, rfl, _⟩ := h3 0 _ rfl
        exact ⟨_, _, _, rfl, rfl, rfl⟩
    obtain ⟨p, n, c, e1, e2, rfl⟩ := key
    rw [e1, e2]
    refine eq_fin hop E.w _ _ ?_ (by simp only [Go.binOp]) (by simp only [Go.binOp]) ?_
    · unfold eqGuard
      simp only [Sem.run_ite, Sem.run_pure]
      split <;> simp
    · exact run_equal_slice_nil E.w t e p n c hu
  · rename_i ms hu
    split at ho <;> try (cases ho; done)
    rename_i c
    obtain rfl : 5 = k := by simpa using ho
    replace hb : eqIf xa ya = some b := hb
    have key : ∃ p, a.eval x = p ∧ a.eval (.const c) = .nilIface ∧ ((p = .nilIface ∧ b = true) ∨ (∃ te pe, p = .iface te pe) ∧ b = false) := by
      cases ya <;> simp only [eqIf, reduceCtorEq] at hb
      obtain e2 : a.eval (.const c) = .nilIface := by generalize a.eval (.const c) = q at hy; cases hy; rfl
      refine ⟨_, rfl, e2, ?_⟩
      generalize a.eval x = q at hx ⊢
      cases hx <;> simp only [Option.some.injEq, reduceCtorEq] at hb <;> subst hb
      · exact .inl ⟨rfl, rfl⟩
      · exact .inr ⟨⟨_, _, rfl⟩, rfl⟩
    obtain ⟨p, e1, e2, h3⟩ := key
    rw [e1, e2]
    rcases h3 with ⟨rfl, rfl⟩ | ⟨⟨te, pe, rfl⟩, rfl⟩
    · refine eq_fin hop E.w _ _ ?_ (by simp only [Go.binOp]) (by simp only [Go.binOp]) ?_
      · unfold eqGuard
        simp
      · have h : ∀ d : Nat, (Op.equalIn (d + 1) t .nilIface .nilIface).run P E.w = .ok true E.w := fun d => by simp [Op.equalIn, run_underlying hu]
        exact h 9999
    · refine eq_fin hop E.w _ _ ?_ (by simp only [Go.binOp]) (by simp only [Go.binOp]) ?_
      · unfold eqGuard
        simp only [Sem.run_ite, Sem.run_pure]
        split <;> simp
      · have h : ∀ d : Nat, (Op.equalIn (d + 1) t (.iface te pe) .nilIface).run P E.w = .ok false E.w := fun d => by simp [Op.equalIn, run_underlying hu]
        exact h 9999
  · split at ho <;> simp at ho
  · split at ho <;> simp at ho
  · cases ho

theorem op_eqv (H : HRel E h) {op : BinOp} {t : TypeId} {neg : Bool} (hop : op = if neg = true then .neq else .eql) {offs : List (Nat × Nat)} {x y : Operand} (ho : eqPlan P t y = some (.all offs)) {a : Act} {cs ds : List AV} (hx : E.R (.agg cs) (a.eval x)) (hy : E.R (.agg ds) (a.eval y)) {b : Bool}
    (hb : eqAll cs ds offs = some b) :
    Runs P (do pure (.value (← (do eqGuard op t x y (a.eval x) (a.eval y); Go.binOp op t (a.eval x) (a.eval y))))) E h (.bool (if neg = true then !b else b)) .keep := by
  refine .keep H (u := .bool (if neg = true then !b else b)) ?_ (.bool ..)
  have main : P.eqGuardType P.depth t = false → leafOffs P 6 t = some offs → isAggB P t = some true → ((do pure (.value (← (do eqGuard op t x y (a.eval x) (a.eval y); Go.binOp op t (a.eval x) (a.eval y)))) : Sem Next).run P E.w) = .ok (.value (.bool (if neg = true then !b else b))) E.w := by
    intro h1 h2 h3
    obtain ⟨us, hus, hbu⟩ := rel_agg hx
    obtain ⟨vs, hvs, hbv⟩ := rel_agg hy
    rw [hus, hvs]
    exact eq_fin hop E.w _ _ (run_eqGuard_agg E.w op t x y us vs h1) (by simp only [Go.binOp]) (by simp only [Go.binOp]) (equal_sound E.w 6 t offs h2 10000 cs ds _ _ b (by omega) (.inl ⟨h3, us, rfl, hbu⟩) (.inl ⟨h3, vs, rfl, hbv⟩) hb)
  unfold eqPlan at ho
  split at ho
  · simp at ho
  · simp at ho
  · simp at ho
  · simp at ho
  · split at ho <;> simp at ho
  · rename_i hu
    split at ho <;> simp at ho
    rename_i hg
    exact main hg ho (by simp [isAggB, hu])
  · rename_i hu
    split at ho <;> simp at ho
    rename_i hg
    exact main hg ho (by simp [isAggB, hu])
  · cases ho
end Go.AL
