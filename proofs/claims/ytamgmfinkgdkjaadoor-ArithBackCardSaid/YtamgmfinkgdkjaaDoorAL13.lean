/- Every operation that calls nothing, by its kind. Seat-independent. -/
import Derived.Test.YtamgmfinkgdkjaaDoorAL32
namespace Go.AL
variable {E : Env} {h : AHeap} {P : Program}

theorem aop_bslice {tm : List (Nat × AV)} {h : AHeap} {hn s : Nat} {z : List AV} {len : Nat} {ps : List (Nat × Opd)} (hz0 : ¬ (len = 0 ∧ ps = [])) : aop tm h hn (.bslice s z len ps) =
    match fillRows (List.replicate len z) (ps.map fun (i, x) => (i, ev tm x)) with
      | some rows => match rows, z with
        | [], [.int k _] => some (true, AV.sl hn 0 len, Eff.push (.ia k []))
        | rows, _ => match rowsBlk s rows with
          | some b => some (true, .sl hn 0 len, .push b)
          | none => none
      | none => none := by
  cases len <;> cases ps <;> first | exact absurd ⟨rfl, rfl⟩ hz0 | rfl

theorem aop_sound {op : Op} {ao : AOp} (hc : cQ P op = some ao) {tm : List (Nat × AV)} {a : Act} (H : HRel E h) (T : TRel E tm a) {v : AV} {f : Eff} (ha : aop tm h h.length ao = some (true, v, f))
    {o : Oper} (ho : o.op = op) : Runs P (execOp a.eval o) E h v f := by
  have R : ∀ {x : Operand} {y : Opd}, cOpd x = some y → E.R (ev tm y) (a.eval x) := fun h => cOpd_rel T h
  cases op <;> simp only [cQ, Option.bind_eq_bind, Option.bind_eq_some_iff, Option.pure_def, Option.some.injEq, reduceCtorEq] at hc
  case move x =>
    obtain ⟨y, hy, rfl⟩ := hc
    simp only [aop, Option.some.injEq, Prod.mk.injEq, true_and] at ha
    obtain ⟨rfl, rfl⟩ := ha
    exact .keep H (by simp [execOp, ho]) (R hy)
  case assign x =>
    obtain ⟨y, hy, rfl⟩ := hc
    simp only [aop, Option.some.injEq, Prod.mk.injEq, true_and] at ha
    obtain ⟨rfl, rfl⟩ := ha
    exact .keep H (by simp [execOp, ho]) (R hy)
  case pick c x y =>
    obtain ⟨c', hc', x', hx', y', hy', rfl⟩ := hc
    simp only [aop] at ha
    split at ha <;> try (cases ha; done)
    rename_i b hb
    have hcb := R hc'
    rw [hb] at hcb
    have hcb := rel_bool hcb
    cases b <;> simp only [Option.some.injEq, Prod.mk.injEq, true_and] at ha <;> obtain ⟨rfl, rfl⟩ := ha
    · exact .keep H (by simp [execOp, ho, hcb, asBool]) (R hy')
    · exact .keep H (by simp [execOp, ho, hcb, asBool]) (R hx')
  case alloc t =>
    obtain ⟨z, hz, rfl⟩ := hc
    simp only [aop, Option.some.injEq, Prod.mk.injEq, true_and] at ha
    obtain ⟨rfl, rfl⟩ := ha
    have := op_alloc H hz
    simpa only [execOp, ho] using this
  case box t x =>
    obtain ⟨y, hy, rfl⟩ := hc
    simp only [aop, Option.some.injEq, Prod.mk.injEq, true_and] at ha
    obtain ⟨rfl, rfl⟩ := ha
    have := op_box (P := P) H t (R hy)
    simpa only [execOp, ho] using this
  case build t parts =>
    obtain ⟨z, hz, ps, hps, rfl⟩ := hc
    simp only [aop, Option.map_eq_some_iff, Prod.mk.injEq, true_and] at ha
    obtain ⟨l, hl, rfl, rfl⟩ := ha
    have := op_build H hz hps T hl
    simpa only [execOp, ho] using this
  case buildSlice t len parts =>
    split at hc <;> try (cases hc; done)
    rename_i e hd
    simp only [Option.bind_eq_some_iff] at hc
    obtain ⟨s, hs, z, hz, ps, hps, hc⟩ := hc
    split at hc <;> try (cases hc; done)
    rename_i hcond
    obtain rfl := Option.some.inj hc
    by_cases hz0 : len = 0 ∧ ps = []
    · obtain ⟨rfl, rfl⟩ := hz0
      simp only [aop, Option.some.injEq, Prod.mk.injEq, true_and] at ha
      obtain ⟨rfl, rfl⟩ := ha
      have hpe : parts = #[] := by
        have := (mapM_get hps).1
        exact Array.eq_empty_of_size_eq_zero (by simpa using this.symm)
      subst hpe
      have := op_bslice0 H hd hs
      simpa [execOp, ho] using this
    rw [aop_bslice hz0] at ha
    split at ha <;> try (cases ha; done)
    rename_i rows hrows
    have hps' : (parts.toList.mapM fun (i, x) => do pure (i, ← cOpd x)) = some ps := by
      simpa only [Option.bind_eq_bind, Option.pure_def] using hps
    have fin : ∀ b, v = .sl h.length 0 len → f = .push b → (rowsBlk s rows = some b ∨ (rows = [] ∧ ∃ k x, z = [.int k x] ∧ b = .ia k [])) → Runs P (execOp a.eval o) E h v f := by
      rintro b rfl rfl hb
      have := op_bslice H hd hs hz hcond.2.1 hcond.1 hcond.2.2 hps' T hrows hb
      simpa only [execOp, ho] using this
    split at ha
    · rename_i k x
      simp only [Option.some.injEq, Prod.mk.injEq, true_and] at ha
      obtain ⟨rfl, rfl⟩ := ha
      exact fin _ rfl rfl (.inr ⟨rfl, k, x, rfl, rfl⟩)
    · split at ha <;> try (cases ha; done)
      rename_i b hb
      simp only [Option.some.injEq, Prod.mk.injEq, true_and] at ha
      obtain ⟨rfl, rfl⟩ := ha
      exact fin b rfl rfl (.inl hb)
  case load t x =>
    obtain ⟨y, hy, g, hg, hc⟩ := hc
    split at hc
    · rename_i hgt
      subst hgt
      simp only [Option.bind_eq_some_iff, Option.some.injEq] at hc
      obtain ⟨s, hs, rfl⟩ := hc
      simp only [aop] at ha
      split at ha <;> try (cases ha; done)
      rename_i c l hr
      simp only [Option.some.injEq, Prod.mk.injEq] at ha
      obtain ⟨rfl, rfl, rfl⟩ := ha
      have := op_loadN H hg hs (R hy) hr
      simpa only [execOp, ho] using this
    · rename_i hgt
      have hgf : g = false := by simpa using hgt
      subst hgf
      obtain rfl := Option.some.inj hc
      simp only [aop] at ha
      split at ha <;> try (cases ha; done)
      rename_i c l hr
      simp only [Option.some.injEq, Prod.mk.injEq] at ha
      obtain ⟨rfl, rfl, rfl⟩ := ha
      have := op_load1 H hg (R hy) hr
      simpa only [execOp, ho] using this
  case store t x y =>
    obtain ⟨s, hs, x', hx, y', hy, hc⟩ := hc
    split at hc <;> try (cases hc; done)
    rename_i hs0
    obtain rfl := Option.some.inj hc
    simp only [aop] at ha
    split at ha <;> try (cases ha; done)
    rename_i hl
    split at ha <;> try (cases ha; done)
    rename_i c e hw
    simp only [Option.some.injEq, Prod.mk.injEq] at ha
    obtain ⟨rfl, rfl, rfl⟩ := ha
    have := op_store H hs0 hs (R hx) (R hy) (Nat.eq_of_beq_eq_true hl) hw
    simpa only [execOp, ho] using this
  case nilCheck x =>
    obtain ⟨y, hy, rfl⟩ := hc
    simp only [aop] at ha
    have hR := R hy
    split at ha <;> try (cases ha; done)
    all_goals
      rename_i he
      rw [he] at hR
      simp only [Option.some.injEq, Prod.mk.injEq, true_and] at ha
      obtain ⟨rfl, rfl⟩ := ha
      exact op_nilc H hR rfl ho rfl
  case binOp op t x y ty =>
    have eqs : ∀ (neg : Bool) (p : EqPlan), op = (if neg = true then .neq else .eql) → eqPlan P t = some p → ∀ {x' y' : Opd}, cOpd x = some x' → cOpd y = some y' → aop tm h h.length (eqOp neg p x' y') = some (true, v, f) → Runs P (execOp a.eval o) E h v f := by
      intro neg p hop hp x' y' hx hy ha
      cases p with
      | one k =>
        simp only [eqOp, aop] at ha
        split at ha <;> try (cases ha; done)
        rename_i b hb
        have := op_eq1 (P := P) H hop hp (R hx) (R hy) hb
        cases neg <;> simp only [Option.some.injEq, Prod.mk.injEq, true_and] at ha <;> obtain ⟨rfl, rfl⟩ := ha
        · simpa only [execOp, ho, Bool.false_eq_true, if_false] using this
        · simpa only [execOp, ho, if_true] using this
      | all offs =>
        simp only [eqOp, aop] at ha
        split at ha <;> try (cases ha; done)
        rename_i cs ds hcs hds
        split at ha <;> try (cases ha; done)
        rename_i b hb
        have h1 := R hx
        have h2 := R hy
        rw [hcs] at h1
        rw [hds] at h2
        have := op_eqv (P := P) H hop hp h1 h2 hb
        cases neg <;> simp only [Option.some.injEq, Prod.mk.injEq, true_and] at ha <;> obtain ⟨rfl, rfl⟩ := ha
        · simpa only [execOp, ho, Bool.false_eq_true, if_false] using this
        · simpa only [execOp, ho, if_true] using this
    split at hc
    · rename_i p hp
      simp only [Option.bind_eq_some_iff, Option.some.injEq] at hc
      obtain ⟨x', hx, y', hy, rfl⟩ := hc
      exact eqs false p rfl hp hx hy ha
    · rename_i p hp
      simp only [Option.bind_eq_some_iff, Option.some.injEq] at hc
      obtain ⟨x', hx, y', hy, rfl⟩ := hc
      exact eqs true p rfl hp hx hy ha
    · simp only [Option.bind_eq_some_iff, Option.some.injEq] at hc
      obtain ⟨x', hx, y', hy, rfl⟩ := hc
      simp only [aop, Option.map_eq_some_iff] at ha
      obtain ⟨⟨c, w⟩, hw, he⟩ := ha
      simp only [Prod.mk.injEq] at he
      obtain ⟨rfl, rfl, rfl⟩ := he
      have := op_bin (P := P) H (t := t) (ty := ty) (R hx) (R hy) hw
      simpa only [execOp, ho] using this
  case unOp op t x =>
    obtain ⟨x', hx, rfl⟩ := hc
    simp only [aop, Option.map_eq_some_iff] at ha
    obtain ⟨w, hw, he⟩ := ha
    simp only [Prod.mk.injEq, true_and] at he
    obtain ⟨rfl, rfl⟩ := he
    have := op_un (P := P) H (R hx) hw
    simpa only [execOp, ho] using this
  case convert src dst x =>
    split at hc <;> try (cases hc; done)
    rename_i k k' h1 h2
    simp only [Option.bind_eq_some_iff, Option.some.injEq] at hc
    obtain ⟨x', hx, rfl⟩ := hc
    simp only [aop] at ha
    have hR := R hx
    split at ha <;> try (cases ha; done)
    rename_i kk n he
    rw [he] at hR
    simp only [Option.some.injEq, Prod.mk.injEq, true_and] at ha
    obtain ⟨rfl, rfl⟩ := ha
    have := op_conv (P := P) H h1 h2 (kk := kk) (n := n)
    rw [← rel_int hR] at this
    simpa only [execOp, ho] using this
  case makeFunc fn first cap =>
    cases fn <;> simp only [reduceCtorEq] at hc
    rename_i f'
    split at hc <;> try (cases hc; done)
    rename_i h0
    simp only [Option.bind_eq_some_iff, Option.some.injEq] at hc
    obtain ⟨l, hl, rfl⟩ := hc
    simp only [aop, Option.some.injEq, Prod.mk.injEq, true_and] at ha
    obtain ⟨rfl, rfl⟩ := ha
    have hb := Bes.mapM T hl
    have := op_mkfn (P := P) H (f := f') (cap := l.map (ev tm)) (vs := cap.map a.eval) (by simpa using hb)
    have hf : first = #[] := by apply Array.eq_empty_of_size_eq_zero; exact h0
    subst hf
    simpa only [execOp, ho, Array.map_empty] using this
  case makeSlice t l c =>
    split at hc <;> try (cases hc; done)
    rename_i e hd
    simp only [Option.bind_eq_some_iff] at hc
    obtain ⟨s, hs, z, hz, bytes, hby, hc⟩ := hc
    split at hc <;> try (cases hc; done)
    rename_i hcond
    simp only [Option.bind_eq_some_iff, Option.some.injEq] at hc
    obtain ⟨l', hl, c', hc', rfl⟩ := hc
    have hR1 := R hl
    have hR2 := R hc'
    simp only [aop] at ha
    split at ha <;> try (cases ha; done)
    rename_i n m e1 e2
    rw [e1] at hR1
    rw [e2] at hR2
    split at ha
    · rename_i k x
      simp only [Option.some.injEq, Prod.mk.injEq, decide_eq_true_eq] at ha
      obtain ⟨⟨c1, rfl, c3⟩, rfl, rfl⟩ := ha
      have := op_mkslice H hd hs hz hcond.2 hcond.1 hby ⟨c1, c3⟩ (.inl ⟨k, x, rfl, rfl⟩)
      rw [← rel_int hR1] at this
      simp only [execOp, ho]
      rw [show a.eval c = a.eval l by rw [rel_int hR1, rel_int hR2]]
      exact this
    · split at ha <;> try (cases ha; done)
      rename_i hall
      simp only [Option.some.injEq, Prod.mk.injEq, decide_eq_true_eq] at ha
      obtain ⟨⟨c1, rfl, c3⟩, rfl, rfl⟩ := ha
      rw [Bool.and_eq_true] at hall
      have := op_mkslice H hd hs hz hcond.2 hcond.1 hby ⟨c1, c3⟩ (.inr ⟨hall.2, rfl⟩)
      rw [← rel_int hR1] at this
      simp only [execOp, ho]
      rw [show a.eval c = a.eval l by rw [rel_int hR1, rel_int hR2]]
      exact this
  case slice t x lo hi mx =>
    cases mx with
    | some m =>
      replace hc : cQ P (.slice t x lo hi (some m)) = some ao := hc
      simp only [cQ, reduceCtorEq] at hc
    | none =>
      replace hc : cQ P (.slice t x lo hi none) = some ao := hc
      simp only [cQ, Option.bind_eq_bind] at hc
      split at hc <;> try (cases hc; done)
      rotate_left
      · rename_i hd
        simp only [Option.bind_eq_some_iff, Option.pure_def, Option.some.injEq] at hc
        obtain ⟨lo', hlo, hi', hhi, x', hx, rfl⟩ := hc
        simp only [aop] at ha
        split at ha <;> try (cases ha; done)
        rename_i b he
        have hR := R hx
        rw [he] at hR
        split at ha <;> try (cases ha; done)
        rename_i l r hbl hbr
        simp only [Option.some.injEq, Prod.mk.injEq, decide_eq_true_eq] at ha
        obtain ⟨h0, rfl, rfl⟩ := ha
        have := op_sliceStr (P := P) H hd (s := b) (bnd_sound T hlo hbl) (bnd_sound T hhi hbr) h0
        rw [← rel_str hR] at this
        simpa only [execOp, ho, Option.map_none] using this
      rename_i e hd
      simp only [Option.bind_eq_some_iff, Option.pure_def, Option.some.injEq] at hc
      obtain ⟨lo', hlo, hi', hhi, s, hs, x', hx, rfl⟩ := hc
      simp only [aop] at ha
      split at ha <;> try (cases ha; done)
      rename_i n hn
      split at ha <;> try (cases ha; done)
      rename_i l r hbl hbr
      split at ha <;> try (cases ha; done)
      rename_i w hw
      simp only [Option.some.injEq, Prod.mk.injEq, decide_eq_true_eq] at ha
      obtain ⟨h0, rfl, rfl⟩ := ha
      have := op_slice H hd hs (R hx) hn (bnd_sound T hlo hbl) (bnd_sound T hhi hbr) h0 hw
      simpa only [execOp, ho, Option.map_none] using this
  case fieldAddr t x i =>
    split at hc <;> try (cases hc; done)
    rename_i fields hd
    simp only [Option.bind_eq_some_iff] at hc
    obtain ⟨fl, hfl, s, hs, hc⟩ := hc
    split at hc <;> try (cases hc; done)
    rename_i hs0
    simp only [Option.bind_eq_some_iff, Option.some.injEq] at hc
    obtain ⟨x', hx, rfl⟩ := hc
    simp only [aop] at ha
    have hR := R hx
    have := op_fld (P := P) H hd hfl hs hs0 hR (v := v)
    split at ha <;> try (cases ha; done)
    all_goals
      rename_i he
      rw [he] at this
      simp only [Option.some.injEq, Prod.mk.injEq, true_and] at ha
      obtain ⟨rfl, rfl⟩ := ha
      simpa only [execOp, ho] using this rfl
  case field t x i =>
    split at hc <;> try (cases hc; done)
    rename_i fields hd
    simp only [Option.bind_eq_some_iff] at hc
    obtain ⟨fl, hfl, s, hs, g, hg, hc⟩ := hc
    split at hc <;> try (cases hc; done)
    rename_i hgs
    simp only [Option.bind_eq_some_iff, Option.some.injEq] at hc
    obtain ⟨x', hx, rfl⟩ := hc
    simp only [aop] at ha
    have hR := R hx
    split at ha <;> try (cases ha; done)
    rename_i cs he
    rw [he] at hR
    have hv : (match (!g), part cs fl.offset s with | true, some [v] => some v | false, some l => some (AV.agg l) | _, _ => none) = some v ∧ f = .keep := by
      split at ha <;> try (cases ha; done)
      all_goals
        rename_i h1 h2
        simp only [Option.some.injEq, Prod.mk.injEq, true_and] at ha
        obtain ⟨rfl, rfl⟩ := ha
        rw [h1, h2]
        exact ⟨rfl, rfl⟩
    obtain ⟨hv, rfl⟩ := hv
    have := op_field H hd hfl hs hg hgs hR hv
    simpa only [execOp, ho] using this
  case indexAddr t x i =>
    split at hc <;> try (cases hc; done)
    · rename_i n e hd
      simp only [Option.bind_eq_some_iff, Option.some.injEq] at hc
      obtain ⟨s, hs, x', hx, i', hi, rfl⟩ := hc
      simp only [aop] at ha
      have hR := R hx
      have hRi := R hi
      split at ha <;> try (cases ha; done)
      rename_i k ii he
      rw [he] at hRi
      have hin : 0 ≤ ii ∧ ii < (n : Int) := by
        split at ha <;> try (cases ha; done)
        all_goals
          simp only [Option.some.injEq, Prod.mk.injEq, decide_eq_true_eq] at ha
          exact ha.1
      have := op_idxA (P := P) H hd hs hR (k := k) hin (v := v)
      split at ha <;> try (cases ha; done)
      all_goals
        rename_i hxe
        rw [hxe] at this
        simp only [Option.some.injEq, Prod.mk.injEq] at ha
        obtain ⟨_, rfl, rfl⟩ := ha
        rw [← rel_int hRi] at this
        simpa only [execOp, ho] using this rfl
    · rename_i e hd
      simp only [Option.bind_eq_some_iff, Option.some.injEq] at hc
      obtain ⟨s, hs, x', hx, i', hi, rfl⟩ := hc
      simp only [aop] at ha
      have hR := R hx
      have hRi := R hi
      split at ha <;> try (cases ha; done)
      rename_i k ii he
      rw [he] at hRi
      split at ha <;> try (cases ha; done)
      · rename_i b r n hxe
        rw [hxe] at hR
        rw [nth_eq] at ha
        split at ha <;> try (cases ha; done)
        · rename_i k' xs hb
          split at ha <;> try (cases ha; done)
          rename_i hs1
          have hs1 := Nat.eq_of_beq_eq_true hs1
          subst hs1
          simp only [Option.some.injEq, Prod.mk.injEq, decide_eq_true_eq] at ha
          obtain ⟨h0, rfl, rfl⟩ := ha
          have := op_idxS_sl H hd hs hR hb rfl (k := k) h0
          rw [← rel_int hRi] at this
          simpa only [execOp, ho] using this
        · rename_i s' rows hb
          split at ha <;> try (cases ha; done)
          rename_i hs1
          have hs1 := Nat.eq_of_beq_eq_true hs1
          subst hs1
          simp only [Option.some.injEq, Prod.mk.injEq, decide_eq_true_eq] at ha
          obtain ⟨h0, rfl, rfl⟩ := ha
          have := op_idxS_sl H hd hs hR hb rfl (k := k) h0
          rw [← rel_int hRi] at this
          simpa only [execOp, ho] using this
      · rename_i kk xs hxe
        rw [hxe] at hR
        split at ha <;> try (cases ha; done)
        rename_i hs1
        have hs1 := Nat.eq_of_beq_eq_true hs1
        subst hs1
        simp only [Option.some.injEq, Prod.mk.injEq, decide_eq_true_eq] at ha
        obtain ⟨h0, rfl, rfl⟩ := ha
        have := op_idxS_ri H hd hs hR (k := k) h0
        rw [← rel_int hRi] at this
        simpa only [execOp, ho] using this
      · rename_i s' rows hxe
        rw [hxe] at hR
        split at ha <;> try (cases ha; done)
        rename_i hs1
        have hs1 := Nat.eq_of_beq_eq_true hs1
        subst hs1
        split at ha <;> try (cases ha; done)
        rename_i row hrow
        rw [nth_eq] at hrow
        simp only [Option.some.injEq, Prod.mk.injEq, decide_eq_true_eq] at ha
        obtain ⟨h0, rfl, rfl⟩ := ha
        have := op_idxS_ro H hd hs hR (k := k) h0 hrow
        rw [← rel_int hRi] at this
        simpa only [execOp, ho] using this
  case index t x i =>
    split at hc <;> try (cases hc; done)
    · rename_i n e hd
      simp only [Option.bind_eq_some_iff] at hc
      obtain ⟨s, hs, g, hg, hc⟩ := hc
      split at hc <;> try (cases hc; done)
      rename_i hgs
      simp only [Option.bind_eq_some_iff, Option.some.injEq] at hc
      obtain ⟨x', hx, i', hi, rfl⟩ := hc
      simp only [aop] at ha
      have hR := R hx
      have hRi := R hi
      split at ha <;> try (cases ha; done)
      rename_i cs k ii he1 he2
      rw [he1] at hR
      rw [he2] at hRi
      have hv : (match (!g), part cs (ii.toNat * s) s with | true, some [v] => some v | false, some l => some (AV.agg l) | _, _ => none) = some v ∧ f = .keep ∧ 0 ≤ ii ∧ ii < (n : Int) := by
        split at ha <;> try (cases ha; done)
        all_goals
          rename_i h1 h2
          simp only [Option.some.injEq, Prod.mk.injEq, decide_eq_true_eq] at ha
          obtain ⟨h0, rfl, rfl⟩ := ha
          rw [h1, h2]
          exact ⟨rfl, rfl, h0⟩
      obtain ⟨hv, rfl, h0⟩ := hv
      have := op_indexA H hd hs hg hgs hR (k := k) h0 hv
      rw [← rel_int hRi] at this
      simpa only [execOp, ho] using this
    · rename_i hd
      simp only [Option.bind_eq_some_iff, Option.some.injEq] at hc
      obtain ⟨x', hx, i', hi, rfl⟩ := hc
      simp only [aop] at ha
      have hR := R hx
      have hRi := R hi
      split at ha <;> try (cases ha; done)
      rename_i s k ii he1 he2
      rw [he1] at hR
      rw [he2] at hRi
      simp only [Option.some.injEq, Prod.mk.injEq, decide_eq_true_eq] at ha
      obtain ⟨h0, rfl, rfl⟩ := ha
      have := op_indexStr (P := P) H hd (s := s) (k := k) h0
      rw [← rel_int hRi, ← rel_str hR] at this
      simpa only [execOp, ho] using this
  case extract t i =>
    obtain ⟨x', hx, rfl⟩ := hc
    simp only [aop] at ha
    have hR := R hx
    split at ha <;> try (cases ha; done)
    rename_i vs he
    rw [he] at hR
    split at ha <;> try (cases ha; done)
    rename_i w hw
    rw [nth_eq] at hw
    simp only [Option.some.injEq, Prod.mk.injEq, true_and] at ha
    obtain ⟨rfl, rfl⟩ := ha
    have := op_ext (P := P) H hR hw
    simpa only [execOp, ho] using this
  case call c =>
    obtain ⟨callee, args, argTypes⟩ := c
    cases callee with
    | invoke r m => simp only [reduceCtorEq] at hc
    | value f => simp only [reduceCtorEq] at hc
    | builtin b =>
      cases b <;> simp only [reduceCtorEq, Option.bind_eq_some_iff] at hc
      case len =>
        obtain ⟨t, ht, hc⟩ := hc
        split at hc <;> try (cases hc; done)
        rename_i x hx
        have hargs : args = #[x] := by cases args; simpa using hx
        subst hargs
        split at hc <;> try (cases hc; done)
        · rename_i hd
          simp only [Option.bind_eq_some_iff, Option.some.injEq] at hc
          obtain ⟨x', hx', rfl⟩ := hc
          simp only [aop] at ha
          have hR := R hx'
          split at ha <;> try (cases ha; done)
          rename_i s he
          rw [he] at hR
          simp only [Option.some.injEq, Prod.mk.injEq, true_and] at ha
          obtain ⟨rfl, rfl⟩ := ha
          refine .keep H (u := .int .i64 s.size) ?_ (.int ..)
          simp [execOp, ho, resolve, invoke, builtin, rel_str hR, Builtin.len_, ht, run_underlying hd, goInt]
        · rename_i e hd
          simp only [Option.bind_eq_some_iff, Option.some.injEq] at hc
          obtain ⟨x', hx', rfl⟩ := hc
          simp only [aop] at ha
          split at ha <;> try (cases ha; done)
          rename_i n hn
          simp only [Option.some.injEq, Prod.mk.injEq, true_and] at ha
          obtain ⟨rfl, rfl⟩ := ha
          obtain ⟨a', cap, hv, _⟩ := slice_form (R hx') hn
          refine .keep H (u := .int .i64 n) ?_ (.int ..)
          simp [execOp, ho, resolve, invoke, builtin, hv, Builtin.len_, ht, run_underlying hd, goInt]
      case append =>
        obtain ⟨t, ht, u, hu, hc⟩ := hc
        split at hc <;> try (cases hc; done)
        rename_i x y hxy
        have hargs : args = #[x, y] := by cases args; simpa using hxy
        subst hargs
        split at hc <;> try (cases hc; done)
        rename_i e hd
        simp only [Option.bind_eq_some_iff] at hc
        obtain ⟨s, hs, z, hz, hc⟩ := hc
        split at hc <;> try (cases hc; done)
        rename_i hcond
        simp only [Option.bind_eq_some_iff, Option.some.injEq] at hc
        obtain ⟨bytes, hby, x', hx', y', hy', rfl⟩ := hc
        obtain ⟨hs0, hzl, rfl, hsz⟩ := hcond
        have hat : argTypes = #[t, t] := by
          apply Array.ext'
          match argTypes, hsz, ht, hu with
          | ⟨[p, q]⟩, _, ht, hu => simp at ht hu; simp [ht, hu]
        subst hat
        have := op_append (P := P) (ty := o.type) H ⟨hd, hs, hz, hzl, hs0, hby⟩ (R hx') (R hy') ha
        simpa [execOp, ho, resolve, invoke, builtin] using this
      case max =>
        split at hc <;> try (cases hc; done)
        rename_i x y hxy
        have hargs : args = #[x, y] := by cases args; simpa using hxy
        subst hargs
        simp only [Option.bind_eq_some_iff, Option.some.injEq] at hc
        obtain ⟨x', hx', y', hy', rfl⟩ := hc
        simp only [aop] at ha
        have h1 := R hx'
        have h2 := R hy'
        split at ha <;> try (cases ha; done)
        rename_i k n k' m e1 e2
        rw [e1] at h1
        rw [e2] at h2
        simp only [Option.some.injEq, Prod.mk.injEq, true_and] at ha
        obtain ⟨rfl, rfl⟩ := ha
        refine .keep H (u := .int k (if m > n then m else n)) ?_ (.int ..)
        simp [execOp, ho, resolve, invoke, builtin, rel_int h1, rel_int h2, Builtin.max_, Builtin.max2]
      case min =>
        split at hc <;> try (cases hc; done)
        rename_i x y hxy
        have hargs : args = #[x, y] := by cases args; simpa using hxy
        subst hargs
        simp only [Option.bind_eq_some_iff, Option.some.injEq] at hc
        obtain ⟨x', hx', y', hy', rfl⟩ := hc
        simp only [aop] at ha
        have h1 := R hx'
        have h2 := R hy'
        split at ha <;> try (cases ha; done)
        rename_i k n k' m e1 e2
        rw [e1] at h1
        rw [e2] at h2
        simp only [Option.some.injEq, Prod.mk.injEq, true_and] at ha
        obtain ⟨rfl, rfl⟩ := ha
        refine .keep H (u := .int k (if m < n then m else n)) ?_ (.int ..)
        simp [execOp, ho, resolve, invoke, builtin, rel_int h1, rel_int h2, Builtin.min_, Builtin.min2]

theorem aop_frz_sound {op : Op} {ao : AOp} (hc : cQ P op = some ao) (fz : Bool) {tm : List (Nat × AV)} {a : Act} (H : HRel E h) (T : TRel E tm a) {v : AV} {f : Eff} (ha : aop tm h h.length (ao.frz fz) = some (true, v, f))
    {o : Oper} (ho : o.op = op) : Runs P (execOp a.eval o) E h v f := by
  cases fz with
  | false =>
    have : ao.frz false = ao := by cases ao <;> rfl
    rw [this] at ha
    exact aop_sound hc H T ha ho
  | true =>
    by_cases hb : ∃ s z len ps, ao = .bslice s z len ps
    · obtain ⟨s, z, len, ps, rfl⟩ := hb
      cases op <;> simp only [cQ, Option.bind_eq_bind, Option.bind_eq_some_iff, Option.pure_def, Option.some.injEq, reduceCtorEq, and_false, exists_false] at hc
      case buildSlice t len' parts =>
        split at hc <;> try (cases hc; done)
        rename_i e hd
        simp only [Option.bind_eq_some_iff] at hc
        obtain ⟨s', hs, z', hz, ps', hps, hc⟩ := hc
        split at hc <;> try (cases hc; done)
        rename_i hcond
        simp only [Option.some.injEq, AOp.bslice.injEq] at hc
        obtain ⟨rfl, rfl, rfl, rfl⟩ := hc
        have hps' : (parts.toList.mapM fun (i, x) => do pure (i, ← cOpd x)) = some ps' := by
          simpa only [Option.bind_eq_bind, Option.pure_def] using hps
        simp only [AOp.frz, aop] at ha
        split at ha <;> try (cases ha; done)
        rename_i rows hrows
        split at ha <;> try (cases ha; done)
        rename_i b hb
        have := fun hv => op_bfrz (P := P) H hd hs hz hcond.2.1 hcond.1 hcond.2.2 hps' T hrows hb (v := v) hv
        split at ha
        · rename_i k l
          simp only [Option.some.injEq, Prod.mk.injEq, true_and] at ha
          obtain ⟨rfl, rfl⟩ := ha
          simpa only [execOp, ho] using this (.inl ⟨k, l, rfl, rfl⟩)
        · rename_i s2 l
          simp only [Option.some.injEq, Prod.mk.injEq, true_and] at ha
          obtain ⟨rfl, rfl⟩ := ha
          simpa only [execOp, ho] using this (.inr ⟨s2, l, rfl, rfl⟩)
        · cases ha
      case binOp op t x y ty =>
        split at hc
        · rename_i p _
          simp only [Option.bind_eq_some_iff, Option.some.injEq] at hc
          obtain ⟨_, _, _, _, he⟩ := hc
          cases p <;> cases he
        · rename_i p _
          simp only [Option.bind_eq_some_iff, Option.some.injEq] at hc
          obtain ⟨_, _, _, _, he⟩ := hc
          cases p <;> cases he
        · simp only [Option.bind_eq_some_iff, Option.some.injEq] at hc
          obtain ⟨_, _, _, _, he⟩ := hc
          cases he
      all_goals (exfalso; (repeat' (first | (rename_i heq _; cases heq; done) | (rename_i heq _ _; cases heq; done) | (cases hc; done) | (obtain ⟨_, _, hc⟩ := hc) | (split at hc) | (simp only [Option.bind_eq_some_iff, Option.some.injEq, reduceCtorEq, and_false, exists_false] at hc))))
    · have : ao.frz true = ao := by
        cases ao <;> first | rfl | exact absurd ⟨_, _, _, _, rfl⟩ hb
      rw [this] at ha
      exact aop_sound hc H T ha ho

theorem cOp_inv {op : Op} {ao : AOp} (hc : cOp P op = some ao) :
    (∃ f args ts l, op = .call ⟨.value (.func f), args, ts⟩ ∧ args.toList.mapM cOpd = some l ∧ ao = .call f l) ∨
    (∃ x y args ts l, op = .call ⟨.value x, args, ts⟩ ∧ cOpd x = some y ∧ args.toList.mapM cOpd = some l ∧ ao = .callv y l) ∨ (cQ P op = some ao ∧ ao.quiet = true) := by
  unfold cOp at hc
  split at hc
  · rename_i f args ts
    rw [Option.map_eq_some_iff] at hc
    obtain ⟨l, hl, rfl⟩ := hc
    exact .inl ⟨f, args, ts, l, rfl, hl, rfl⟩
  · rename_i x args ts _
    rw [Option.bind_eq_some_iff] at hc
    obtain ⟨y, hy, hc⟩ := hc
    rw [Option.map_eq_some_iff] at hc
    obtain ⟨l, hl, rfl⟩ := hc
    exact .inr (.inl ⟨x, y, args, ts, l, rfl, hy, hl, rfl⟩)
  · rw [Option.filter_eq_some_iff] at hc
    exact .inr (.inr hc)

end Go.AL
