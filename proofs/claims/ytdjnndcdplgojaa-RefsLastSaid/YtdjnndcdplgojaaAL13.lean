/- Every operation that calls nothing, by its kind. Seat-independent. -/
import Derived.Test.YtdjnndcdplgojaaAL32
import Derived.Test.YtdjnndcdplgojaaAL12
import Derived.Test.YtdjnndcdplgojaaAL11
namespace Go.AL
variable {E : Env} {h : AHeap} {P : Program}

theorem aop_bslice {tm : List (Nat × AV)} {h : AHeap} {hn s : Nat} {z : List AV} {len : Nat} {ps : List (Nat × Opd)} (hz0 : ¬ (len = 0 ∧ ps = [])) : aop tm h hn (.bslice s z len ps) =
    match fillRows (List.replicate len z) (ps.map fun (i, x) => (i, ev tm x)) with
      | some rows => match rows, z with
        | [], [.int k _] => some (true, AV.sl hn 0 len, Eff.push (.ia k []))
        | rows, _ => match rowsBlk s rows with
          | some b => some (true, .sl hn 0 len, .push b)
          | none => none
      | none => none := by
  cases len <;> cases ps <;> first | exact absurd ⟨rfl, rfl⟩ hz0 | rfl

theorem aop_sound {op : Op} {ao : AOp} (hc : cQ P op = some ao) {tm : List (Nat × AV)} {a : Act} (H : HRel E h) (T : TRel E tm a) {v : AV} {f : Eff} (ha : aop tm h h.length ao = some (true, v, f))
    {o : Oper} (ho : o.op = op) : Runs P (execOp a.eval o) E h v f := by
  have R : ∀ {x : Operand} {y : Opd}, cOpd x = some y → E.R (ev tm y) (a.eval x) := fun h => cOpd_rel T h
  cases op <;> simp only [cQ, Option.bind_eq_bind, Option.bind_eq_some_iff, Option.pure_def, Option.some.injEq, reduceCtorEq] at hc
  case move x =>
    obtain ⟨y, hy, rfl⟩ := hc
    simp only [aop, Option.some.injEq, Prod.mk.injEq, true_and] at ha
    obtain ⟨rfl, rfl⟩ := ha
    exact .keep H (by simp [execOp, ho]) (R hy)
  case assign x =>
    obtain ⟨y, hy, rfl⟩ := hc
    simp only [aop, Option.some.injEq, Prod.mk.injEq, true_and] at ha
    obtain ⟨rfl, rfl⟩ := ha
    exact .keep H (by simp [execOp, ho]) (R hy)
  case pick c x y =>
    obtain ⟨c', hc', x', hx', y', hy', rfl⟩ := hc
    simp only [aop] at ha
    split at ha <;> try (cases ha; done)
    rename_i b hb
    have hcb := R hc'
    rw [hb] at hcb
    have hcb := rel_bool hcb
    cases b <;> simp only [Option.some.injEq, Prod.mk.injEq, true_and] at ha <;> obtain ⟨rfl, rfl⟩ := ha
    · exact .keep H (by simp [execOp, ho, hcb, asBool]) (R hy')
    · exact .keep H (by simp [execOp, ho, hcb, asBool]) (R hx')
  case alloc t =>
    split at hc
    · simp only [Option.bind_eq_some_iff, Option.some.injEq] at hc
      obtain ⟨z, hz, rfl⟩ := hc
      simp only [aop, Option.some.injEq, Prod.mk.injEq, true_and] at ha
      obtain ⟨rfl, rfl⟩ := ha
      have := op_allocT H hz
      simpa only [execOp, ho] using this
    · simp only [Option.bind_eq_some_iff, Option.some.injEq] at hc
      obtain ⟨z, hz, rfl⟩ := hc
      simp only [aop, Option.some.injEq, Prod.mk.injEq, true_and] at ha
      obtain ⟨rfl, rfl⟩ := ha
      have := op_alloc H hz
      simpa only [execOp, ho] using this
  case box t x =>
    obtain ⟨y, hy, rfl⟩ := hc
    simp only [aop, Option.some.injEq, Prod.mk.injEq, true_and] at ha
    obtain ⟨rfl, rfl⟩ := ha
    have := op_box (P := P) H t (R hy)
    simpa only [execOp, ho] using this
  case build t parts =>
    obtain ⟨z, hz, ps, hps, rfl⟩ := hc
    simp only [aop, Option.map_eq_some_iff, Prod.mk.injEq, true_and] at ha
    obtain ⟨l, hl, rfl, rfl⟩ := ha
    have := op_build H hz hps T hl
    simpa only [execOp, ho] using this
  case buildSlice t len parts =>
    split at hc <;> try (cases hc; done)
    rename_i e hd
    simp only [Option.bind_eq_some_iff] at hc
    obtain ⟨s, hs, z, hz, ps, hps, hc⟩ := hc
    split at hc <;> try (cases hc; done)
    rename_i hcond
    obtain rfl := Option.some.inj hc
    by_cases hz0 : len = 0 ∧ ps = []
    · obtain ⟨rfl, rfl⟩ := hz0
      simp only [aop, Option.some.injEq, Prod.mk.injEq, true_and] at ha
      obtain ⟨rfl, rfl⟩ := ha
      have hpe : parts = #[] := by
        have := (mapM_get hps).1
        exact Array.eq_empty_of_size_eq_zero (by simpa using this.symm)
      subst hpe
      have := op_bslice0 H hd hs
      simpa [execOp, ho] using this
    rw [aop_bslice hz0] at ha
    split at ha <;> try (cases ha; done)
    rename_i rows hrows
    have hps' : (parts.toList.mapM fun (i, x) => do pure (i, ← cOpd x)) = some ps := by
      simpa only [Option.bind_eq_bind, Option.pure_def] using hps
    have fin : ∀ b, v = .sl h.length 0 len → f = .push b → (rowsBlk s rows = some b ∨ (rows = [] ∧ ∃ k x, z = [.int k x] ∧ b = .ia k [])) → Runs P (execOp a.eval o) E h v f := by
      rintro b rfl rfl hb
      have := op_bslice H hd hs hz hcond.2.1 hcond.1 hcond.2.2 hps' T hrows hb
      simpa only [execOp, ho] using this
    split at ha
    · rename_i k x
      simp only [Option.some.injEq, Prod.mk.injEq, true_and] at ha
      obtain ⟨rfl, rfl⟩ := ha
      exact fin _ rfl rfl (.inr ⟨rfl, k, x, rfl, rfl⟩)
    · split at ha <;> try (cases ha; done)
      rename_i b hb
      simp only [Option.some.injEq, Prod.mk.injEq, true_and] at ha
      obtain ⟨rfl, rfl⟩ := ha
      exact fin b rfl rfl (.inl hb)
  case load t x =>
    obtain ⟨y, hy, g, hg, hc⟩ := hc
    split at hc
    · rename_i hgt
      subst hgt
      simp only [Option.bind_eq_some_iff, Option.some.injEq] at hc
      obtain ⟨s, hs, rfl⟩ := hc
      simp only [aop] at ha
      split at ha <;> try (cases ha; done)
      rename_i c l hr
      simp only [Option.some.injEq, Prod.mk.injEq] at ha
      obtain ⟨rfl, rfl, rfl⟩ := ha
      have := op_loadN H hg hs (R hy) hr
      simpa only [execOp, ho] using this
    · rename_i hgt
      have hgf : g = false := by simpa using hgt
      subst hgf
      obtain rfl := Option.some.inj hc
      simp only [aop] at ha
      split at ha <;> try (cases ha; done)
      rename_i c l hr
      simp only [Option.some.injEq, Prod.mk.injEq] at ha
      obtain ⟨rfl, rfl, rfl⟩ := ha
      have := op_load1 H hg (R hy) hr
      simpa only [execOp, ho] using this
  case store t x y =>
    obtain ⟨s, hs, x', hx, y', hy, hc⟩ := hc
    split at hc <;> try (cases hc; done)
    rename_i hs0
    obtain rfl := Option.some.inj hc
    simp only [aop] at ha
    split at ha <;> try (cases ha; done)
    rename_i hl
    split at ha <;> try (cases ha; done)
    rename_i c e hw
    simp only [Option.some.injEq, Prod.mk.injEq] at ha
    obtain ⟨rfl, rfl, rfl⟩ := ha
    have := op_store H hs0 hs (R hx) (R hy) (Nat.eq_of_beq_eq_true hl) hw
    simpa only [execOp, ho] using this
  case nilCheck x =>
    obtain ⟨y, hy, rfl⟩ := hc
    simp only [aop] at ha
    have hR := R hy
    split at ha <;> try (cases ha; done)
    all_goals
      rename_i he
      rw [he] at hR
      simp only [Option.some.injEq, Prod.mk.injEq, true_and] at ha
      obtain ⟨rfl, rfl⟩ := ha
      exact op_nilc H hR rfl ho rfl
  case binOp op t x y ty =>
    have eqs : ∀ (neg : Bool) (p : EqPlan), op = (if neg = true then .neq else .eql) → eqPlan P t y = some p → ∀ {x' y' : Opd}, cOpd x = some x' → cOpd y = some y' → aop tm h h.length (eqOp neg p x' y') = some (true, v, f) → Runs P (execOp a.eval o) E h v f := by
      intro neg p hop hp x' y' hx hy ha
      cases p with
      | one k =>
        simp only [eqOp, aop] at ha
        split at ha <;> try (cases ha; done)
        rename_i b hb
        have := op_eq1 (P := P) H hop hp (R hx) (R hy) hb
        cases neg <;> simp only [Option.some.injEq, Prod.mk.injEq, true_and] at ha <;> obtain ⟨rfl, rfl⟩ := ha
        · simpa only [execOp, ho, Bool.false_eq_true, if_false] using this
        · simpa only [execOp, ho, if_true] using this
      | all offs =>
        simp only [eqOp, aop] at ha
        split at ha <;> try (cases ha; done)
        rename_i cs ds hcs hds
        split at ha <;> try (cases ha; done)
        rename_i b hb
        have h1 := R hx
        have h2 := R hy
        rw [hcs] at h1
        rw [hds] at h2
        have := op_eqv (P := P) H hop hp h1 h2 hb
        cases neg <;> simp only [Option.some.injEq, Prod.mk.injEq, true_and] at ha <;> obtain ⟨rfl, rfl⟩ := ha
        · simpa only [execOp, ho, Bool.false_eq_true, if_false] using this
        · simpa only [execOp, ho, if_true] using this
    split at hc
    · rename_i p hp
      simp only [Option.bind_eq_some_iff, Option.some.injEq] at hc
      obtain ⟨x', hx, y', hy, rfl⟩ := hc
      exact eqs false p rfl hp hx hy ha
    · rename_i p hp
      simp only [Option.bind_eq_some_iff, Option.some.injEq] at hc
      obtain ⟨x', hx, y', hy, rfl⟩ := hc
      exact eqs true p rfl hp hx hy ha
    · simp only [Option.bind_eq_some_iff, Option.some.injEq] at hc
      obtain ⟨x', hx, y', hy, rfl⟩ := hc
      simp only [aop, Option.map_eq_some_iff] at ha
      obtain ⟨⟨c, w⟩, hw, he⟩ := ha
      simp only [Prod.mk.injEq] at he
      obtain ⟨rfl, rfl, rfl⟩ := he
      have := op_bin (P := P) H (t := t) (ty := ty) (R hx) (R hy) hw
      simpa only [execOp, ho] using this
  case unOp op t x =>
    obtain ⟨x', hx, rfl⟩ := hc
    simp only [aop, Option.map_eq_some_iff] at ha
    obtain ⟨w, hw, he⟩ := ha
    simp only [Prod.mk.injEq, true_and] at he
    obtain ⟨rfl, rfl⟩ := he
    have := op_un (P := P) H (R hx) hw
    simpa only [execOp, ho] using this
  case convert src dst x =>
    split at hc <;> try (cases hc; done)
    rotate_left
    · rename_i e e2 h1 h2
      split at hc <;> try (cases hc; done)
      rename_i h3
      split at hc <;> try (cases hc; done)
      rename_i hsd
      subst hsd
      simp only [Option.bind_eq_some_iff, Option.some.injEq] at hc
      obtain ⟨x', hx, rfl⟩ := hc
      simp only [aop] at ha
      have hR := R hx
      split at ha <;> try (cases ha; done)
      rename_i b i n hs
      rw [hs] at hR
      split at ha <;> try (cases ha; done)
      rename_i k xs hb
      split at ha <;> try (cases ha; done)
      rename_i hk
      obtain rfl := sameKind_eq hk
      simp only [Option.some.injEq, Prod.mk.injEq, true_and] at ha
      obtain ⟨rfl, rfl⟩ := ha
      have := op_markS (P := P) H h1 h3 hb hR
      simpa only [execOp, ho] using this
    · rename_i e h1 h2
      split at hc <;> try (cases hc; done)
      rename_i h3
      simp only [Option.bind_eq_some_iff, Option.some.injEq] at hc
      obtain ⟨x', hx, rfl⟩ := hc
      have := op_strB H h1 h3 h2 (R hx) ha
      simpa only [execOp, ho] using this
    · rename_i e h1 h2
      split at hc <;> try (cases hc; done)
      rename_i h3
      simp only [Option.bind_eq_some_iff, Option.some.injEq] at hc
      obtain ⟨x', hx, rfl⟩ := hc
      simp only [aop] at ha
      have hR := R hx
      split at ha <;> try (cases ha; done)
      rename_i s hs
      rw [hs] at hR
      simp only [Option.some.injEq, Prod.mk.injEq, true_and] at ha
      obtain ⟨rfl, rfl⟩ := ha
      have := op_bytesS (P := P) H h1 h2 h3 (s := s)
      rw [← rel_str hR] at this
      simpa only [execOp, ho] using this
    rename_i k k' h1 h2
    simp only [Option.bind_eq_some_iff, Option.some.injEq] at hc
    obtain ⟨x', hx, rfl⟩ := hc
    simp only [aop] at ha
    have hR := R hx
    split at ha <;> try (cases ha; done)
    rename_i kk n he
    rw [he] at hR
    simp only [Option.some.injEq, Prod.mk.injEq, true_and] at ha
    obtain ⟨rfl, rfl⟩ := ha
    have := op_conv (P := P) H h1 h2 (kk := kk) (n := n)
    rw [← rel_int hR] at this
    simpa only [execOp, ho] using this
  case makeFunc fn first cap =>
    cases fn <;> simp only [reduceCtorEq] at hc
    rename_i f'
    split at hc <;> try (cases hc; done)
    rename_i h0
    simp only [Option.bind_eq_some_iff, Option.some.injEq] at hc
    obtain ⟨l, hl, rfl⟩ := hc
    simp only [aop, Option.some.injEq, Prod.mk.injEq, true_and] at ha
    obtain ⟨rfl, rfl⟩ := ha
    have hb := Bes.mapM T hl
    have := op_mkfn (P := P) H (f := f') (cap := l.map (ev tm)) (vs := cap.map a.eval) (by simpa using hb)
    have hf : first = #[] := by apply Array.eq_empty_of_size_eq_zero; exact h0
    subst hf
    simpa only [execOp, ho, Array.map_empty] using this
  case makeSlice t l c =>
    split at hc <;> try (cases hc; done)
    rename_i e hd
    simp only [Option.bind_eq_some_iff] at hc
    obtain ⟨s, hs, z, hz, bytes, hby, hc⟩ := hc
    split at hc <;> try (cases hc; done)
    rename_i hcond
    simp only [Option.bind_eq_some_iff, Option.some.injEq] at hc
    obtain ⟨l', hl, c', hc', rfl⟩ := hc
    have hR1 := R hl
    have hR2 := R hc'
    simp only [aop] at ha
    split at ha <;> try (cases ha; done)
    rename_i n m e1 e2
    rw [e1] at hR1
    rw [e2] at hR2
    split at ha
    · rename_i k x
      simp only [Option.some.injEq, Prod.mk.injEq, decide_eq_true_eq] at ha
      obtain ⟨⟨c1, rfl, c3⟩, rfl, rfl⟩ := ha
      have := op_mkslice H hd hs hz hcond.2 hcond.1 hby ⟨c1, c3⟩ (.inl ⟨k, x, rfl, rfl⟩)
      rw [← rel_int hR1] at this
      simp only [execOp, ho]
      rw [show a.eval c = a.eval l by rw [rel_int hR1, rel_int hR2]]
      exact this
    · split at ha <;> try (cases ha; done)
      rename_i hall
      simp only [Option.some.injEq, Prod.mk.injEq, decide_eq_true_eq] at ha
      obtain ⟨⟨c1, rfl, c3⟩, rfl, rfl⟩ := ha
      rw [Bool.and_eq_true] at hall
      have := op_mkslice H hd hs hz hcond.2 hcond.1 hby ⟨c1, c3⟩ (.inr ⟨hall.2, rfl⟩)
      rw [← rel_int hR1] at this
      simp only [execOp, ho]
      rw [show a.eval c = a.eval l by rw [rel_int hR1, rel_int hR2]]
      exact this
  case slice t x lo hi mx =>
    cases mx with
    | some m =>
      cases hi with
      | none =>
        replace hc : cQ P (.slice t x lo none (some m)) = some ao := hc
        simp only [cQ, reduceCtorEq] at hc
      | some hi =>
        replace hc : cQ P (.slice t x lo (some hi) (some m)) = some ao := hc
        simp only [cQ, Option.bind_eq_bind] at hc
        split at hc <;> try (cases hc; done)
        rename_i e hd
        simp only [Option.bind_eq_some_iff, Option.pure_def, Option.some.injEq] at hc
        obtain ⟨lo', hlo, hi', hhi, mx', hmx, s, hs, x', hx, rfl⟩ := hc
        simp only [aop] at ha
        split at ha <;> try (cases ha; done)
        · rename_i b i n c hxe
          have hR := R hx
          rw [hxe] at hR
          split at ha <;> try (cases ha; done)
          rename_i l r q hbl hbr hbq
          simp only [Option.some.injEq, Prod.mk.injEq, decide_eq_true_eq] at ha
          obtain ⟨h0, rfl, rfl⟩ := ha
          obtain ⟨k2, hk2⟩ := (bnd_sound T hhi hbr).resolve_left (by simp)
          obtain ⟨k3, hk3⟩ := (bnd_sound T hmx hbq).resolve_left (by simp)
          simp only [Option.map_some, Option.some.injEq] at hk2 hk3
          have := op_slice3 (k2 := k2) (k3 := k3) H hd hs hR (bnd_sound T hlo hbl) h0
          rw [← hk2, ← hk3] at this
          simpa only [execOp, ho, Option.map_some] using this
        · rename_i k xs hxe
          have hR := R hx
          rw [hxe] at hR
          split at ha <;> try (cases ha; done)
          rename_i hs1
          have hs1 := Nat.eq_of_beq_eq_true hs1
          subst hs1
          split at ha <;> try (cases ha; done)
          rename_i l r q hbl hbr hbq
          simp only [Option.some.injEq, Prod.mk.injEq, decide_eq_true_eq] at ha
          obtain ⟨h0, rfl, rfl⟩ := ha
          obtain ⟨k2, hk2⟩ := (bnd_sound T hhi hbr).resolve_left (by simp)
          obtain ⟨k3, hk3⟩ := (bnd_sound T hmx hbq).resolve_left (by simp)
          simp only [Option.map_some, Option.some.injEq] at hk2 hk3
          have := op_slice3R (k2 := k2) (k3 := k3) H hd hs hR (bnd_sound T hlo hbl) h0
          rw [← hk2, ← hk3] at this
          simpa only [execOp, ho, Option.map_some] using this
    | none =>
      replace hc : cQ P (.slice t x lo hi none) = some ao := hc
      simp only [cQ, Option.bind_eq_bind] at hc
      split at hc <;> try (cases hc; done)
      rotate_left
      · rename_i hd
        simp only [Option.bind_eq_some_iff, Option.pure_def, Option.some.injEq] at hc
        obtain ⟨lo', hlo, hi', hhi, x', hx, rfl⟩ := hc
        simp only [aop] at ha
        split at ha <;> try (cases ha; done)
        rename_i b he
        have hR := R hx
        rw [he] at hR
        split at ha <;> try (cases ha; done)
        rename_i l r hbl hbr
        simp only [Option.some.injEq, Prod.mk.injEq, decide_eq_true_eq] at ha
        obtain ⟨h0, rfl, rfl⟩ := ha
        have := op_sliceStr (P := P) H hd (s := b) (bnd_sound T hlo hbl) (bnd_sound T hhi hbr) h0
        rw [← rel_str hR] at this
        simpa only [execOp, ho, Option.map_none] using this
      rename_i e hd
      simp only [Option.bind_eq_some_iff, Option.pure_def, Option.some.injEq] at hc
      obtain ⟨lo', hlo, hi', hhi, s, hs, x', hx, rfl⟩ := hc
      simp only [aop] at ha
      split at ha
      · rename_i b i n c hxe
        have hR := R hx
        rw [hxe] at hR
        split at ha <;> try (cases ha; done)
        rename_i l r hbl hbr
        split at ha <;> try (cases ha; done)
        rename_i w hw
        simp only [Option.some.injEq, Prod.mk.injEq, decide_eq_true_eq] at ha
        obtain ⟨h0, rfl, rfl⟩ := ha
        have := op_slice_c H hd hs hR (bnd_sound T hlo hbl) (bnd_sound T hhi hbr) h0 hw
        simpa only [execOp, ho, Option.map_none] using this
      · split at ha <;> try (cases ha; done)
        rename_i n hn
        split at ha <;> try (cases ha; done)
        rename_i l r hbl hbr
        split at ha <;> try (cases ha; done)
        rename_i w hw
        simp only [Option.some.injEq, Prod.mk.injEq, decide_eq_true_eq] at ha
        obtain ⟨h0, rfl, rfl⟩ := ha
        have := op_slice H hd hs (R hx) hn (bnd_sound T hlo hbl) (bnd_sound T hhi hbr) h0 hw
        simpa only [execOp, ho, Option.map_none] using this
  case fieldAddr t x i =>
    split at hc <;> try (cases hc; done)
    rename_i fields hd
    simp only [Option.bind_eq_some_iff] at hc
    obtain ⟨fl, hfl, s, hs, hc⟩ := hc
    split at hc <;> try (cases hc; done)
    rename_i hs0
    simp only [Option.bind_eq_some_iff, Option.some.injEq] at hc
    obtain ⟨x', hx, rfl⟩ := hc
    simp only [aop] at ha
    have hR := R hx
    have := op_fld (P := P) H hd hfl hs hs0 hR (v := v)
    split at ha <;> try (cases ha; done)
    all_goals
      rename_i he
      rw [he] at this
      simp only [Option.some.injEq, Prod.mk.injEq, true_and] at ha
      obtain ⟨rfl, rfl⟩ := ha
      simpa only [execOp, ho] using this rfl
  case field t x i =>
    split at hc <;> try (cases hc; done)
    rename_i fields hd
    simp only [Option.bind_eq_some_iff] at hc
    obtain ⟨fl, hfl, s, hs, g, hg, hc⟩ := hc
    split at hc <;> try (cases hc; done)
    rename_i hgs
    simp only [Option.bind_eq_some_iff, Option.some.injEq] at hc
    obtain ⟨x', hx, rfl⟩ := hc
    simp only [aop] at ha
    have hR := R hx
    split at ha <;> try (cases ha; done)
    rename_i cs he
    rw [he] at hR
    have hv : (match (!g), part cs fl.offset s with | true, some [v] => some v | false, some l => some (AV.agg l) | _, _ => none) = some v ∧ f = .keep := by
      split at ha <;> try (cases ha; done)
      all_goals
        rename_i h1 h2
        simp only [Option.some.injEq, Prod.mk.injEq, true_and] at ha
        obtain ⟨rfl, rfl⟩ := ha
        rw [h1, h2]
        exact ⟨rfl, rfl⟩
    obtain ⟨hv, rfl⟩ := hv
    have := op_field H hd hfl hs hg hgs hR hv
    simpa only [execOp, ho] using this
  case indexAddr t x i =>
    split at hc <;> try (cases hc; done)
    · rename_i n e hd
      simp only [Option.bind_eq_some_iff, Option.some.injEq] at hc
      obtain ⟨s, hs, x', hx, i', hi, rfl⟩ := hc
      simp only [aop] at ha
      have hR := R hx
      have hRi := R hi
      split at ha <;> try (cases ha; done)
      rename_i k ii he
      rw [he] at hRi
      have hin : 0 ≤ ii ∧ ii < (n : Int) := by
        split at ha <;> try (cases ha; done)
        all_goals
          simp only [Option.some.injEq, Prod.mk.injEq, decide_eq_true_eq] at ha
          exact ha.1
      have := op_idxA (P := P) H hd hs hR (k := k) hin (v := v)
      split at ha <;> try (cases ha; done)
      all_goals
        rename_i hxe
        rw [hxe] at this
        simp only [Option.some.injEq, Prod.mk.injEq] at ha
        obtain ⟨_, rfl, rfl⟩ := ha
        rw [← rel_int hRi] at this
        simpa only [execOp, ho] using this rfl
    · rename_i e hd
      simp only [Option.bind_eq_some_iff, Option.some.injEq] at hc
      obtain ⟨s, hs, x', hx, i', hi, rfl⟩ := hc
      simp only [aop] at ha
      have hR := R hx
      have hRi := R hi
      split at ha <;> try (cases ha; done)
      rename_i k ii he
      rw [he] at hRi
      split at ha <;> try (cases ha; done)
      · rename_i b r n hxe
        rw [hxe] at hR
        rw [nth_eq] at ha
        split at ha <;> try (cases ha; done)
        · rename_i k' xs hb
          split at ha <;> try (cases ha; done)
          rename_i hs1
          have hs1 := Nat.eq_of_beq_eq_true hs1
          subst hs1
          simp only [Option.some.injEq, Prod.mk.injEq, decide_eq_true_eq] at ha
          obtain ⟨h0, rfl, rfl⟩ := ha
          have := op_idxS_sl H hd hs hR hb rfl (k := k) h0
          rw [← rel_int hRi] at this
          simpa only [execOp, ho] using this
        · rename_i s' rows hb
          split at ha <;> try (cases ha; done)
          rename_i hs1
          have hs1 := Nat.eq_of_beq_eq_true hs1
          subst hs1
          simp only [Option.some.injEq, Prod.mk.injEq, decide_eq_true_eq] at ha
          obtain ⟨h0, rfl, rfl⟩ := ha
          have := op_idxS_sl H hd hs hR hb rfl (k := k) h0
          rw [← rel_int hRi] at this
          simpa only [execOp, ho] using this
      · rename_i kk xs hxe
        rw [hxe] at hR
        split at ha <;> try (cases ha; done)
        rename_i hs1
        have hs1 := Nat.eq_of_beq_eq_true hs1
        subst hs1
        simp only [Option.some.injEq, Prod.mk.injEq, decide_eq_true_eq] at ha
        obtain ⟨h0, rfl, rfl⟩ := ha
        have := op_idxS_ri H hd hs hR (k := k) h0
        rw [← rel_int hRi] at this
        simpa only [execOp, ho] using this
      · rename_i s' rows hxe
        rw [hxe] at hR
        split at ha <;> try (cases ha; done)
        rename_i hs1
        have hs1 := Nat.eq_of_beq_eq_true hs1
        subst hs1
        split at ha <;> try (cases ha; done)
        rename_i row hrow
        rw [nth_eq] at hrow
        simp only [Option.some.injEq, Prod.mk.injEq, decide_eq_true_eq] at ha
        obtain ⟨h0, rfl, rfl⟩ := ha
        have := op_idxS_ro H hd hs hR (k := k) h0 hrow
        rw [← rel_int hRi] at this
        simpa only [execOp, ho] using this
  case index t x i =>
    split at hc <;> try (cases hc; done)
    · rename_i n e hd
      simp only [Option.bind_eq_some_iff] at hc
      obtain ⟨s, hs, g, hg, hc⟩ := hc
      split at hc <;> try (cases hc; done)
      rename_i hgs
      simp only [Option.bind_eq_some_iff, Option.some.injEq] at hc
      obtain ⟨x', hx, i', hi, rfl⟩ := hc
      simp only [aop] at ha
      have hR := R hx
      have hRi := R hi
      split at ha <;> try (cases ha; done)
      rename_i cs k ii he1 he2
      rw [he1] at hR
      rw [he2] at hRi
      have hv : (match (!g), part cs (ii.toNat * s) s with | true, some [v] => some v | false, some l => some (AV.agg l) | _, _ => none) = some v ∧ f = .keep ∧ 0 ≤ ii ∧ ii < (n : Int) := by
        split at ha <;> try (cases ha; done)
        all_goals
          rename_i h1 h2
          simp only [Option.some.injEq, Prod.mk.injEq, decide_eq_true_eq] at ha
          obtain ⟨h0, rfl, rfl⟩ := ha
          rw [h1, h2]
          exact ⟨rfl, rfl, h0⟩
      obtain ⟨hv, rfl, h0⟩ := hv
      have := op_indexA H hd hs hg hgs hR (k := k) h0 hv
      rw [← rel_int hRi] at this
      simpa only [execOp, ho] using this
    · rename_i hd
      simp only [Option.bind_eq_some_iff, Option.some.injEq] at hc
      obtain ⟨x', hx, i', hi, rfl⟩ := hc
      simp only [aop] at ha
      have hR := R hx
      have hRi := R hi
      split at ha <;> try (cases ha; done)
      rename_i s k ii he1 he2
      rw [he1] at hR
      rw [he2] at hRi
      simp only [Option.some.injEq, Prod.mk.injEq, decide_eq_true_eq] at ha
      obtain ⟨h0, rfl, rfl⟩ := ha
      have := op_indexStr (P := P) H hd (s := s) (k := k) h0
      rw [← rel_int hRi, ← rel_str hR] at this
      simpa only [execOp, ho] using this
  case extract t i =>
    obtain ⟨x', hx, rfl⟩ := hc
    simp only [aop] at ha
    have hR := R hx
    split at ha <;> try (cases ha; done)
    rename_i vs he
    rw [he] at hR
    split at ha <;> try (cases ha; done)
    rename_i w hw
    rw [nth_eq] at hw
    simp only [Option.some.injEq, Prod.mk.injEq, true_and] at ha
    obtain ⟨rfl, rfl⟩ := ha
    have := op_ext (P := P) H hR hw
    simpa only [execOp, ho] using this
  case makeMap t r =>
    cases r with
    | some r =>
      cases r <;> try (cases hc; done)
      rename_i rv
      cases rv <;> try (cases hc; done)
      rename_i k n
      simp only at hc
      split at hc <;> try (cases hc; done)
      rename_i hd
      obtain rfl := Option.some.inj hc
      simp only [aop, Option.some.injEq, Prod.mk.injEq, true_and] at ha
      obtain ⟨rfl, rfl⟩ := ha
      have := op_mkmap (P := P) H t
      simp only [Runs, Instr.makeMap] at this
      simpa [execOp, ho, Instr.makeMap, Act.eval, run_underlying hd, asInt, asIntOf, Runs] using this
    | none =>
      obtain rfl := Option.some.inj hc
      simp only [aop, Option.some.injEq, Prod.mk.injEq, true_and] at ha
      obtain ⟨rfl, rfl⟩ := ha
      have := op_mkmap (P := P) H t
      simpa only [execOp, ho, Option.map_none] using this
  case lookup t x i ok =>
    split at hc <;> try (cases hc; done)
    rename_i k e hd
    split at hc <;> try (cases hc; done)
    rename_i hk
    simp only [Option.bind_eq_some_iff, Option.some.injEq] at hc
    obtain ⟨ti, hti, zv, hzv, z, hz, x', hx, i', hi, rfl⟩ := hc
    simp only [aop] at ha
    have hR := R hx
    have hRi := R hi
    split at ha <;> try (cases ha; done)
    rename_i b n e1 e2
    rw [e1] at hR
    rw [e2] at hRi
    split at ha <;> try (cases ha; done)
    rename_i es hb
    simp only [Option.some.injEq, Prod.mk.injEq, true_and] at ha
    obtain ⟨rfl, rfl⟩ := ha
    have := op_mlook H hd hk hti hzv hz ok hb hR n
    rw [← rel_int hRi] at this
    simpa only [execOp, ho] using this
  case mapUpdate t x i y =>
    split at hc <;> try (cases hc; done)
    rename_i k e hd
    split at hc <;> try (cases hc; done)
    rename_i hk
    simp only [Option.bind_eq_some_iff, Option.some.injEq] at hc
    obtain ⟨x', hx, i', hi, y', hy, rfl⟩ := hc
    simp only [aop] at ha
    have hR := R hx
    have hRi := R hi
    have hRy := R hy
    split at ha <;> try (cases ha; done)
    rename_i b n e1 e2
    rw [e1] at hR
    rw [e2] at hRi
    split at ha <;> try (cases ha; done)
    rename_i es hb
    split at ha <;> try (cases ha; done)
    rename_i hcl
    simp only [Option.some.injEq, Prod.mk.injEq, true_and] at ha
    obtain ⟨rfl, rfl⟩ := ha
    have := op_mset (P := P) H hd hk hb hR n (closed1_nil hcl hRy)
    rw [← rel_int hRi] at this
    simpa only [execOp, ho] using this
  case call c =>
    obtain ⟨callee, args, argTypes⟩ := c
    cases callee with
    | invoke r m => simp only [reduceCtorEq] at hc
    | value f => simp only [reduceCtorEq] at hc
    | builtin b =>
      cases b <;> simp only [reduceCtorEq, Option.bind_eq_some_iff] at hc
      case len =>
        obtain ⟨t, ht, hc⟩ := hc
        split at hc <;> try (cases hc; done)
        rename_i x hx
        have hargs : args = #[x] := by cases args; simpa using hx
        subst hargs
        split at hc <;> try (cases hc; done)
        · rename_i hd
          simp only [Option.bind_eq_some_iff, Option.some.injEq] at hc
          obtain ⟨x', hx', rfl⟩ := hc
          simp only [aop] at ha
          have hR := R hx'
          split at ha <;> try (cases ha; done)
          rename_i s he
          rw [he] at hR
          simp only [Option.some.injEq, Prod.mk.injEq, true_and] at ha
          obtain ⟨rfl, rfl⟩ := ha
          refine .keep H (u := .int .i64 s.size) ?_ (.int ..)
          simp [execOp, ho, resolve, invoke, builtin, rel_str hR, Builtin.len_, ht, run_underlying hd, goInt]
        · rename_i e hd
          simp only [Option.bind_eq_some_iff, Option.some.injEq] at hc
          obtain ⟨x', hx', rfl⟩ := hc
          simp only [aop] at ha
          split at ha <;> try (cases ha; done)
          rename_i n hn
          simp only [Option.some.injEq, Prod.mk.injEq, true_and] at ha
          obtain ⟨rfl, rfl⟩ := ha
          obtain ⟨a', cap, hv, _⟩ := slice_form (R hx') hn
          refine .keep H (u := .int .i64 n) ?_ (.int ..)
          simp [execOp, ho, resolve, invoke, builtin, hv, Builtin.len_, ht, run_underlying hd, goInt]
        · rename_i hd
          simp only [Option.bind_eq_some_iff, Option.some.injEq] at hc
          obtain ⟨x', hx', rfl⟩ := hc
          simp only [aop] at ha
          have hR := R hx'
          split at ha <;> try (cases ha; done)
          rename_i b he
          rw [he] at hR
          split at ha <;> try (cases ha; done)
          rename_i es hb
          simp only [Option.some.injEq, Prod.mk.injEq, true_and] at ha
          obtain ⟨rfl, rfl⟩ := ha
          have := op_mlen (P := P) (ty := o.type) H hd hb hR
          simp only [Runs, Builtin.len_, Sem.run_bind] at this
          simpa [execOp, ho, resolve, invoke, builtin, Builtin.len_, ht, run_underlying hd, Runs] using this
      case delete =>
        obtain ⟨t, ht, hc⟩ := hc
        split at hc <;> try (cases hc; done)
        rename_i x i hxy
        have hargs : args = #[x, i] := by cases args; simpa using hxy
        subst hargs
        split at hc <;> try (cases hc; done)
        rename_i k e hd
        split at hc <;> try (cases hc; done)
        rename_i hk
        simp only [Option.bind_eq_some_iff, Option.some.injEq] at hc
        obtain ⟨x', hx', i', hi', rfl⟩ := hc
        simp only [aop] at ha
        have hR := R hx'
        have hRi := R hi'
        split at ha <;> try (cases ha; done)
        rename_i b n e1 e2
        rw [e1] at hR
        rw [e2] at hRi
        split at ha <;> try (cases ha; done)
        rename_i es hb
        simp only [Option.some.injEq, Prod.mk.injEq, true_and] at ha
        obtain ⟨rfl, rfl⟩ := ha
        have := op_mdel (P := P) (ty := o.type) H hd hk hb hR n ht
        rw [← rel_int hRi] at this
        simpa [execOp, ho, resolve, invoke, builtin] using this
      case append =>
        obtain ⟨t, ht, u, hu, hc⟩ := hc
        split at hc <;> try (cases hc; done)
        rename_i x y hxy
        have hargs : args = #[x, y] := by cases args; simpa using hxy
        subst hargs
        split at hc <;> try (cases hc; done)
        rename_i e hd
        simp only [Option.bind_eq_some_iff] at hc
        obtain ⟨s, hs, z, hz, hc⟩ := hc
        split at hc <;> try (cases hc; done)
        rename_i hcond
        obtain ⟨hs0, hzl, hsz⟩ := hcond
        have hat : argTypes = #[t, u] := by
          apply Array.ext'
          match argTypes, hsz, ht, hu with
          | ⟨[p, q]⟩, _, ht, hu => simp at ht hu; simp [ht, hu]
        subst hat
        split at hc
        rotate_left
        · split at hc <;> try (cases hc; done)
          · rename_i hud
            simp only [Option.bind_eq_some_iff, Option.some.injEq] at hc
            obtain ⟨bytes, hby, x', hx', y', hy', rfl⟩ := hc
            by_cases hsl : ∃ b i n c, ev tm x' = .slc b i n c
            · obtain ⟨b, i, n, c, hxe⟩ := hsl
              have := op_appendZ_c (P := P) (ty := o.type) H ⟨hd, hs, hz, hzl, hs0, hby⟩ hud (R hx') (R hy') hxe ha
              simpa [execOp, ho, resolve, invoke, builtin] using this
            · have := op_appendZ (P := P) (ty := o.type) H ⟨hd, hs, hz, hzl, hs0, hby⟩ hud (R hx') (R hy') (fun b i n c he => hsl ⟨b, i, n, c, he⟩) ha
              simpa [execOp, ho, resolve, invoke, builtin] using this
          · rename_i hud _
            split at hc <;> try (cases hc; done)
            rename_i hs1
            simp only [Option.bind_eq_some_iff, Option.some.injEq] at hc
            obtain ⟨bytes, hby, x', hx', y', hy', rfl⟩ := hc
            have := op_appendS (P := P) (ty := o.type) H ⟨hd, hs, hz, hzl, hs0, hby⟩ hud (R hx') (R hy') (Decidable.not_not.1 hs1) ha
            simpa [execOp, ho, resolve, invoke, builtin] using this
        rename_i htu
        subst htu
        simp only [Option.bind_eq_some_iff, Option.some.injEq] at hc
        obtain ⟨bytes, hby, x', hx', y', hy', rfl⟩ := hc
        by_cases hsl : ∃ b i n c, ev tm x' = .slc b i n c
        · obtain ⟨b, i, n, c, hxe⟩ := hsl
          have := op_append_c (P := P) (ty := o.type) H ⟨hd, hs, hz, hzl, hs0, hby⟩ (R hx') (R hy') hxe ha
          simpa [execOp, ho, resolve, invoke, builtin] using this
        · have := op_append (P := P) (ty := o.type) H ⟨hd, hs, hz, hzl, hs0, hby⟩ (R hx') (R hy') (fun b i n c he => hsl ⟨b, i, n, c, he⟩) ha
          simpa [execOp, ho, resolve, invoke, builtin] using this
      case copy =>
        obtain ⟨t, ht, hc⟩ := hc
        split at hc <;> try (cases hc; done)
        rename_i x y hxy
        have hargs : args = #[x, y] := by cases args; simpa using hxy
        subst hargs
        split at hc <;> try (cases hc; done)
        rename_i e hd
        simp only [Option.bind_eq_some_iff] at hc
        obtain ⟨s, hs, hc⟩ := hc
        split at hc <;> try (cases hc; done)
        rename_i hs0
        simp only [Option.bind_eq_some_iff, Option.some.injEq] at hc
        obtain ⟨x', hx', y', hy', rfl⟩ := hc
        by_cases hsl : ∃ b i n c, ev tm x' = .slc b i n c
        · obtain ⟨b, i, n, c, hxe⟩ := hsl
          have := op_copy_c (P := P) (ty := o.type) H hd hs hs0 ht (R hx') (R hy') hxe ha
          simpa [execOp, ho, resolve, invoke, builtin] using this
        · have := op_copy (P := P) (ty := o.type) H hd hs hs0 ht (R hx') (R hy') (fun b i n c he => hsl ⟨b, i, n, c, he⟩) ha
          simpa [execOp, ho, resolve, invoke, builtin] using this
      case cap =>
        obtain ⟨t, ht, hc⟩ := hc
        split at hc <;> try (cases hc; done)
        rename_i x hx
        have hargs : args = #[x] := by cases args; simpa using hx
        subst hargs
        split at hc <;> try (cases hc; done)
        rename_i e hd
        simp only [Option.bind_eq_some_iff, Option.some.injEq] at hc
        obtain ⟨x', hx', rfl⟩ := hc
        simp only [aop] at ha
        split at ha <;> try (cases ha; done)
        rename_i b i n c hxe
        have hR := R hx'
        rw [hxe] at hR
        simp only [Option.some.injEq, Prod.mk.injEq, true_and] at ha
        obtain ⟨rfl, rfl⟩ := ha
        obtain ⟨cb, base, off, hv, _⟩ := rel_slc hR
        refine .keep H (u := .int .i64 c) ?_ (.int ..)
        simp [execOp, ho, resolve, invoke, builtin, hv, Builtin.cap_, ht, run_underlying hd, goInt]
      case clear =>
        obtain ⟨t, ht, hc⟩ := hc
        split at hc <;> try (cases hc; done)
        rename_i x hx
        have hargs : args = #[x] := by cases args; simpa using hx
        subst hargs
        split at hc <;> try (cases hc; done)
        rename_i e hd
        simp only [Option.bind_eq_some_iff] at hc
        obtain ⟨s, hs, z, hz, hc⟩ := hc
        split at hc <;> try (cases hc; done)
        rename_i hcond
        simp only [Option.bind_eq_some_iff, Option.some.injEq] at hc
        obtain ⟨x', hx', rfl⟩ := hc
        have := op_clear_c (P := P) (ty := o.type) H hd hs hz hcond.1 hcond.2 ht (R hx') ha
        simpa [execOp, ho, resolve, invoke, builtin] using this
      case max =>
        split at hc <;> try (cases hc; done)
        rename_i x y hxy
        have hargs : args = #[x, y] := by cases args; simpa using hxy
        subst hargs
        simp only [Option.bind_eq_some_iff, Option.some.injEq] at hc
        obtain ⟨x', hx', y', hy', rfl⟩ := hc
        simp only [aop] at ha
        have h1 := R hx'
        have h2 := R hy'
        split at ha <;> try (cases ha; done)
        rename_i k n k' m e1 e2
        rw [e1] at h1
        rw [e2] at h2
        simp only [Option.some.injEq, Prod.mk.injEq, true_and] at ha
        obtain ⟨rfl, rfl⟩ := ha
        refine .keep H (u := .int k (if m > n then m else n)) ?_ (.int ..)
        simp [execOp, ho, resolve, invoke, builtin, rel_int h1, rel_int h2, Builtin.max_, Builtin.max2]
      case min =>
        split at hc <;> try (cases hc; done)
        rename_i x y hxy
        have hargs : args = #[x, y] := by cases args; simpa using hxy
        subst hargs
        simp only [Option.bind_eq_some_iff, Option.some.injEq] at hc
        obtain ⟨x', hx', y', hy', rfl⟩ := hc
        simp only [aop] at ha
        have h1 := R hx'
        have h2 := R hy'
        split at ha <;> try (cases ha; done)
        rename_i k n k' m e1 e2
        rw [e1] at h1
        rw [e2] at h2
        simp only [Option.some.injEq, Prod.mk.injEq, true_and] at ha
        obtain ⟨rfl, rfl⟩ := ha
        refine .keep H (u := .int k (if m < n then m else n)) ?_ (.int ..)
        simp [execOp, ho, resolve, invoke, builtin, rel_int h1, rel_int h2, Builtin.min_, Builtin.min2]

theorem aop_frz_sound {op : Op} {ao : AOp} (hc : cQ P op = some ao) (fz : Bool) {tm : List (Nat × AV)} {a : Act} (H : HRel E h) (T : TRel E tm a) {v : AV} {f : Eff} (ha : aop tm h h.length (ao.frz fz) = some (true, v, f))
    {o : Oper} (ho : o.op = op) : Runs P (execOp a.eval o) E h v f := by
  cases fz with
  | false =>
    have : ao.frz false = ao := by cases ao <;> rfl
    rw [this] at ha
    exact aop_sound hc H T ha ho
  | true =>
    by_cases hb : ∃ s z len ps, ao = .bslice s z len ps
    · obtain ⟨s, z, len, ps, rfl⟩ := hb
      cases op <;> simp only [cQ, Option.bind_eq_bind, Option.bind_eq_some_iff, Option.pure_def, Option.some.injEq, reduceCtorEq, and_false, exists_false] at hc
      case buildSlice t len' parts =>
        split at hc <;> try (cases hc; done)
        rename_i e hd
        simp only [Option.bind_eq_some_iff] at hc
        obtain ⟨s', hs, z', hz, ps', hps, hc⟩ := hc
        split at hc <;> try (cases hc; done)
        rename_i hcond
        simp only [Option.some.injEq, AOp.bslice.injEq] at hc
        obtain ⟨rfl, rfl, rfl, rfl⟩ := hc
        have hps' : (parts.toList.mapM fun (i, x) => do pure (i, ← cOpd x)) = some ps' := by
          simpa only [Option.bind_eq_bind, Option.pure_def] using hps
        simp only [AOp.frz, aop] at ha
        split at ha <;> try (cases ha; done)
        rename_i rows hrows
        split at ha <;> try (cases ha; done)
        rename_i b hb
        have := fun hv => op_bfrz (P := P) H hd hs hz hcond.2.1 hcond.1 hcond.2.2 hps' T hrows hb (v := v) hv
        split at ha
        · rename_i k l
          simp only [Option.some.injEq, Prod.mk.injEq, true_and] at ha
          obtain ⟨rfl, rfl⟩ := ha
          simpa only [execOp, ho] using this (.inl ⟨k, l, rfl, rfl⟩)
        · rename_i s2 l
          simp only [Option.some.injEq, Prod.mk.injEq, true_and] at ha
          obtain ⟨rfl, rfl⟩ := ha
          simpa only [execOp, ho] using this (.inr ⟨s2, l, rfl, rfl⟩)
        · cases ha
        · cases ha
      case binOp op t x y ty =>
        split at hc
        · rename_i p _
          simp only [Option.bind_eq_some_iff, Option.some.injEq] at hc
          obtain ⟨_, _, _, _, he⟩ := hc
          cases p <;> cases he
        · rename_i p _
          simp only [Option.bind_eq_some_iff, Option.some.injEq] at hc
          obtain ⟨_, _, _, _, he⟩ := hc
          cases p <;> cases he
        · simp only [Option.bind_eq_some_iff, Option.some.injEq] at hc
          obtain ⟨_, _, _, _, he⟩ := hc
          cases he
      all_goals (exfalso; (repeat' (first | (rename_i heq _; cases heq; done) | (rename_i heq _ _; cases heq; done) | (cases hc; done) | (obtain ⟨_, _, hc⟩ := hc) | (split at hc) | (simp only [Option.bind_eq_some_iff, Option.some.injEq, reduceCtorEq, and_false, exists_false] at hc))))
    · by_cases hm : ∃ y s z l c, ao = .mkslice y s z l c
      · obtain ⟨y, s, z, l, c, rfl⟩ := hm
        cases op <;> simp only [cQ, Option.bind_eq_bind, Option.bind_eq_some_iff, Option.pure_def, Option.some.injEq, reduceCtorEq, and_false, exists_false] at hc
        case makeSlice t l0 c0 =>
          split at hc <;> try (cases hc; done)
          rename_i e hd
          simp only [Option.bind_eq_some_iff] at hc
          obtain ⟨s', hs, z', hz, bytes, hby, hc⟩ := hc
          split at hc <;> try (cases hc; done)
          rename_i hcond
          simp only [Option.bind_eq_some_iff, Option.some.injEq] at hc
          obtain ⟨l', hl, c', hc', he⟩ := hc
          simp only [AOp.mkslice.injEq] at he
          obtain ⟨rfl, rfl, rfl, rfl, rfl⟩ := he
          have hR1 := cOpd_rel T hl
          have hR2 := cOpd_rel T hc'
          simp only [AOp.frz, aop] at ha
          split at ha <;> try (cases ha; done)
          rename_i n m e1 e2
          rw [e1] at hR1
          rw [e2] at hR2
          split at ha
          · rename_i k x
            simp only [Option.some.injEq, Prod.mk.injEq, decide_eq_true_eq] at ha
            obtain ⟨⟨c1, rfl, c3⟩, rfl, rfl⟩ := ha
            have := op_mkfrz H hd hs hz hcond.2 hcond.1 hby ⟨c1, c3⟩ (.inl ⟨k, x, rfl, rfl⟩) (.inl ⟨_, _, rfl, rfl⟩)
            rw [← rel_int hR1] at this
            simp only [execOp, ho]
            rw [show a.eval c0 = a.eval l0 by rw [rel_int hR1, rel_int hR2]]
            exact this
          · split at ha <;> try (cases ha; done)
            rename_i hall
            simp only [Option.some.injEq, Prod.mk.injEq, decide_eq_true_eq] at ha
            obtain ⟨⟨c1, rfl, c3⟩, rfl, rfl⟩ := ha
            rw [Bool.and_eq_true] at hall
            have := op_mkfrz H hd hs hz hcond.2 hcond.1 hby ⟨c1, c3⟩ (.inr ⟨hall.2, rfl⟩) (.inr ⟨_, _, rfl, rfl⟩)
            rw [← rel_int hR1] at this
            simp only [execOp, ho]
            rw [show a.eval c0 = a.eval l0 by rw [rel_int hR1, rel_int hR2]]
            exact this
        case binOp op t x y ty =>
          split at hc
          · rename_i p _
            simp only [Option.bind_eq_some_iff, Option.some.injEq] at hc
            obtain ⟨_, _, _, _, he⟩ := hc
            cases p <;> cases he
          · rename_i p _
            simp only [Option.bind_eq_some_iff, Option.some.injEq] at hc
            obtain ⟨_, _, _, _, he⟩ := hc
            cases p <;> cases he
          · simp only [Option.bind_eq_some_iff, Option.some.injEq] at hc
            obtain ⟨_, _, _, _, he⟩ := hc
            cases he
        all_goals (exfalso; (repeat' (first | contradiction | (rename_i heq _; cases heq; done) | (rename_i heq _ _; cases heq; done) | (cases hc; done) | (obtain ⟨_, _, hc⟩ := hc) | (split at hc) | (simp only [Option.bind_eq_some_iff, Option.some.injEq, reduceCtorEq, and_false, exists_false] at hc))))
      · have : ao.frz true = ao := by
          cases ao <;> first | rfl | exact absurd ⟨_, _, _, _, rfl⟩ hb | exact absurd ⟨_, _, _, _, _, rfl⟩ hm
        rw [this] at ha
        exact aop_sound hc H T ha ho

theorem cOp_inv {op : Op} {ao : AOp} (hc : cOp P op = some ao) :
    (∃ f args ts l, op = .call ⟨.value (.func f), args, ts⟩ ∧ args.toList.mapM cOpd = some l ∧ ao = .call f l) ∨
    (∃ x y args ts l, op = .call ⟨.value x, args, ts⟩ ∧ cOpd x = some y ∧ args.toList.mapM cOpd = some l ∧ ao = .callv y l) ∨ (cQ P op = some ao ∧ ao.quiet = true) := by
  unfold cOp at hc
  split at hc
  · rename_i f args ts
    rw [Option.map_eq_some_iff] at hc
    obtain ⟨l, hl, rfl⟩ := hc
    exact .inl ⟨f, args, ts, l, rfl, hl, rfl⟩
  · rename_i x args ts _
    rw [Option.bind_eq_some_iff] at hc
    obtain ⟨y, hy, hc⟩ := hc
    rw [Option.map_eq_some_iff] at hc
    obtain ⟨l, hl, rfl⟩ := hc
    exact .inr (.inl ⟨x, y, args, ts, l, rfl, hy, hl, rfl⟩)
  · rw [Option.filter_eq_some_iff] at hc
    exact .inr (.inr hc)

end Go.AL

/-! What isn't needed is dropped. Seat-independent. -/

namespace Go.AL
variable {E : Env} {h : AHeap} {P : Program}

theorem idx_get : ∀ {keep : List Nat} {b i : Nat}, idx keep b = some i → keep[i]? = some b
  | [], _, _, h => by simp [idx] at h
  | k :: ks, b, i, h => by
    simp only [idx] at h
    split at h
    · rename_i hb
      obtain rfl := Option.some.inj h
      simp [Nat.eq_of_beq_eq_true hb]
    · rw [Option.map_eq_some_iff] at h
      obtain ⟨j, hj, rfl⟩ := h
      simpa using idx_get hj

theorem okKeep_mem : ∀ {keep : List Nat} {n0 hn : Nat}, okKeep n0 hn keep = true → ∀ k ∈ keep, n0 ≤ k ∧ k < hn
  | [], _, _, _, k, hk => by simp at hk
  | x :: xs, n0, hn, h, k, hk => by
    simp only [okKeep, Bool.and_eq_true] at h
    rcases List.mem_cons.1 hk with rfl | hk
    · exact ⟨Nat.le_of_ble_eq_true h.1.1.1, by have := h.1.1.2; simp [Nat.blt_eq] at this; exact this⟩
    · exact okKeep_mem h.2 k hk

theorem okKeep_inj : ∀ {keep : List Nat} {n0 hn : Nat}, okKeep n0 hn keep = true → ∀ (i j : Nat) k, keep[i]? = some k → keep[j]? = some k → i = j
  | [], _, _, _, i, j, k, hi, _ => by simp at hi
  | x :: xs, n0, hn, h, i, j, k, hi, hj => by
    simp only [okKeep, Bool.and_eq_true, Bool.not_eq_true', List.any_eq_false] at h
    have key : ∀ q : Nat, xs[q]? = some x → False := fun q hq => h.1.2 x (List.mem_of_getElem? hq) (by simp)
    cases i with
    | zero =>
      simp only [List.getElem?_cons_zero, Option.some.injEq] at hi
      subst hi
      cases j with
      | zero => rfl
      | succ j => exact (key j (by simpa using hj)).elim
    | succ i =>
      cases j with
      | zero =>
        simp only [List.getElem?_cons_zero, Option.some.injEq] at hj
        subst hj
        exact (key i (by simpa using hi)).elim
      | succ j => rw [okKeep_inj h.2 i j k (by simpa using hi) (by simpa using hj)]

/-- The places behind the dropping. -/
def Shp.gc (S : Shp) (n0 : Nat) (keep : List Nat) : Shp :=
  ⟨S.ρ.take n0 ++ keep.map fun k => (S.ρ[k]?).getD (0, 0), S.sh.take n0 ++ keep.map fun k => (S.sh[k]?).getD none⟩

/-- What is frozen joins what stays as it is. -/
def Env.gc (E : Env) (n0 : Nat) (keep fz : List Nat) (h : AHeap) : Env :=
  { w := E.w, F := fun b => E.F b ∨ ∃ k base bk, k ∈ fz ∧ E.S.ρ[k]? = some (b, base) ∧ h[k]? = some (some bk), S := E.S.gc n0 keep }

/-- New number's place, old number's place. -/
theorem gc_get {S : Shp} {n0 : Nat} {keep : List Nat} (hl : S.ρ.length = S.sh.length) (h0 : n0 ≤ S.ρ.length) (hk : ∀ k ∈ keep, n0 ≤ k ∧ k < S.ρ.length) {b b' : Nat} (hb : newNo n0 keep b = some b') :
    (S.gc n0 keep).ρ[b']? = S.ρ[b]? ∧ (S.gc n0 keep).sh[b']? = S.sh[b]? := by
  unfold newNo at hb
  have t1 : (S.ρ.take n0).length = n0 := by simp; omega
  have t2 : (S.sh.take n0).length = n0 := by simp; omega
  split at hb
  · rw [Option.map_eq_some_iff] at hb
    obtain ⟨i, hi, rfl⟩ := hb
    have hg := idx_get hi
    have hm := hk b (List.mem_of_getElem? hg)
    simp only [Shp.gc]
    rw [List.getElem?_append_right (by omega), List.getElem?_append_right (by omega), t1, t2, show n0 + i - n0 = i by omega, List.getElem?_map, List.getElem?_map, hg]
    simp only [Option.map_some]
    rw [List.getElem?_eq_getElem (show b < S.ρ.length by omega), List.getElem?_eq_getElem (show b < S.sh.length by omega)]
    exact ⟨rfl, rfl⟩
  · rename_i hlt
    obtain rfl := Option.some.inj hb
    have hlt : b < n0 := by
      rcases Nat.lt_or_ge b n0 with h | h
      · exact h
      · rw [Nat.ble_eq_true_of_le h] at hlt; cases hlt
    simp only [Shp.gc]
    rw [List.getElem?_append_left (by omega), List.getElem?_append_left (by omega), List.getElem?_take, List.getElem?_take, if_pos hlt, if_pos hlt]
    exact ⟨rfl, rfl⟩


/-- What frozen blocks hold. -/
def Fz (w : World) (F : Nat → Prop) (S : Shp) (φ : Nat → Option ABlk) : Prop := ∀ k b, φ k = some b → b.fits ∧ ∃ cb base c e f, S.ρ[k]? = some (cb, base) ∧ S.sh[k]? = some (some b.shape) ∧
  w.heap[cb]? = some (Obj.cells c e f) ∧ F cb ∧ ∀ i j x, b.cell i j = some x → ∃ v, c[base + i * b.shape.1 + j]? = some v ∧ Rel w F .nil x v

theorem Fz.nil (w : World) (F : Nat → Prop) (S : Shp) : Fz w F S (fzOf []) := fun k b h => by simp [fzOf] at h

section
variable {w : World} {F : Nat → Prop} {S S' : Shp} {σ : Nat → Option Nat} {φ : Nat → Option ABlk}

theorem fz_bp (hφ : Fz w F S φ) {b j : Nat} {v : Value} (hr : Rel w F S (.bp b j) v) {cs : List AV} (h : φ b = some (.box cs)) : Rel w F S' (.rp cs j) v := by
  obtain ⟨_, cb, base, c, e, f, g1, g2, g3, g4, g5⟩ := hφ _ _ h
  cases hr with
  | bp _ _ _ cb' base' off h1 h2 =>
    rw [g1] at h1
    obtain ⟨rfl, rfl⟩ := Prod.mk.inj (Option.some.inj h1)
    have cell : ∀ (q : Nat) x, cs[q]? = some x → ∃ v, c[base + q]? = some v ∧ Rel w F .nil x v := fun q x hx => by
      have := g5 0 q x (by simp [ABlk.cell, hx])
      simpa [ABlk.shape] using this
    refine .rp _ _ _ _ _ _ (fun q => (c[base + q]?).getD undef) g4 h2 (fun q x hx => ?_) fun q x hx => ?_
    · obtain ⟨v, hv, _⟩ := cell q x hx
      simp [World.cell?, g3, hv]
    · obtain ⟨v, hv, hR⟩ := cell q x hx
      simpa [hv] using hR

theorem fz_sl (hφ : Fz w F S φ) {b i n : Nat} {v : Value} (hr : Rel w F S (.sl b i n) v) :
    Rel w F S' (match φ b with | some (.ia k xs) => .ri k ((xs.drop i).take n) | some (.arr s rows) => .ro s ((rows.drop i).take n) | _ => .len n) v := by
  cases hr with
  | sl _ _ _ _ cb base off cap h1 h2 h3 =>
    split
    · rename_i k xs h
      obtain ⟨_, cb', base', c, e, f, g1, g2, g3, g4, g5⟩ := hφ _ _ h
      rw [h1] at g1
      obtain ⟨rfl, rfl⟩ := Prod.mk.inj (Option.some.inj g1)
      obtain ⟨k1, k2, k3, c', e', f', k4, k5⟩ := h2 _ _ g2
      have hlen : ((xs.drop i).take n).length = n := by simp; omega
      refine .ri _ _ _ _ _ _ hlen.symm h3 (fun q x hx => ?_) (by simp)
      rw [List.getElem?_take] at hx
      split at hx <;> try (cases hx; done)
      rw [List.getElem?_drop] at hx
      obtain ⟨u, hu1, hu2⟩ := g5 (i + q) 0 (.int k x) (by simp [ABlk.cell, hx])
      cases hu2
      refine ⟨cb, off, rfl, g4, ?_⟩
      simp only [ABlk.shape] at hu1
      rw [k1.resolve_left (by omega)]
      simp only [World.cell?, g3, Option.isSome_none, Bool.false_eq_true, if_false]
      rw [← hu1]; congr 1; omega
    · rename_i s rows h
      obtain ⟨g0, cb', base', c, e, f, g1, g2, g3, g4, g5⟩ := hφ _ _ h
      rw [h1] at g1
      obtain ⟨rfl, rfl⟩ := Prod.mk.inj (Option.some.inj g1)
      obtain ⟨k1, k2, k3, c', e', f', k4, k5⟩ := h2 _ _ g2
      try simp only [ABlk.shape] at k1 k2 k3 k5 g5
      have hlen : ((rows.drop i).take n).length = n := by simp; omega
      have cell : ∀ q j row x, ((rows.drop i).take n)[q]? = some row → row[j]? = some x → rows[i + q]? = some row ∧ ∃ u, c[base + (i + q) * s + j]? = some u ∧ Rel w F .nil x u := by
        intro q j row x hq hx
        rw [List.getElem?_take] at hq
        split at hq <;> try (cases hq; done)
        rw [List.getElem?_drop] at hq
        exact ⟨hq, g5 (i + q) j x (by simp [ABlk.cell, hq, hx])⟩
      refine .ro _ _ _ _ _ _ (fun q j => (c[base + (i + q) * s + j]?).getD undef) hlen.symm h3 (fun q row hq => ?_) (fun q j row x hq hx => ?_) (by simp)
      · have hq0 := hq
        rw [List.getElem?_take] at hq
        split at hq <;> try (cases hq; done)
        rw [List.getElem?_drop] at hq
        refine ⟨g0 _ row hq, cb, off, rfl, g4, fun j x hx => ?_⟩
        obtain ⟨_, u, hu, _⟩ := cell q j row x hq0 hx
        simp only [hu, Option.getD_some]
        rw [k1.resolve_left (by omega)]
        simp only [World.cell?, g3, Option.isSome_none, Bool.false_eq_true, if_false]
        rw [← hu]; congr 1; rw [Nat.add_mul]; omega
      · obtain ⟨_, u, hu, hR⟩ := cell q j row x hq hx
        simp only [hu, Option.getD_some]
        exact hR
    · exact .len _ _ _ _ h3 (by simp)

theorem ren0_rel (hσ : ∀ b b', σ b = some b' → S'.ρ[b']? = S.ρ[b]? ∧ S'.sh[b']? = S.sh[b]?) (hφ : Fz w F S φ) {x : AV} {v : Value} (hr : Rel w F S x v) : Rel w F S' (ren0 σ φ x) v := by
  have hr0 := hr
  cases hr <;> simp only [ren0]
  case int => exact .int ..
  case bool => exact .bool ..
  case str => exact .str ..
  case pnil => exact .pnil ..
  case snil => exact .snil ..
  case semp => exact .semp ..
  case emp => exact .emp ..
  case fnil => exact .fnil ..
  case inil => exact .inil ..
  case ifv => exact .ifv ..
  case mnil => exact .mnil ..
  case undef => exact .undef ..
  case yld => exact .yld ..
  case bt b T n cb c f h1 h2 h3 =>
    cases hs : σ b with
    | none =>
      show Rel w F S' (match φ b with | some (.box cs) => .rp cs 0 | _ => .undef) _
      split
      · rename_i cs h; exact fz_bp hφ (.bp S b 0 cb 0 0 ‹_› rfl) h
      · exact .undef ..
    | some b' => exact .bt _ _ _ _ cb _ _ (by rw [(hσ b b' hs).1]; assumption) ‹_› ‹_›
  case gh => exact .gh ..
  case len n cap a h1 h2 => exact .len _ _ _ _ h1 h2
  case map b cb base h1 =>
    cases hs : σ b with
    | none => exact .undef ..
    | some b' => exact .map _ _ cb base (by rw [(hσ b b' hs).1]; assumption)
  case slc b i n c cb base off h1 h2 h3 =>
    cases hs : σ b with
    | none => exact .len _ _ _ _ ‹_› (by simp)
    | some b' => exact .slc _ _ _ _ _ cb base _ (by rw [(hσ b b' hs).1]; assumption) (by rw [(hσ b b' hs).2]; assumption) ‹_›
  case bp b j cb base off h1 h2 =>
    cases hs : σ b with
    | none =>
      show Rel w F S' (match φ b with | some (.box cs) => .rp cs j | _ => .undef) _
      split
      · rename_i cs h; exact fz_bp hφ hr0 h
      · exact .undef ..
    | some b' => exact .bp _ _ _ cb base _ (by rw [(hσ b b' hs).1]; assumption) ‹_›
  case ep b i j cb base off h1 h2 =>
    cases hs : σ b with
    | none => exact .undef ..
    | some b' => exact .ep _ _ _ _ cb base _ (by rw [(hσ b b' hs).1]; assumption) (by rw [(hσ b b' hs).2]; assumption)
  case rp row j cb base off vs h0 h1 h2 h3 => exact .rp _ _ _ _ _ _ vs h0 h1 h2 h3
  case sl b i n cb base off cap h1 h2 h3 =>
    cases hs : σ b with
    | none => exact fz_sl hφ hr0
    | some b' => exact .sl _ _ _ _ cb base _ _ (by rw [(hσ b b' hs).1]; assumption) (by rw [(hσ b b' hs).2]; assumption) ‹_›
  case ri k xs n cap a h1 h2 h3 h4 => exact .ri _ _ _ _ _ _ h1 h2 h3 h4
  case ro s rows n cap a vs h1 h2 h3 h4 h5 => exact .ro _ _ _ _ _ _ vs h1 h2 h3 h4 h5
  case agg => exact .undef ..
  case tup => exact .undef ..
  case fn => exact .undef ..

theorem ren_list {f : AV → AV} (hf : ∀ x v, Rel w F S x v → Rel w F S' (f x) v) {cs : List AV} {vs : Array Value} (h2 : ∀ (i : Nat) c v, cs[i]? = some c → vs[i]? = some v → Rel w F S c v) :
    ∀ (i : Nat) c v, (cs.map f)[i]? = some c → vs[i]? = some v → Rel w F S' c v := by
  intro i c v hc hv
  rw [List.getElem?_map, Option.map_eq_some_iff] at hc
  obtain ⟨c0, hc0, rfl⟩ := hc
  exact hf _ _ (h2 i c0 v hc0 hv)

theorem ren1_rel (hσ : ∀ b b', σ b = some b' → S'.ρ[b']? = S.ρ[b]? ∧ S'.sh[b']? = S.sh[b]?) (hφ : Fz w F S φ) {x : AV} {v : Value} (hr : Rel w F S x v) : Rel w F S' (ren1 σ φ x) v := by
  cases x with
  | agg cs =>
    cases hr with
    | agg _ _ vs h1 h2 => exact .agg _ _ _ (by simpa using h1) (ren_list (fun x v h => ren0_rel hσ hφ h) h2)
  | fn f cs =>
    cases hr with
    | fn _ _ _ vs h1 h2 => exact .fn _ _ _ _ (by simpa using h1) (ren_list (fun x v h => ren0_rel hσ hφ h) h2)
  | _ => exact ren0_rel hσ hφ hr

theorem ren2_rel (hσ : ∀ b b', σ b = some b' → S'.ρ[b']? = S.ρ[b]? ∧ S'.sh[b']? = S.sh[b]?) (hφ : Fz w F S φ) {x : AV} {v : Value} (hr : Rel w F S x v) : Rel w F S' (ren2 σ φ x) v := by
  cases x with
  | tup cs =>
    cases hr with
    | tup _ _ vs h1 h2 => exact .tup _ _ _ (by simpa using h1) (ren_list (fun x v h => ren1_rel hσ hφ h) h2)
  | _ => exact ren1_rel hσ hφ hr
end

theorem renB_shape (σ : Nat → Option Nat) (φ : Nat → Option ABlk) (b : ABlk) : (renB σ φ b).shape = b.shape := by cases b <;> simp [renB, ABlk.shape]

theorem renB_cell (σ : Nat → Option Nat) (φ : Nat → Option ABlk) (b : ABlk) (i j : Nat) (x : AV) (hx : (renB σ φ b).cell i j = some x) :
    ∃ y, b.cell i j = some y ∧ ((∃ cs, b = .box cs ∧ x = ren1 σ φ y) ∨ ((∀ cs, b ≠ .box cs) ∧ x = y)) := by
  cases b with
  | box cs =>
    simp only [renB, ABlk.cell] at hx ⊢
    split at hx <;> try (cases hx; done)
    rename_i hi
    rw [List.getElem?_map, Option.map_eq_some_iff] at hx
    obtain ⟨y, hy, rfl⟩ := hx
    exact ⟨y, by rw [if_pos hi]; exact hy, .inl ⟨cs, rfl, rfl⟩⟩
  | ia k xs => exact ⟨x, hx, .inr ⟨fun _ => by simp, rfl⟩⟩
  | arr s rows => exact ⟨x, hx, .inr ⟨fun _ => by simp, rfl⟩⟩
  | mp es => exact ⟨x, hx, .inr ⟨fun _ => by simp, rfl⟩⟩

theorem renB_obj (σ : Nat → Option Nat) (φ : Nat → Option ABlk) (b : ABlk) (c : Array Value) (e : Nat) : (renB σ φ b).obj c e = b.obj c e := by cases b <;> rfl

theorem renB_room (σ : Nat → Option Nat) (φ : Nat → Option ABlk) (b : ABlk) (base : Nat) (c : Array Value) (e : Nat) : (renB σ φ b).room base c e = b.room base c e := by
  cases b <;> simp [renB, ABlk.room, ABlk.shape]

/-- More stays as it is. -/
theorem Rel.more {w : World} {F F' : Nat → Prop} {S : Shp} {x : AV} {v : Value} (hF : ∀ b, F b → F' b) (h : Rel w F S x v) : Rel w F' S x v :=
  Rel.mono (w := w) (F := F) (w' := w) (F' := F') hF (fun _ _ _ => rfl) h S (fun _ _ h => h) (fun _ _ _ _ h => h) fun _b c e f h => ⟨c, e, f, h, rfl, rfl⟩

theorem fzAll_ok (H : HRel E h) {F' : Nat → Prop} (hF : ∀ b, E.F b → F' b) {fz : List Nat} (hin : ∀ k ∈ fz, ∀ cb base bk, E.S.ρ[k]? = some (cb, base) → h[k]? = some (some bk) → F' cb) :
    ∀ (ks : List Nat) (acc : List (Nat × ABlk)), (∀ k ∈ ks, k ∈ fz) → Fz E.w F' E.S (fzOf acc) → Fz E.w F' E.S (fzOf (fzAll h ks acc))
  | [], acc, _, ha => ha
  | k :: ks, acc, hk, ha => by
    have put : ∀ {b b0 : ABlk}, h[k]? = some (some b0) → b0.isM = false → b.shape = b0.shape → b.fits → (∀ i j x, b.cell i j = some x → ∃ y, b0.cell i j = some y ∧ ((∀ v, Rel E.w F' E.S y v → Rel E.w F' .nil x v) ∨ ((∀ cs, b0 ≠ .box cs) ∧ x = y))) → Fz E.w F' E.S (fzOf ((k, b) :: acc)) := by
      intro b b0 hb hbm hsh hfit hcell q bq hq
      simp only [fzOf] at hq
      split at hq
      · rename_i hkq
        obtain rfl := Nat.eq_of_beq_eq_true hkq
        obtain rfl := Option.some.inj hq
        obtain ⟨f0, cb, base, c, e, g1, g2, g3, g4, g5⟩ := H.cblk k b0 hb
        refine ⟨hfit, cb, base, c, e, (0, 0), g1, ?_, g2, hin k (hk k (by simp)) _ _ _ g1 hb, fun i j x hx => ?_⟩
        · rw [hsh]; exact H.live.2 ⟨b0, hb, rfl⟩
        · obtain ⟨y, hy, hxy⟩ := hcell i j x hx
          obtain ⟨v, hv1, hv2⟩ := g5 i j y hy
          refine ⟨v, by rw [hsh]; exact hv1, ?_⟩
          rcases hxy with hxy | ⟨hne, rfl⟩
          · exact hxy v ((inner_to b0 hv2).more hF)
          · cases b0 with
            | box cs => exact absurd rfl (hne cs)
            | ia => exact hv2.more hF
            | arr => exact hv2.more hF
            | mp => cases hbm
      · exact ha q bq hq
    simp only [fzAll, nth_eq]
    split
    · rename_i cs hb
      refine fzAll_ok H hF hin ks _ (fun q hq => hk q (by simp [hq])) (put hb rfl (by simp [ABlk.shape]) trivial fun i j x hx => ?_)
      simp only [ABlk.cell] at hx ⊢
      split at hx <;> try (cases hx; done)
      rename_i hi
      rw [List.getElem?_map, Option.map_eq_some_iff] at hx
      obtain ⟨y, hy, rfl⟩ := hx
      exact ⟨y, by rw [if_pos hi]; exact hy, .inl fun v hv => ren0_rel (S' := .nil) (fun b b' hb => by cases hb) ha hv⟩
    · exact fzAll_ok H hF hin ks _ (fun q hq => hk q (by simp [hq])) ha
    · rename_i b hnb hnm hb
      refine fzAll_ok H hF hin ks _ (fun q hq => hk q (by simp [hq])) (put hb (by cases b <;> first | rfl | exact absurd rfl (hnm _)) rfl (H.blk k b hb).1 fun i j x hx => ⟨x, hx, .inr ⟨fun cs hc => hnb cs (by rw [hc]), rfl⟩⟩)
    · exact fzAll_ok H hF hin ks _ (fun q hq => hk q (by simp [hq])) ha

theorem newNo_back {n0 : Nat} {keep : List Nat} {b b' : Nat} (h : newNo n0 keep b = some b') : (b < n0 ∧ b' = b) ∨ (n0 ≤ b ∧ ∃ i, b' = n0 + i ∧ keep[i]? = some b) := by
  unfold newNo at h
  split at h
  · rename_i hle
    rw [Option.map_eq_some_iff] at h
    obtain ⟨i, hi, rfl⟩ := h
    exact .inr ⟨Nat.le_of_ble_eq_true hle, i, rfl, idx_get hi⟩
  · rename_i hlt
    obtain rfl := Option.some.inj h
    left
    refine ⟨?_, rfl⟩
    rcases Nat.lt_or_ge b n0 with h | h
    · exact h
    · rw [Nat.ble_eq_true_of_le h] at hlt; cases hlt

theorem gcH_get {n0 : Nat} {keep fz : List Nat} (h0 : n0 ≤ h.length) {q : Nat} {b : ABlk} (hq : (gcH n0 keep fz h)[q]? = some (some b)) :
    ∃ k b0, h[k]? = some (some b0) ∧ b = renB (newNo n0 keep) (fzOf (fzAll h fz [])) b0 ∧ ((q < n0 ∧ k = q) ∨ (n0 ≤ q ∧ keep[q - n0]? = some k)) := by
  unfold gcH at hq
  have t1 : ((h.take n0).map (·.map (renB (newNo n0 keep) (fzOf (fzAll h fz []))))).length = n0 := by simp; omega
  by_cases hlt : q < n0
  · rw [List.getElem?_append_left (by omega), List.getElem?_map, List.getElem?_take, if_pos hlt, Option.map_eq_some_iff] at hq
    obtain ⟨o, ho, hm⟩ := hq
    cases o with
    | none => cases hm
    | some b0 => exact ⟨q, b0, ho, (Option.some.inj hm).symm, .inl ⟨hlt, rfl⟩⟩
  · rw [List.getElem?_append_right (by omega), t1, List.getElem?_map, Option.map_eq_some_iff] at hq
    obtain ⟨k, hkq, hm⟩ := hq
    rw [nth_eq] at hm
    split at hm
    · rename_i b0 hb0
      exact ⟨k, b0, hb0, (Option.some.inj hm).symm, .inr ⟨by omega, hkq⟩⟩
    · cases hm

theorem okKeep_parts {n0 hn : Nat} : ∀ {keep fz : List Nat}, okKeep n0 hn (keep ++ fz) = true → okKeep n0 hn keep = true ∧ (∀ k ∈ fz, n0 ≤ k ∧ k < hn) ∧ ∀ k ∈ keep, k ∉ fz
  | [], fz, h => ⟨rfl, okKeep_mem h, by simp⟩
  | x :: xs, fz, h => by
    simp only [List.cons_append, okKeep, Bool.and_eq_true, Bool.not_eq_true', List.any_eq_false] at h ⊢
    obtain ⟨h1, h2, h3⟩ := okKeep_parts h.2
    refine ⟨⟨⟨h.1.1, fun y hy => h.1.2 y (List.mem_append_left _ hy)⟩, h1⟩, h2, fun k hk hf => ?_⟩
    rcases List.mem_cons.1 hk with rfl | hk
    · exact h.1.2 k (List.mem_append_right _ hf) (by simp)
    · exact h3 k hk hf

/-- The kinds of the moment behind the dropping. -/
theorem gc_kinds (H : HRel E h) {n0 : Nat} {keep fz : List Nat} (h0 : n0 ≤ h.length) (hok : okKeep n0 h.length (keep ++ fz) = true) :
    (∀ b b', newNo n0 keep b = some b' → (E.S.gc n0 keep).ρ[b']? = E.S.ρ[b]? ∧ (E.S.gc n0 keep).sh[b']? = E.S.sh[b]?) ∧ Fz E.w (E.gc n0 keep fz h).F E.S (fzOf (fzAll h fz [])) ∧ ∀ b, E.F b → (E.gc n0 keep fz h).F b := by
  obtain ⟨o1, o2, o3⟩ := okKeep_parts hok
  have hl := H.len
  refine ⟨fun b b' hb => gc_get H.rlen (by omega) (by rw [hl]; exact okKeep_mem o1) hb, ?_, fun b hb => .inl hb⟩
  exact fzAll_ok H (fun b hb => .inl hb) (fun k hk cb base bk g1 g2 => .inr ⟨k, base, bk, hk, g1, g2⟩) fz [] (fun _ h => h) (Fz.nil _ _ _)

/-- A value behind the dropping. -/
theorem gc_rel (H : HRel E h) {n0 : Nat} {keep fz : List Nat} (h0 : n0 ≤ h.length) (hok : okKeep n0 h.length (keep ++ fz) = true) {x : AV} {v : Value} (hx : E.R x v) :
    (E.gc n0 keep fz h).R (ren2 (newNo n0 keep) (fzOf (fzAll h fz [])) x) v := by
  obtain ⟨k1, k2, k3⟩ := gc_kinds H h0 hok
  exact ren2_rel k1 k2 (hx.more k3)

theorem HRel.gc (H : HRel E h) {n0 : Nat} {keep fz : List Nat} (h0 : n0 ≤ h.length) (hok : okKeep n0 h.length (keep ++ fz) = true) : HRel (E.gc n0 keep fz h) (gcH n0 keep fz h) := by
  obtain ⟨hσ, hφ, hF⟩ := gc_kinds H h0 hok
  obtain ⟨o1, o2, o3⟩ := okKeep_parts hok
  have hk := okKeep_mem o1
  have hl := H.rlen
  have hlen := H.len
  have place : ∀ {q : Nat} {k : Nat}, ((q < n0 ∧ k = q) ∨ (n0 ≤ q ∧ keep[q - n0]? = some k)) → (E.S.gc n0 keep).ρ[q]? = E.S.ρ[k]? := by
    intro q k hq
    have t1 : (E.S.ρ.take n0).length = n0 := by simp; omega
    simp only [Shp.gc]
    rcases hq with ⟨hlt, rfl⟩ | ⟨hge, hkq⟩
    · rw [List.getElem?_append_left (by omega), List.getElem?_take, if_pos hlt]
    · have hm := hk k (List.mem_of_getElem? hkq)
      rw [List.getElem?_append_right (by omega), t1, List.getElem?_map, hkq]
      simp only [Option.map_some]
      rw [List.getElem?_eq_getElem (show k < E.S.ρ.length by omega)]; rfl
  refine ⟨?_, ?_, fun q b hq => ?_, fun q q' b b' cb ba ba' h1 h2 h3 h4 => ?_, fun b hb => ?_⟩
  · show (E.S.gc n0 keep).sh = _
    simp only [Shp.gc, gcH, List.map_append, List.map_map]
    congr 1
    · rw [H.sh, ← List.map_take]
      apply List.map_congr_left
      intro o _
      cases o with
      | none => rfl
      | some b => simp [renB_shape]
    · apply List.map_congr_left
      intro k hkm
      simp only [Function.comp]
      rw [H.sh, List.getElem?_map, nth_eq]
      cases hh : h[k]? with
      | none => rfl
      | some o => cases o <;> simp [renB_shape]
  · simp only [Env.gc, Shp.gc, gcH, List.length_append, List.length_take, List.length_map]
    omega
  · obtain ⟨k, b0, hb0, rfl, hcase⟩ := gcH_get h0 hq
    obtain ⟨f0, cb, base, c, e, r1, r2, r3, r4, r5⟩ := H.blk k b0 hb0
    refine ⟨by cases b0 <;> exact f0, cb, base, c, e, by rw [← r1]; exact place hcase, by rw [renB_obj]; exact r2, ?_, by rw [renB_room]; exact r4, fun i j x hx => ?_⟩
    · rintro (hf | ⟨k', base', bk, m1, m2, m3⟩)
      · exact r3 hf
      · have := H.inj _ _ _ _ _ _ _ hb0 m3 r1 m2
        subst this
        rcases hcase with ⟨a1, rfl⟩ | ⟨a1, a2⟩
        · have := (o2 _ m1).1; omega
        · exact o3 _ (List.mem_of_getElem? a2) m1
    · obtain ⟨y, hy, hxy⟩ := renB_cell _ _ _ _ _ _ hx
      obtain ⟨v, hv1, hv2⟩ := r5 i j y hy
      refine ⟨v, by rw [renB_shape]; exact hv1, ?_⟩
      rcases hxy with ⟨cs, rfl, rfl⟩ | ⟨hne, rfl⟩
      · exact ren1_rel hσ hφ (hv2.more hF)
      · cases b0 with
        | box cs => exact absurd rfl (hne cs)
        | ia => exact hv2.more hF
        | arr => exact hv2.more hF
        | mp => exact hv2.more hF
  · obtain ⟨k, b0, hb0, rfl, hc⟩ := gcH_get h0 h1
    obtain ⟨k', b0', hb0', rfl, hc'⟩ := gcH_get h0 h2
    have h3 : (E.S.gc n0 keep).ρ[q]? = some (cb, ba) := h3
    have h4 : (E.S.gc n0 keep).ρ[q']? = some (cb, ba') := h4
    rw [place hc] at h3
    rw [place hc'] at h4
    have hkk := H.inj k k' b0 b0' cb ba ba' hb0 hb0' h3 h4
    subst hkk
    rcases hc with ⟨a1, rfl⟩ | ⟨a1, a2⟩ <;> rcases hc' with ⟨b1, b2⟩ | ⟨b1, b2⟩
    · exact b2
    · have := (hk _ (List.mem_of_getElem? b2)).1; omega
    · subst b2; have := (hk _ (List.mem_of_getElem? a2)).1; omega
    · have := okKeep_inj o1 _ _ _ a2 b2; omega
  · rcases hb with hb | ⟨k, base, bk, m1, m2, m3⟩
    · exact H.frz b hb
    · exact H.own_lt (H.own_of m3 m2)

theorem ShpExt.ext {S0 : Shp} {E E' : Env} (X : ShpExt S0 E.S) (Y : Ext E E') : ShpExt S0 E'.S where
  rho k p hp := Y.rho k p (X.rho k p hp)
  sh k p hk hp := by
    have h1 := X.rho k _ (List.getElem?_eq_getElem (by rw [X.rlen]; exact hk))
    have h2 := (List.getElem?_eq_some_iff.1 h1).1
    exact X.sh k p hk (Y.sh k p (by rw [← Y.rlen]; exact h2) hp)
  rlen := X.rlen

theorem ShpExt.le {S0 S : Shp} (X : ShpExt S0 S) : S0.ρ.length ≤ S.ρ.length := by
  rcases Nat.eq_zero_or_pos S0.ρ.length with h | h
  · omega
  · have := X.rho (S0.ρ.length - 1) _ (List.getElem?_eq_getElem (by omega))
    have := (List.getElem?_eq_some_iff.1 this).1
    omega

theorem ShpExt.gc {S0 : Shp} (H : HRel E h) (X : ShpExt S0 E.S) {n0 : Nat} {keep : List Nat} (hn : S0.ρ.length ≤ n0) (h0 : n0 ≤ h.length) : ShpExt S0 (E.S.gc n0 keep) := by
  have hl := H.rlen
  have hlen := H.len
  have low : ∀ q, q < n0 → (E.S.gc n0 keep).ρ[q]? = E.S.ρ[q]? ∧ (E.S.gc n0 keep).sh[q]? = E.S.sh[q]? := by
    intro q hq
    have t1 : (E.S.ρ.take n0).length = n0 := by simp; omega
    have t2 : (E.S.sh.take n0).length = n0 := by simp; omega
    simp only [Shp.gc]
    rw [List.getElem?_append_left (by omega), List.getElem?_append_left (by omega), List.getElem?_take, List.getElem?_take, if_pos hq, if_pos hq]
    exact ⟨rfl, rfl⟩
  refine ⟨fun k p hp => ?_, fun k p hk' hp => ?_, X.rlen⟩
  · have hlt := (List.getElem?_eq_some_iff.1 hp).1
    rw [(low k (by omega)).1]
    exact X.rho k p hp
  · have := X.rlen
    rw [(low k (by omega)).2] at hp
    exact X.sh k p hk' hp

/-- What is own behind the dropping was own. -/
theorem gc_own (H : HRel E h) {n0 : Nat} {keep : List Nat} (h0 : n0 ≤ h.length) (hok : okKeep n0 h.length keep = true) {b : Nat} (hb : (E.S.gc n0 keep).own b) : E.S.own b := by
  have hk := okKeep_mem hok
  have hl := H.rlen
  have hlen := H.len
  have low : ∀ q, q < n0 → (E.S.gc n0 keep).ρ[q]? = E.S.ρ[q]? ∧ (E.S.gc n0 keep).sh[q]? = E.S.sh[q]? := by
    intro q hq
    have t1 : (E.S.ρ.take n0).length = n0 := by simp; omega
    have t2 : (E.S.sh.take n0).length = n0 := by simp; omega
    simp only [Shp.gc]
    rw [List.getElem?_append_left (by omega), List.getElem?_append_left (by omega), List.getElem?_take, List.getElem?_take, if_pos hq, if_pos hq]
    exact ⟨rfl, rfl⟩
  obtain ⟨q, base, p, h1, h2⟩ := hb
  by_cases hq : q < n0
  · rw [(low q hq).1] at h1
    rw [(low q hq).2] at h2
    exact ⟨q, base, p, h1, h2⟩
  · have t1 : (E.S.ρ.take n0).length = n0 := by simp; omega
    have t2 : (E.S.sh.take n0).length = n0 := by simp; omega
    simp only [Shp.gc] at h1 h2
    rw [List.getElem?_append_right (by omega), t1, List.getElem?_map, Option.map_eq_some_iff] at h1
    obtain ⟨k, hk1, hk2⟩ := h1
    have hm := hk k (List.mem_of_getElem? hk1)
    rw [List.getElem?_append_right (by omega), t2, List.getElem?_map, hk1] at h2
    rw [List.getElem?_eq_getElem (show k < E.S.ρ.length by omega)] at hk2
    rw [Option.map_some, List.getElem?_eq_getElem (show k < E.S.sh.length by omega)] at h2
    simp only [Option.getD_some, Option.some.injEq] at hk2 h2
    exact ⟨k, base, p, by rw [List.getElem?_eq_getElem (by omega), hk2], by rw [List.getElem?_eq_getElem (by omega), h2]⟩

end Go.AL
