/- Regions that draw their order: an abstract run in an order of ours serves for whatever order. Seat-independent. (Laid ahead of AL15's theorem on code.) -/
import Derived.Test.YtdjnndcdplgojaaAL13
namespace Go.AL
variable {P : Program}

theorem putK_iff {dst : Option Nat} {v : AV} {tm : List (Nat × AV)} {K : List (Nat × AV) → Prop} : putK dst v tm K ↔ K (putD dst v tm) := by cases dst <;> exact Iff.rfl
theorem need_iff {c : Bool} {K : Prop} : need c K ↔ c = true ∧ K := by cases c <;> simp [need]
theorem need_of {c : Bool} {K : Prop} (h : c = true) (k : K) : need c K := need_iff.2 ⟨h, k⟩

theorem look_putD {dst : Option Nat} {v : AV} {tm : List (Nat × AV)} {t : Nat} : look (putD dst v tm) t = if dst = some t then v else look tm t := by
  cases dst with
  | none => simp [putD]
  | some d =>
    simp only [putD, look]
    by_cases h : d = t
    · subst h; simp
    · have : Nat.beq d t = false := by
        cases hb : Nat.beq d t with
        | false => rfl
        | true => exact absurd (Nat.eq_of_beq_eq_true hb) h
      rw [this]; simp [h]

theorem look_same {tm : List (Nat × AV)} {g : Nat} {v : AV} (hg : look tm g = v) (t : Nat) : look ((g, v) :: tm) t = look tm t := by
  simp only [look]
  split
  · rename_i hb
    rw [← Nat.eq_of_beq_eq_true hb, hg]
  · rfl

theorem ev_congr {tm tm' : List (Nat × AV)} {o : Opd} (h : ∀ t ∈ o.tmps, look tm t = look tm' t) : ev tm o = ev tm' o := by
  cases o with
  | tmp t => exact h t (by simp [Opd.tmps])
  | const v => rfl

theorem evs_congr {tm tm' : List (Nat × AV)} {l : List Opd} (h : ∀ t ∈ l.flatMap Opd.tmps, look tm t = look tm' t) : l.map (ev tm) = l.map (ev tm') := by
  apply List.map_congr_left
  intro o ho
  exact ev_congr fun t ht => h t (List.mem_flatMap.2 ⟨o, ho, ht⟩)

theorem bnd_congr {tm tm' : List (Nat × AV)} {o : Option Opd} {d : Int} (h : ∀ t ∈ (match o with | some o => o.tmps | none => []), look tm t = look tm' t) : bnd tm o d = bnd tm' o d := by
  cases o with
  | none => rfl
  | some o => simp only [bnd, ev_congr h]

theorem aop_congr {tm tm' : List (Nat × AV)} {hp : AHeap} {hn : Nat} {op : AOp} (h : ∀ t ∈ op.looks, look tm t = look tm' t) : aop tm hp hn op = aop tm' hp hn op := by
  cases op <;> simp only [AOp.looks, List.mem_append] at h <;> simp only [aop]
  case mov x => rw [ev_congr h]
  case pick c a b => rw [ev_congr (o := c) fun t ht => h t (.inl (.inl ht)), ev_congr (o := a) fun t ht => h t (.inl (.inr ht)), ev_congr (o := b) fun t ht => h t (.inr ht)]
  case box x => rw [ev_congr h]
  case build z ps =>
    have : (ps.map fun (o, n, x) => (o, n, ev tm x)) = ps.map fun (o, n, x) => (o, n, ev tm' x) := by
      apply List.map_congr_left
      rintro ⟨o, n, x⟩ hx
      show (o, n, ev tm x) = (o, n, ev tm' x)
      rw [ev_congr (o := x) fun t ht => h t (List.mem_flatMap.2 ⟨_, hx, ht⟩)]
    rw [this]
  case bslice s z len ps =>
    have : (ps.map fun (i, x) => (i, ev tm x)) = ps.map fun (i, x) => (i, ev tm' x) := by
      apply List.map_congr_left
      rintro ⟨i, x⟩ hx
      show (i, ev tm x) = (i, ev tm' x)
      rw [ev_congr (o := x) fun t ht => h t (List.mem_flatMap.2 ⟨_, hx, ht⟩)]
    cases len <;> cases ps <;> first | rfl | (simp only []; rw [this])
  case bfrz s z len ps =>
    have : (ps.map fun (i, x) => (i, ev tm x)) = ps.map fun (i, x) => (i, ev tm' x) := by
      apply List.map_congr_left
      rintro ⟨i, x⟩ hx
      show (i, ev tm x) = (i, ev tm' x)
      rw [ev_congr (o := x) fun t ht => h t (List.mem_flatMap.2 ⟨_, hx, ht⟩)]
    rw [this]
  case mkfn f cap => rw [evs_congr h]
  case slice s x lo hi =>
    rw [ev_congr (o := x) fun t ht => h t (.inl (.inl ht)), bnd_congr (o := lo) fun t ht => h t (.inl (.inr ht))]
    have hb : ∀ d, bnd tm hi d = bnd tm' hi d := fun d => bnd_congr (o := hi) fun t ht => h t (.inr ht)
    simp only [hb]
  case slice3 s x lo hi top =>
    rw [ev_congr (o := x) fun t ht => h t (.inl (.inl (.inl ht))), bnd_congr (o := lo) fun t ht => h t (.inl (.inl (.inr ht))), bnd_congr (o := hi) fun t ht => h t (.inl (.inr ht)), bnd_congr (o := top) fun t ht => h t (.inr ht)]
  case capS x => rw [ev_congr h]
  case clear s z x => rw [ev_congr h]
  case sliceStr x lo hi =>
    rw [ev_congr (o := x) fun t ht => h t (.inl (.inl ht)), bnd_congr (o := lo) fun t ht => h t (.inl (.inr ht))]
    cases ev tm' x <;> try rfl
    simp only; rw [bnd_congr (o := hi) fun t ht => h t (.inr ht)]
  case load1 x => rw [ev_congr h]
  case loadN n x => rw [ev_congr h]
  case nilc x => rw [ev_congr h]
  case un op x => rw [ev_congr h]
  case conv k x => rw [ev_congr h]
  case fld n x => rw [ev_congr h]
  case field o n b x => rw [ev_congr h]
  case ext x i => rw [ev_congr h]
  case lenS x => rw [ev_congr h]
  case lenL x => rw [ev_congr h]
  case strB x => rw [ev_congr h]
  case bytesS x => rw [ev_congr h]
  case markS x => rw [ev_congr h]
  case store n a x => rw [ev_congr (o := a) fun t ht => h t (.inl ht), ev_congr (o := x) fun t ht => h t (.inr ht)]
  case eq1 neg k a x => rw [ev_congr (o := a) fun t ht => h t (.inl ht), ev_congr (o := x) fun t ht => h t (.inr ht)]
  case eqv neg offs a x => rw [ev_congr (o := a) fun t ht => h t (.inl ht), ev_congr (o := x) fun t ht => h t (.inr ht)]
  case bin op a x => rw [ev_congr (o := a) fun t ht => h t (.inl ht), ev_congr (o := x) fun t ht => h t (.inr ht)]
  case mkfrz b s z a x => rw [ev_congr (o := a) fun t ht => h t (.inl ht), ev_congr (o := x) fun t ht => h t (.inr ht)]
  case mkslice b s z a x => rw [ev_congr (o := a) fun t ht => h t (.inl ht), ev_congr (o := x) fun t ht => h t (.inr ht)]
  case idxA l s a x => rw [ev_congr (o := a) fun t ht => h t (.inl ht), ev_congr (o := x) fun t ht => h t (.inr ht)]
  case idxS s a x => rw [ev_congr (o := a) fun t ht => h t (.inl ht), ev_congr (o := x) fun t ht => h t (.inr ht)]
  case indexA l s o a x => rw [ev_congr (o := a) fun t ht => h t (.inl ht), ev_congr (o := x) fun t ht => h t (.inr ht)]
  case indexStr a x => rw [ev_congr (o := a) fun t ht => h t (.inl ht), ev_congr (o := x) fun t ht => h t (.inr ht)]
  case append b s a x => rw [ev_congr (o := a) fun t ht => h t (.inl ht), ev_congr (o := x) fun t ht => h t (.inr ht)]
  case appendZ b z a x => rw [ev_congr (o := a) fun t ht => h t (.inl ht), ev_congr (o := x) fun t ht => h t (.inr ht)]
  case appendS b a x => rw [ev_congr (o := a) fun t ht => h t (.inl ht), ev_congr (o := x) fun t ht => h t (.inr ht)]
  case copy s a x => rw [ev_congr (o := a) fun t ht => h t (.inl ht), ev_congr (o := x) fun t ht => h t (.inr ht)]
  case mx a x => rw [ev_congr (o := a) fun t ht => h t (.inl ht), ev_congr (o := x) fun t ht => h t (.inr ht)]
  case mn a x => rw [ev_congr (o := a) fun t ht => h t (.inl ht), ev_congr (o := x) fun t ht => h t (.inr ht)]
  case mlen x => rw [ev_congr h]
  case mlook z ok a x => rw [ev_congr (o := a) fun t ht => h t (.inl ht), ev_congr (o := x) fun t ht => h t (.inr ht)]
  case mdel a x => rw [ev_congr (o := a) fun t ht => h t (.inl ht), ev_congr (o := x) fun t ht => h t (.inr ht)]
  case mset a x y => rw [ev_congr (o := a) fun t ht => h t (.inl (.inl ht)), ev_congr (o := x) fun t ht => h t (.inl (.inr ht)), ev_congr (o := y) fun t ht => h t (.inr ht)]

/-! ### What only reckons, what only reads, what only lays -/

theorem nth_app {h new : AHeap} {b : Nat} {x} (hb : nth h b = some x) : nth (h ++ new) b = some x := by
  rw [nth_eq] at *
  rw [List.getElem?_append_left (List.getElem?_eq_some_iff.1 hb).1]; exact hb

theorem readAt_app {h new : AHeap} {a : AV} {n : Nat} {r} (hr : readAt h a n = some r) : readAt (h ++ new) a n = some r := by
  cases a <;> simp only [readAt] at hr ⊢ <;> try (cases hr; done)
  · split at hr <;> try (cases hr; done)
    rename_i hb; rw [nth_app hb]; exact hr
  · split at hr <;> try (cases hr; done)
    · rename_i hb; rw [nth_app hb]; exact hr
    · rename_i hb; rw [nth_app hb]; exact hr
  · exact hr

theorem srcV_app {h new : AHeap} {s : Nat} {y : AV} {r : Rows} (hr : srcV h s y = r) (hne : r ≠ .none) : srcV (h ++ new) s y = r := by
  cases y <;> simp only [srcV] at hr ⊢ <;> try (first | exact hr | exact absurd hr.symm hne)
  · split at hr
    · rename_i hb; rw [nth_app hb]; exact hr
    · rename_i hb; rw [nth_app hb]; exact hr
    · rename_i hb; rw [nth_app hb]; exact hr
    · exact absurd hr.symm hne
  · split at hr
    · rename_i hb; rw [nth_app hb]; exact hr
    · exact absurd hr.symm hne

theorem isP_keep {op : AOp} (hp : op.isP = true) {tm : List (Nat × AV)} {h : AHeap} {hn : Nat} {c : Bool} {v : AV} {e : Eff} (ha : aop tm h hn op = some (c, v, e)) :
    e = .keep ∧ ∀ h' hn', aop tm h' hn' op = some (c, v, e) := by
  cases op <;> simp [AOp.isP] at hp <;> simp only [aop] at ha ⊢
  case mov x => simp only [Option.some.injEq, Prod.mk.injEq] at ha; exact ⟨ha.2.2.symm, fun _ _ => by simp [ha]⟩
  case build => refine ⟨?_, fun _ _ => ha⟩; rw [Option.map_eq_some_iff] at ha; obtain ⟨x, _, hx⟩ := ha; simp only [Prod.mk.injEq] at hx; exact hx.2.2.symm
  case un => refine ⟨?_, fun _ _ => ha⟩; rw [Option.map_eq_some_iff] at ha; obtain ⟨x, _, hx⟩ := ha; simp only [Prod.mk.injEq] at hx; exact hx.2.2.symm
  case bin => refine ⟨?_, fun _ _ => ha⟩; rw [Option.map_eq_some_iff] at ha; obtain ⟨⟨x, y⟩, _, hx⟩ := ha; simp only [Prod.mk.injEq] at hx; exact hx.2.2.symm
  all_goals
    refine ⟨?_, fun _ _ => ha⟩
    first
    | (simp only [Option.some.injEq, Prod.mk.injEq] at ha; exact ha.2.2.symm)
    | ((repeat' (split at ha <;> try (cases ha; done))) <;> simp only [Option.some.injEq, Prod.mk.injEq] at ha <;> exact ha.2.2.symm)

theorem isR_keep {op : AOp} (hp : op.isR = true) {tm : List (Nat × AV)} {h : AHeap} {hn : Nat} {c : Bool} {v : AV} {e : Eff} (ha : aop tm h hn op = some (c, v, e)) :
    e = .keep ∧ ∀ new hn', aop tm (h ++ new) hn' op = some (c, v, e) := by
  cases op <;> simp [AOp.isR] at hp <;> simp only [aop] at ha ⊢
  case load1 a =>
    split at ha <;> try (cases ha; done)
    rename_i hr
    simp only [Option.some.injEq, Prod.mk.injEq] at ha
    exact ⟨ha.2.2.symm, fun new _ => by rw [readAt_app hr]; simp [ha]⟩
  case loadN n a =>
    split at ha <;> try (cases ha; done)
    rename_i hr
    simp only [Option.some.injEq, Prod.mk.injEq] at ha
    exact ⟨ha.2.2.symm, fun new _ => by rw [readAt_app hr]; simp [ha]⟩
  case idxS s x i =>
    split at ha <;> try (cases ha; done)
    split at ha <;> try (cases ha; done)
    · split at ha <;> try (cases ha; done)
      all_goals
        rename_i hb
        split at ha <;> try (cases ha; done)
        rename_i hs
        have ha0 := ha
        simp only [Option.some.injEq, Prod.mk.injEq] at ha
        refine ⟨ha.2.2.symm, fun new _ => ?_⟩
        rw [nth_app hb]
        simp only [hs]
        exact ha0
    · split at ha <;> try (cases ha; done)
      have ha0 := ha
      simp only [Option.some.injEq, Prod.mk.injEq] at ha
      exact ⟨ha.2.2.symm, fun _ _ => ha0⟩
    · split at ha <;> try (cases ha; done)
      split at ha <;> try (cases ha; done)
      have ha0 := ha
      simp only [Option.some.injEq, Prod.mk.injEq] at ha
      exact ⟨ha.2.2.symm, fun _ _ => ha0⟩
  case slice s x lo hi =>
    split at ha
    · split at ha <;> try (cases ha; done)
      split at ha <;> try (cases ha; done)
      rename_i v' hv
      have hv' : ∀ new, sliceC (h ++ new) s _ _ _ _ _ = some v' := fun new => by
        unfold sliceC at hv ⊢
        split at hv <;> try (cases hv; done)
        rename_i hb; rw [nth_app hb]; exact hv
      have ha0 := ha
      simp only [Option.some.injEq, Prod.mk.injEq] at ha
      exact ⟨ha.2.2.symm, fun new _ => by rw [hv' new]; exact ha0⟩
    split at ha <;> try (cases ha; done)
    split at ha <;> try (cases ha; done)
    split at ha <;> try (cases ha; done)
    rename_i v' hv
    have hv' : ∀ new, sliceV (h ++ new) s (ev tm x) _ _ = some v' := fun new => by
      unfold sliceV at hv ⊢
      split at hv
      · split at hv <;> try (cases hv; done)
        rename_i hb; rw [nth_app hb]; exact hv
      · exact hv
      · exact hv
      · exact hv
      · exact hv
      · cases hv
    have ha0 := ha
    simp only [Option.some.injEq, Prod.mk.injEq] at ha
    exact ⟨ha.2.2.symm, fun new _ => by rw [hv' new]; exact ha0⟩
  case strB x =>
    split at ha
    · simp only [Option.some.injEq, Prod.mk.injEq] at ha
      exact ⟨ha.2.2.symm, fun new _ => by simp [ha]⟩
    · simp only [Option.some.injEq, Prod.mk.injEq] at ha
      exact ⟨ha.2.2.symm, fun new _ => by simp [ha]⟩
    · have ha0 := ha
      split at ha <;> try (cases ha; done)
      · rename_i k xs hsrc
        split at ha <;> try (cases ha; done)
        simp only [Option.some.injEq, Prod.mk.injEq] at ha
        refine ⟨ha.2.2.symm, fun new _ => ?_⟩
        rw [srcV_app hsrc (by simp)]
        rw [hsrc] at ha0
        exact ha0
      · rename_i xs hsrc
        split at ha <;> try (cases ha; done)
        simp only [Option.some.injEq, Prod.mk.injEq] at ha
        refine ⟨ha.2.2.symm, fun new _ => ?_⟩
        rw [srcV_app hsrc (by simp)]
        rw [hsrc] at ha0
        exact ha0

theorem isA_push {op : AOp} (hp : op.isA = true) {tm : List (Nat × AV)} {h : AHeap} {hn : Nat} {c : Bool} {v : AV} {e : Eff} (ha : aop tm h hn op = some (c, v, e)) : e = .keep ∨ ∃ b, e = .push b := by
  cases op <;> simp [AOp.isA] at hp <;> simp only [aop] at ha
  case alloc z => simp only [Option.some.injEq, Prod.mk.injEq] at ha; exact .inr ⟨_, ha.2.2.symm⟩
  case box x => simp only [Option.some.injEq, Prod.mk.injEq] at ha; exact .inr ⟨_, ha.2.2.symm⟩
  all_goals (repeat' (split at ha <;> try (cases ha; done))) <;> simp only [Option.some.injEq, Prod.mk.injEq] at ha <;> first | exact .inr ⟨_, ha.2.2.symm⟩ | exact .inl ha.2.2.symm

/-! ### One operation, in general -/

def Closed (K : St → Prop) : Prop := ∀ a b, StEq a b → K a → K b

theorem StEq.refl (a : St) : StEq a a := ⟨fun _ => rfl, rfl, rfl, rfl⟩
theorem StEq.symm {a b : St} (h : StEq a b) : StEq b a := ⟨fun t => (h.1 t).symm, h.2.1.symm, h.2.2.1.symm, h.2.2.2.symm⟩
theorem StEq.trans {a b c : St} (h : StEq a b) (k : StEq b c) : StEq a c := ⟨fun t => (h.1 t).trans (k.1 t), h.2.1.trans k.2.1, h.2.2.1.trans k.2.2.1, h.2.2.2.trans k.2.2.2⟩

theorem lays_iff {po : Bool} {rs : List (Nat × AOp)} {tm : List (Nat × AV)} {hp : AHeap} {hn : Nat} {e : Eff} {K : Prop} :
    e.lays po rs tm hp hn K ↔ (po = true → (e = .keep ∨ ∃ b, e = .push b) ∨ same tm hp (e.app hp) hn rs) ∧ K := by
  cases po with
  | false => simp [Eff.lays]
  | true => cases e <;> simp [Eff.lays, Eff.app]

theorem same_iff {tm : List (Nat × AV)} {hp hp' : AHeap} {hn : Nat} : ∀ {rs : List (Nat × AOp)}, same tm hp hp' hn rs ↔ ∀ x ∈ rs, aop tm hp hn x.2 = aop tm hp' hn x.2
  | [] => by simp [same]
  | x :: xs => by simp [same, same_iff (rs := xs)]

theorem same_congr {tm tm' : List (Nat × AV)} {hp hp' : AHeap} {hn : Nat} {rs rs' : List (Nat × AOp)} (hsub : ∀ x ∈ rs', x ∈ rs) (hl : ∀ x ∈ rs', ∀ t ∈ x.2.looks, look tm t = look tm' t) (h : same tm hp hp' hn rs) : same tm' hp hp' hn rs' := by
  rw [same_iff] at h ⊢
  intro x hx
  rw [← aop_congr (hl x hx), ← aop_congr (hl x hx)]
  exact h x (hsub x hx)

/-- What a call of yield does to the ghost. -/
def gput (g : Option AV) (tm : List (Nat × AV)) : List (Nat × AV) :=
  match g with
  | some x => (G, x) :: tm
  | none => tm

theorem look_gput {g : Option AV} {tm : List (Nat × AV)} {t : Nat} (h : t ≠ G) : look (gput g tm) t = look tm t := by
  cases g with
  | none => rfl
  | some x =>
    simp only [gput, look]
    split
    · rename_i hb; exact absurd (Nat.eq_of_beq_eq_true hb).symm h
    · rfl

theorem look_gput_congr {g : Option AV} {tm tm' : List (Nat × AV)} {t : Nat} (h : look tm t = look tm' t) : look (gput g tm) t = look (gput g tm') t := by
  cases g with
  | none => exact h
  | some x => simp only [gput, look]; split <;> first | rfl | exact h

/-- A drawn operation looks at its own temporaries alone: with others beside them it does the same. -/
theorem stepAD_frame {po : Bool} {rs rs' : List (Nat × AOp)} {op : AOp} {dst : Option Nat} {tm tm' : List (Nat × AV)} {hp : AHeap} {hn n0 : Nat} {next next' : St → Prop} (hl : ∀ t ∈ op.looks, look tm t = look tm' t) (hg : look tm G = look tm' G)
    (hr : ∀ hp2, same tm hp hp2 hn rs → same tm' hp hp2 hn rs')
    (hN : ∀ g v hp2 hn2, (op.isP = true ∨ op.isR = true ∨ op.isA = true → ∃ new, hp2 = hp ++ new) → (po = true → (∃ new, hp2 = hp ++ new) ∨ same tm hp hp2 hn rs) → next ⟨putD dst v (gput g tm), hp2, hn2, n0⟩ → next' ⟨putD dst v (gput g tm'), hp2, hn2, n0⟩)
    (h : stepAD P po rs op dst tm hp hn n0 next) : stepAD P po rs' op dst tm' hp hn n0 next' := by
  have quiet : (match aop tm hp hn op with
      | some (c, v, e) => need c (e.lays po rs tm hp hn (f2 v fun v => e.go hp hn fun hp hn => putK dst v tm fun tm => next ⟨tm, hp, hn, n0⟩))
      | none => False) → (match aop tm' hp hn op with
      | some (c, v, e) => need c (e.lays po rs' tm' hp hn (f2 v fun v => e.go hp hn fun hp hn => putK dst v tm' fun tm => next' ⟨tm, hp, hn, n0⟩))
      | none => False) := by
    rw [← aop_congr hl]
    intro hq
    split at hq <;> try (exact hq.elim)
    rename_i c v e he
    rw [need_iff, lays_iff, f2_iff, Eff.go_iff, putK_iff] at hq ⊢
    have lay : (e = .keep ∨ ∃ b, e = .push b) → ∃ new, e.app hp = hp ++ new := by
      rintro (rfl | ⟨b, rfl⟩)
      · exact ⟨[], by simp [Eff.app]⟩
      · exact ⟨[some b], rfl⟩
    refine ⟨hq.1, fun hpo => ?_, hN none v _ _ (fun hcl => ?_) (fun hpo => ?_) hq.2.2⟩
    · rcases hq.2.1 hpo with h | h2
      · exact .inl h
      · exact .inr (hr _ h2)
    · rcases hcl with hcl | hcl | hcl
      · exact lay (.inl (isP_keep hcl he).1)
      · exact lay (.inl (isR_keep hcl he).1)
      · exact lay (isA_push hcl he)
    · rcases hq.2.1 hpo with h | h2
      · exact .inl (lay h)
      · exact .inr h2
  have push : ∀ (f : FuncId) (args : List AV), (op.isP = false ∧ op.isR = false ∧ op.isA = false) →
      CallsA P f args hp (fun r h' => Pushed po rs tm hp hn h' (putK dst r tm fun tm => next ⟨tm, h', h'.length, n0⟩)) →
      CallsA P f args hp (fun r h' => Pushed po rs' tm' hp hn h' (putK dst r tm' fun tm => next' ⟨tm, h', h'.length, n0⟩)) := by
    rintro f args ⟨c1, c2, c3⟩ hc
    refine fun E cs H hT hlen ha => (hc E cs H hT hlen ha).mono ?_
    rintro e w' ⟨v, r, h', E', h1, h2, h3⟩
    refine ⟨v, r, h', E', h1, ?_, h3⟩
    cases po with
    | false =>
      simp only [Pushed, putK_iff] at h2 ⊢
      exact hN none r h' _ (by rw [c1, c2, c3]; simp) (by simp) h2
    | true =>
      simp only [Pushed, putK_iff] at h2 ⊢
      exact ⟨h2.1.imp id (hr _), hN none r h' _ (by rw [c1, c2, c3]; simp) (fun _ => h2.1) h2.2⟩
  cases op with
  | call f args =>
    simp only [stepAD] at h ⊢
    rw [← evs_congr (l := args) hl]
    exact push f _ ⟨rfl, rfl, rfl⟩ h
  | callv f args =>
    simp only [stepAD] at h ⊢
    simp only [AOp.looks, List.mem_append] at hl
    rw [← evs_congr (l := args) (fun t ht => hl t (.inr ht)), ← ev_congr (o := f) (fun t ht => hl t (.inl ht))]
    split at h <;> try (exact h.elim)
    · exact push _ _ ⟨rfl, rfl, rfl⟩ h
    · unfold yieldA at h ⊢
      rw [← hg]
      split at h <;> try (exact h.elim)
      simp only [putK_iff] at h ⊢
      exact ⟨h.1, hN (some _) _ _ _ (fun _ => ⟨[], by simp⟩) (fun _ => .inl ⟨[], by simp⟩) h.2.1, hN (some _) _ _ _ (fun _ => ⟨[], by simp⟩) (fun _ => .inl ⟨[], by simp⟩) h.2.2⟩
  | _ => exact quiet h

end Go.AL

/-! Operations may be taken in another order. Seat-independent. -/

namespace Go.AL
variable {P : Program}

def wantedA (tm : List (Nat × AV)) (g : Option (Nat × Bool)) : Option Bool :=
  match g with
  | none => some true
  | some (g, want) => match look tm g with
    | .bool b => some (b == want)
    | .tup _ => some false
    | _ => none

theorem stEq_ghost {tm : List (Nat × AV)} {g : Nat} {v : AV} (hg : look tm g = v) {hp : AHeap} {hn n0 : Nat} : StEq ⟨(g, v) :: tm, hp, hn, n0⟩ ⟨tm, hp, hn, n0⟩ := ⟨fun t => look_same hg t, rfl, rfl, rfl⟩

theorem putD_eq {tm tm' : List (Nat × AV)} (h : ∀ t, look tm t = look tm' t) {dst : Option Nat} {v : AV} {hp : AHeap} {hn n0 : Nat} : StEq ⟨putD dst v tm, hp, hn, n0⟩ ⟨putD dst v tm', hp, hn, n0⟩ :=
  ⟨fun t => by rw [look_putD, look_putD]; split <;> simp [h], rfl, rfl, rfl⟩

theorem stepAD_closed {po : Bool} {rs : List (Nat × AOp)} {op : AOp} {dst : Option Nat} {tm tm' : List (Nat × AV)} {hp : AHeap} {hn n0 : Nat} {next next' : St → Prop} (hc : Closed next) (hn' : ∀ st, next st → next' st)
    (h : ∀ t, look tm t = look tm' t) (hs : stepAD P po rs op dst tm hp hn n0 next) : stepAD P po rs op dst tm' hp hn n0 next' :=
  stepAD_frame (fun t _ => h t) (h G) (fun _ hh => same_congr (fun _ hx => hx) (fun _ _ t _ => h t) hh) (fun _ _ _ _ _ _ hk => hn' _ (hc _ _ (putD_eq fun t => look_gput_congr (h t)) hk)) hs

theorem stepD_iff {o : AOper} {tm : List (Nat × AV)} {hp : AHeap} {hn n0 : Nat} {next : St → Prop} (hc : Closed next) :
    stepD P o ⟨tm, hp, hn, n0⟩ next ↔ (wantedA tm o.guard = some true ∧ stepAD P o.po o.rs o.op o.dst tm hp hn n0 next) ∨ (wantedA tm o.guard = some false ∧ next ⟨putD o.dst (.tup []) tm, hp, hn, n0⟩) := by
  unfold stepD wantedA
  cases hg : o.guard with
  | none => simp
  | some gw =>
    obtain ⟨g, want⟩ := gw
    simp only
    cases hl : look tm g with
    | bool b =>
      simp only [putK_iff]
      have e1 : ∀ nx : St → Prop, Closed nx → (stepAD P o.po o.rs o.op o.dst ((g, .bool b) :: tm) hp hn n0 nx ↔ stepAD P o.po o.rs o.op o.dst tm hp hn n0 nx) := fun nx hnx =>
        ⟨stepAD_closed hnx (fun _ h => h) (fun t => look_same hl t), stepAD_closed hnx (fun _ h => h) (fun t => (look_same hl t).symm)⟩
      have e2 : next ⟨putD o.dst (.tup []) ((g, .bool b) :: tm), hp, hn, n0⟩ ↔ next ⟨putD o.dst (.tup []) tm, hp, hn, n0⟩ :=
        ⟨hc _ _ (putD_eq fun t => look_same hl t), hc _ _ (putD_eq fun t => (look_same hl t).symm)⟩
      cases b <;> cases want <;> simp only [ifB] <;> first | (rw [e1 next hc]; simp) | (rw [e2]; simp)
    | _ => simp [putK_iff]

theorem stepD_mono {o : AOper} {st : St} {next next' : St → Prop} (hn : ∀ st, next st → next' st) (h : stepD P o st next) : stepD P o st next' := by
  obtain ⟨tm, hp, hnn, n0⟩ := st
  unfold stepD at *
  simp only at *
  have m : ∀ {tm}, stepAD P o.po o.rs o.op o.dst tm hp hnn n0 next → stepAD P o.po o.rs o.op o.dst tm hp hnn n0 next' := fun h => stepAD_frame (fun _ _ => rfl) rfl (fun _ h => h) (fun _ _ _ _ _ _ hk => hn _ hk) h
  split at h
  · exact m h
  · rename_i g want hg
    split at h <;> try (exact h.elim)
    · rename_i b hb
      simp only [putK_iff] at *
      cases b <;> cases want <;> simp only [ifB] at * <;> first | exact m h | exact hn _ h
    · simp only [putK_iff] at *
      exact hn _ h

theorem stepD_closed {o : AOper} {next : St → Prop} (hc : Closed next) : Closed fun st => stepD P o st next := by
  rintro ⟨tm, hp, hn, n0⟩ ⟨tm', hp', hn', n0'⟩ ⟨h1, h2, h3, h4⟩ h
  simp only at h1 h2 h3 h4
  subst h2 h3 h4
  simp only [stepD_iff hc] at *
  have hw : wantedA tm o.guard = wantedA tm' o.guard := by
    unfold wantedA
    cases o.guard with
    | none => rfl
    | some gw => simp only [h1]
  rcases h with ⟨a, b⟩ | ⟨a, b⟩
  · exact .inl ⟨by rw [← hw]; exact a, stepAD_closed hc (fun _ h => h) h1 b⟩
  · exact .inr ⟨by rw [← hw]; exact a, hc _ _ (putD_eq h1) b⟩

theorem wpD_mono {K K' : St → Prop} (h : ∀ st, K st → K' st) : ∀ (l : List AOper) (st : St), wpD P l st K → wpD P l st K'
  | [], _, hk => h _ hk
  | _ :: l, _, hk => stepD_mono (fun _ hh => wpD_mono h l _ hh) hk

theorem wpD_closed {K : St → Prop} (hc : Closed K) : ∀ (l : List AOper), Closed fun st => wpD P l st K
  | [] => hc
  | _ :: l => stepD_closed (wpD_closed hc l)

theorem quiet_iff {po : Bool} {rs : List (Nat × AOp)} {op : AOp} {dst : Option Nat} {tm : List (Nat × AV)} {hp : AHeap} {hn n0 : Nat} {next : St → Prop} (hq : op.isP = true ∨ op.isR = true) :
    stepAD P po rs op dst tm hp hn n0 next ↔ ∃ u, aop tm hp hn op = some (true, u, .keep) ∧ next ⟨putD dst u tm, hp, hn, n0⟩ := by
  have main : (match aop tm hp hn op with
      | some (c, v, e) => need c (e.lays po rs tm hp hn (f2 v fun v => e.go hp hn fun hp hn => putK dst v tm fun tm => next ⟨tm, hp, hn, n0⟩))
      | none => False) ↔ ∃ u, aop tm hp hn op = some (true, u, .keep) ∧ next ⟨putD dst u tm, hp, hn, n0⟩ := by
    cases ha : aop tm hp hn op with
    | none => simp
    | some x =>
      obtain ⟨c, v, e⟩ := x
      have he : e = .keep := by
        rcases hq with h | h
        · exact (isP_keep h ha).1
        · exact (isR_keep h ha).1
      subst he
      simp only [need_iff, lays_iff, f2_iff, Eff.go_iff, putK_iff, Eff.app, Eff.hn, Option.some.injEq, Prod.mk.injEq, and_true, true_or, implies_true, true_and]
      constructor
      · rintro ⟨rfl, h⟩; exact ⟨v, ⟨rfl, rfl⟩, h⟩
      · rintro ⟨u, ⟨rfl, rfl⟩, h⟩; exact ⟨rfl, h⟩
  cases op with
  | call f args => simp [AOp.isP, AOp.isR] at hq
  | callv f args => simp [AOp.isP, AOp.isR] at hq
  | _ => exact main

theorem notIn_spec {d : Option Nat} {l : List Nat} (h : notIn d l = true) : ∀ t ∈ l, d ≠ some t := by
  intro t ht he
  subst he
  simp [notIn] at h
  exact h ht

theorem wanted_put {tm : List (Nat × AV)} {o : AOper} {d : Option Nat} {u : AV} (h : notIn d o.looks = true) : wantedA (putD d u tm) o.guard = wantedA tm o.guard := by
  unfold wantedA
  cases hg : o.guard with
  | none => rfl
  | some gw =>
    obtain ⟨g, want⟩ := gw
    simp only
    rw [look_putD, if_neg]
    exact notIn_spec h g (by simp [AOper.looks, hg])

theorem wanted_gput {tm : List (Nat × AV)} {o : AOper} {g : Option AV} (h : ∀ t ∈ o.looks, t ≠ G) : wantedA (gput g tm) o.guard = wantedA tm o.guard := by
  unfold wantedA
  cases hg : o.guard with
  | none => rfl
  | some gw =>
    obtain ⟨q, want⟩ := gw
    simp only
    rw [look_gput (h q (by simp [AOper.looks, hg]))]

theorem gput_put {tm : List (Nat × AV)} {d : Option Nat} {u : AV} {g : Option AV} (h : d ≠ some G) (t : Nat) : look (gput g (putD d u tm)) t = look (putD d u (gput g tm)) t := by
  by_cases ht : t = G
  · subst ht
    rw [look_putD, if_neg h]
    cases g with
    | none => simp only [gput]; rw [look_putD, if_neg h]
    | some x => simp [gput, look]
  · rw [look_gput ht, look_putD, look_putD, look_gput ht]

theorem put_comm {tm : List (Nat × AV)} {d e : Option Nat} {u v : AV} (h : (match d, e with | some a, some b => a != b | _, _ => true) = true) (t : Nat) :
    look (putD e v (putD d u tm)) t = look (putD d u (putD e v tm)) t := by
  simp only [look_putD]
  by_cases h1 : e = some t <;> by_cases h2 : d = some t
  · subst h1 h2; simp at h
  · simp [h1, h2]
  · simp [h1, h2]
  · simp [h1, h2]

theorem swap {m : Bool} {i j : AOper} (hc : commute m i j = true) {rs rs' : List (Nat × AOp)} (hm : m = true → ∃ x ∈ rs, x.2 = i.op ∧ notIn i.dst i.op.looks = true) (hsub : ∀ x ∈ rs', x ∈ rs ∧ notIn i.dst x.2.looks = true)
    {W : St → Prop} (hW : Closed W) {st : St} (h : stepD P i st fun st => stepD P { j with rs := rs } st W) : stepD P { j with rs := rs' } st fun st => stepD P i st W := by
  obtain ⟨tm, hp, hn, n0⟩ := st
  simp only [commute, Bool.and_eq_true, Bool.or_eq_true] at hc
  obtain ⟨⟨⟨⟨⟨c1, c2⟩, c3⟩, c4⟩, c5⟩, c6⟩ := hc
  have g1 : ∀ t ∈ i.looks, t ≠ G := fun t ht he => by subst he; simp [notIn] at c5; exact c5 ht
  have g2 : i.dst ≠ some G := notIn_spec c6 G (by simp)
  have hq : i.op.isP = true ∨ i.op.isR = true := c4.imp id And.left
  have hjl : ∀ u, ∀ t ∈ j.op.looks, look (putD i.dst u tm) t = look tm t := fun u t ht => by
    rw [look_putD, if_neg (notIn_spec c1 t (by simp [AOper.looks, ht]))]
  -- the first one's value
  have key : ∃ u, stepD P { j with rs := rs } ⟨putD i.dst u tm, hp, hn, n0⟩ W ∧ ∀ g v hp2 hn2, (i.op.isP = true ∨ (∃ new, hp2 = hp ++ new) ∨ (m = true ∧ same (putD i.dst u tm) hp hp2 hn rs)) → W ⟨putD i.dst u (putD j.dst v (gput g tm)), hp2, hn2, n0⟩ → stepD P i ⟨putD j.dst v (gput g tm), hp2, hn2, n0⟩ W := by
    rw [stepD_iff (stepD_closed hW)] at h
    rcases h with ⟨w1, h⟩ | ⟨w1, h⟩
    · rw [quiet_iff hq] at h
      obtain ⟨u, ha, h⟩ := h
      refine ⟨u, h, fun g v hp2 hn2 hext hw => ?_⟩
      rw [stepD_iff hW]
      refine .inl ⟨by rw [wanted_put c2, wanted_gput g1]; exact w1, ?_⟩
      rw [quiet_iff hq]
      refine ⟨u, ?_, hw⟩
      rw [aop_congr (tm' := tm) (fun t ht => by rw [look_putD, if_neg (notIn_spec c2 t (by simp [AOper.looks, ht])), look_gput (g1 t (by simp [AOper.looks, ht]))])]
      rcases hext with hP | ⟨new, rfl⟩ | ⟨hm1, hs⟩
      · exact (isP_keep hP ha).2 _ _
      · rcases hq with hP | hR
        · exact (isP_keep hP ha).2 _ _
        · exact (isR_keep hR ha).2 new _
      · obtain ⟨x, hx, hxo, hno⟩ := hm hm1
        have hsx := same_iff.1 hs x hx
        have hlk : ∀ t ∈ i.op.looks, look (putD i.dst u tm) t = look tm t := fun t ht => by rw [look_putD, if_neg (notIn_spec hno t ht)]
        rw [hxo, aop_congr hlk, aop_congr hlk] at hsx
        have hR : i.op.isP = true ∨ i.op.isR = true := hq
        have hz : aop tm hp2 hn i.op = some (true, u, .keep) := by rw [← hsx]; exact ha
        rcases hR with hP | hR
        · exact (isP_keep hP ha).2 _ _
        · have := (isR_keep hR hz).2 [] hn2
          simpa using this
    · refine ⟨.tup [], h, fun g v hp2 hn2 _ hw => ?_⟩
      rw [stepD_iff hW]
      exact .inr ⟨by rw [wanted_put c2, wanted_gput g1]; exact w1, hw⟩
  obtain ⟨u, hj, hi⟩ := key
  have ext : ∀ (hp2 : AHeap), (j.op.isP = true ∨ j.op.isR = true ∨ j.op.isA = true → ∃ new, hp2 = hp ++ new) → (j.po = true → (∃ new, hp2 = hp ++ new) ∨ same (putD i.dst u tm) hp hp2 hn rs) →
      i.op.isP = true ∨ (∃ new, hp2 = hp ++ new) ∨ (m = true ∧ same (putD i.dst u tm) hp hp2 hn rs) := by
    intro hp2 hh hpo
    rcases c4 with h | ⟨_, h⟩
    · exact .inl h
    · rcases h with ((h | h) | h) | h
      · exact .inr (.inl (hh (.inl h)))
      · exact .inr (.inl (hh (.inr (.inl h))))
      · exact .inr (.inl (hh (.inr (.inr h))))
      · rcases hpo h.1 with h' | h'
        · exact .inr (.inl h')
        · exact .inr (.inr ⟨h.2, h'⟩)
  have c1' : notIn i.dst ({ j with rs := rs } : AOper).looks = true := c1
  rw [stepD_iff hW, wanted_put c1'] at hj
  rw [stepD_iff (stepD_closed hW)]
  rcases hj with ⟨w2, hj⟩ | ⟨w2, hj⟩
  · refine .inl ⟨w2, stepAD_frame (hjl u) (by rw [look_putD, if_neg g2]) (fun hp2 hs => same_congr (fun x hx => (hsub x hx).1) (fun x hx t ht => by rw [look_putD, if_neg (notIn_spec (hsub x hx).2 t ht)]) hs) (fun g v hp2 hn2 hh hpo hw => ?_) hj⟩
    refine hi g v hp2 hn2 (ext hp2 hh hpo) (hW ⟨putD j.dst v (gput g (putD i.dst u tm)), hp2, hn2, n0⟩ _ ⟨fun t => ?_, rfl, rfl, rfl⟩ hw)
    rw [← put_comm c3 t, look_putD, look_putD]
    split
    · rfl
    · exact gput_put g2 t
  · exact .inr ⟨w2, hi none _ hp hn (.inr (.inl ⟨[], by simp⟩)) (hW ⟨putD j.dst (.tup []) (putD i.dst u tm), hp, hn, n0⟩ _ ⟨fun t => put_comm c3 t, rfl, rfl, rfl⟩ hj)⟩

theorem stepD_less {o : AOper} {st : St} {next : St → Prop} {rs : List (Nat × AOp)} (hsub : ∀ x ∈ rs, x ∈ o.rs) (h : stepD P o st next) : stepD P { o with rs := rs } st next := by
  obtain ⟨tm, hp, hn, n0⟩ := st
  unfold stepD at *
  simp only at *
  have m : ∀ {tm}, stepAD P o.po o.rs o.op o.dst tm hp hn n0 next → stepAD P o.po rs o.op o.dst tm hp hn n0 next := fun h =>
    stepAD_frame (fun _ _ => rfl) rfl (fun _ h => same_congr hsub (fun _ _ _ _ => rfl) h) (fun _ _ _ _ _ _ hk => hk) h
  split at h
  · exact m h
  · rename_i g want hg
    split at h <;> try (exact h.elim)
    · rename_i b hb
      simp only [putK_iff] at *
      cases b <;> cases want <;> simp only [ifB] at * <;> first | exact m h | exact h
    · exact h

theorem bubble {K : St → Prop} (hK : Closed K) {j : AOper} {B : List AOper} : ∀ (A : List AOper) (ex : List (Nat × AOp)) (st : St),
    (∀ i ∈ A, ∃ m, commute m i j = true ∧ (m = true → ∃ x ∈ j.rs, x.2 = i.op ∧ notIn i.dst i.op.looks = true)) → A.Pairwise (fun r i => commute false r j = true ∨ notIn i.dst r.op.looks = true) →
    (∀ x ∈ ex, x ∈ j.rs ∧ ∀ i ∈ A, notIn i.dst x.2.looks = true) → wpD P (A ++ j :: B) st K → wpD P ({ j with rs := ex } :: (A ++ B)) st K
  | [], ex, st, _, _, hex, h => stepD_less (fun x hx => (hex x hx).1) h
  | i :: A, ex, st, hA, hpw, hex, h => by
    rw [List.pairwise_cons] at hpw
    have h1 : stepD P i st fun st => wpD P (A ++ j :: B) st K := h
    by_cases hf : commute false i j = true
    · have h2 : stepD P i st fun st => stepD P { j with rs := ex } st fun st => wpD P (A ++ B) st K :=
        stepD_mono (fun st hh => bubble hK A ex st (fun q hq => hA q (by simp [hq])) hpw.2 (fun x hx => ⟨(hex x hx).1, fun q hq => (hex x hx).2 q (by simp [hq])⟩) hh) h1
      exact swap hf (by simp) (fun x hx => ⟨hx, (hex x hx).2 i (by simp)⟩) (wpD_closed hK (A ++ B)) h2
    · obtain ⟨m, hc, hm⟩ := hA i (by simp)
      have hmt : m = true := by cases m with
        | true => rfl
        | false => exact absurd hc hf
      obtain ⟨x, hx, hxo, hno⟩ := hm hmt
      have h2 : stepD P i st fun st => stepD P { j with rs := x :: ex } st fun st => wpD P (A ++ B) st K :=
        stepD_mono (fun st hh => bubble hK A (x :: ex) st (fun q hq => hA q (by simp [hq])) hpw.2 (fun y hy => by
          rcases List.mem_cons.1 hy with rfl | hy
          · refine ⟨hx, fun q hq => ?_⟩
            rw [hxo]
            exact (hpw.1 q hq).resolve_left hf
          · exact ⟨(hex y hy).1, fun q hq => (hex y hy).2 q (by simp [hq])⟩) hh) h1
      exact swap hc (fun _ => ⟨x, by simp, hxo, hno⟩) (fun y hy => ⟨by simp [hy], (hex y hy).2 i (by simp)⟩) (wpD_closed hK (A ++ B)) h2

end Go.AL
