/- Regions that draw their order: an abstract run in an order of ours serves for whatever order. Seat-independent. (Laid ahead of AL15's theorem on code.) -/
import Derived.Test.YtamgmfinkgdkjaaDoorAL14
namespace Go.AL
variable {P : Program}

theorem putK_iff {dst : Option Nat} {v : AV} {tm : List (Nat × AV)} {K : List (Nat × AV) → Prop} : putK dst v tm K ↔ K (putD dst v tm) := by cases dst <;> exact Iff.rfl
theorem need_iff {c : Bool} {K : Prop} : need c K ↔ c = true ∧ K := by cases c <;> simp [need]
theorem need_of {c : Bool} {K : Prop} (h : c = true) (k : K) : need c K := need_iff.2 ⟨h, k⟩

theorem look_putD {dst : Option Nat} {v : AV} {tm : List (Nat × AV)} {t : Nat} : look (putD dst v tm) t = if dst = some t then v else look tm t := by
  cases dst with
  | none => simp [putD]
  | some d =>
    simp only [putD, look]
    by_cases h : d = t
    · subst h; simp
    · have : Nat.beq d t = false := by
        cases hb : Nat.beq d t with
        | false => rfl
        | true => exact absurd (Nat.eq_of_beq_eq_true hb) h
      rw [this]; simp [h]

theorem look_same {tm : List (Nat × AV)} {g : Nat} {v : AV} (hg : look tm g = v) (t : Nat) : look ((g, v) :: tm) t = look tm t := by
  simp only [look]
  split
  · rename_i hb
    rw [← Nat.eq_of_beq_eq_true hb, hg]
  · rfl

theorem ev_congr {tm tm' : List (Nat × AV)} {o : Opd} (h : ∀ t ∈ o.tmps, look tm t = look tm' t) : ev tm o = ev tm' o := by
  cases o with
  | tmp t => exact h t (by simp [Opd.tmps])
  | const v => rfl

theorem evs_congr {tm tm' : List (Nat × AV)} {l : List Opd} (h : ∀ t ∈ l.flatMap Opd.tmps, look tm t = look tm' t) : l.map (ev tm) = l.map (ev tm') := by
  apply List.map_congr_left
  intro o ho
  exact ev_congr fun t ht => h t (List.mem_flatMap.2 ⟨o, ho, ht⟩)

theorem bnd_congr {tm tm' : List (Nat × AV)} {o : Option Opd} {d : Int} (h : ∀ t ∈ (match o with | some o => o.tmps | none => []), look tm t = look tm' t) : bnd tm o d = bnd tm' o d := by
  cases o with
  | none => rfl
  | some o => simp only [bnd, ev_congr h]

theorem aop_congr {tm tm' : List (Nat × AV)} {hp : AHeap} {hn : Nat} {op : AOp} (h : ∀ t ∈ op.looks, look tm t = look tm' t) : aop tm hp hn op = aop tm' hp hn op := by
  cases op <;> simp only [AOp.looks, List.mem_append] at h <;> simp only [aop]
  case mov x => rw [ev_congr h]
  case pick c a b => rw [ev_congr (o := c) fun t ht => h t (.inl (.inl ht)), ev_congr (o := a) fun t ht => h t (.inl (.inr ht)), ev_congr (o := b) fun t ht => h t (.inr ht)]
  case box x => rw [ev_congr h]
  case build z ps =>
    have : (ps.map fun (o, n, x) => (o, n, ev tm x)) = ps.map fun (o, n, x) => (o, n, ev tm' x) := by
      apply List.map_congr_left
      rintro ⟨o, n, x⟩ hx
      show (o, n, ev tm x) = (o, n, ev tm' x)
      rw [ev_congr (o := x) fun t ht => h t (List.mem_flatMap.2 ⟨_, hx, ht⟩)]
    rw [this]
  case bslice s z len ps =>
    have : (ps.map fun (i, x) => (i, ev tm x)) = ps.map fun (i, x) => (i, ev tm' x) := by
      apply List.map_congr_left
      rintro ⟨i, x⟩ hx
      show (i, ev tm x) = (i, ev tm' x)
      rw [ev_congr (o := x) fun t ht => h t (List.mem_flatMap.2 ⟨_, hx, ht⟩)]
    cases len <;> cases ps <;> first | rfl | (simp only []; rw [this])
  case bfrz s z len ps =>
    have : (ps.map fun (i, x) => (i, ev tm x)) = ps.map fun (i, x) => (i, ev tm' x) := by
      apply List.map_congr_left
      rintro ⟨i, x⟩ hx
      show (i, ev tm x) = (i, ev tm' x)
      rw [ev_congr (o := x) fun t ht => h t (List.mem_flatMap.2 ⟨_, hx, ht⟩)]
    rw [this]
  case mkfn f cap => rw [evs_congr h]
  case slice s x lo hi =>
    rw [ev_congr (o := x) fun t ht => h t (.inl (.inl ht)), bnd_congr (o := lo) fun t ht => h t (.inl (.inr ht))]
    cases slLen (ev tm' x) with
    | none => rfl
    | some n => simp only; rw [bnd_congr (o := hi) fun t ht => h t (.inr ht)]
  case sliceStr x lo hi =>
    rw [ev_congr (o := x) fun t ht => h t (.inl (.inl ht)), bnd_congr (o := lo) fun t ht => h t (.inl (.inr ht))]
    cases ev tm' x <;> try rfl
    simp only; rw [bnd_congr (o := hi) fun t ht => h t (.inr ht)]
  case load1 x => rw [ev_congr h]
  case loadN n x => rw [ev_congr h]
  case nilc x => rw [ev_congr h]
  case un op x => rw [ev_congr h]
  case conv k x => rw [ev_congr h]
  case fld n x => rw [ev_congr h]
  case field o n b x => rw [ev_congr h]
  case ext x i => rw [ev_congr h]
  case lenS x => rw [ev_congr h]
  case lenL x => rw [ev_congr h]
  case store n a x => rw [ev_congr (o := a) fun t ht => h t (.inl ht), ev_congr (o := x) fun t ht => h t (.inr ht)]
  case eq1 neg k a x => rw [ev_congr (o := a) fun t ht => h t (.inl ht), ev_congr (o := x) fun t ht => h t (.inr ht)]
  case eqv neg offs a x => rw [ev_congr (o := a) fun t ht => h t (.inl ht), ev_congr (o := x) fun t ht => h t (.inr ht)]
  case bin op a x => rw [ev_congr (o := a) fun t ht => h t (.inl ht), ev_congr (o := x) fun t ht => h t (.inr ht)]
  case mkslice b s z a x => rw [ev_congr (o := a) fun t ht => h t (.inl ht), ev_congr (o := x) fun t ht => h t (.inr ht)]
  case idxA l s a x => rw [ev_congr (o := a) fun t ht => h t (.inl ht), ev_congr (o := x) fun t ht => h t (.inr ht)]
  case idxS s a x => rw [ev_congr (o := a) fun t ht => h t (.inl ht), ev_congr (o := x) fun t ht => h t (.inr ht)]
  case indexA l s o a x => rw [ev_congr (o := a) fun t ht => h t (.inl ht), ev_congr (o := x) fun t ht => h t (.inr ht)]
  case indexStr a x => rw [ev_congr (o := a) fun t ht => h t (.inl ht), ev_congr (o := x) fun t ht => h t (.inr ht)]
  case append b s a x => rw [ev_congr (o := a) fun t ht => h t (.inl ht), ev_congr (o := x) fun t ht => h t (.inr ht)]
  case mx a x => rw [ev_congr (o := a) fun t ht => h t (.inl ht), ev_congr (o := x) fun t ht => h t (.inr ht)]
  case mn a x => rw [ev_congr (o := a) fun t ht => h t (.inl ht), ev_congr (o := x) fun t ht => h t (.inr ht)]

/-! ### What only reckons, what only reads, what only lays -/

theorem nth_app {h new : AHeap} {b : Nat} {x} (hb : nth h b = some x) : nth (h ++ new) b = some x := by
  rw [nth_eq] at *
  rw [List.getElem?_append_left (List.getElem?_eq_some_iff.1 hb).1]; exact hb

theorem readAt_app {h new : AHeap} {a : AV} {n : Nat} {r} (hr : readAt h a n = some r) : readAt (h ++ new) a n = some r := by
  cases a <;> simp only [readAt] at hr ⊢ <;> try (cases hr; done)
  · split at hr <;> try (cases hr; done)
    rename_i hb; rw [nth_app hb]; exact hr
  · split at hr <;> try (cases hr; done)
    · rename_i hb; rw [nth_app hb]; exact hr
    · rename_i hb; rw [nth_app hb]; exact hr
  · exact hr

theorem isP_keep {op : AOp} (hp : op.isP = true) {tm : List (Nat × AV)} {h : AHeap} {hn : Nat} {c : Bool} {v : AV} {e : Eff} (ha : aop tm h hn op = some (c, v, e)) :
    e = .keep ∧ ∀ h' hn', aop tm h' hn' op = some (c, v, e) := by
  cases op <;> simp [AOp.isP] at hp <;> simp only [aop] at ha ⊢
  case mov x => simp only [Option.some.injEq, Prod.mk.injEq] at ha; exact ⟨ha.2.2.symm, fun _ _ => by simp [ha]⟩
  case build => refine ⟨?_, fun _ _ => ha⟩; rw [Option.map_eq_some_iff] at ha; obtain ⟨x, _, hx⟩ := ha; simp only [Prod.mk.injEq] at hx; exact hx.2.2.symm
  case un => refine ⟨?_, fun _ _ => ha⟩; rw [Option.map_eq_some_iff] at ha; obtain ⟨x, _, hx⟩ := ha; simp only [Prod.mk.injEq] at hx; exact hx.2.2.symm
  case bin => refine ⟨?_, fun _ _ => ha⟩; rw [Option.map_eq_some_iff] at ha; obtain ⟨⟨x, y⟩, _, hx⟩ := ha; simp only [Prod.mk.injEq] at hx; exact hx.2.2.symm
  all_goals
    refine ⟨?_, fun _ _ => ha⟩
    first
    | (simp only [Option.some.injEq, Prod.mk.injEq] at ha; exact ha.2.2.symm)
    | ((repeat' (split at ha <;> try (cases ha; done))) <;> simp only [Option.some.injEq, Prod.mk.injEq] at ha <;> exact ha.2.2.symm)

theorem isR_keep {op : AOp} (hp : op.isR = true) {tm : List (Nat × AV)} {h : AHeap} {hn : Nat} {c : Bool} {v : AV} {e : Eff} (ha : aop tm h hn op = some (c, v, e)) :
    e = .keep ∧ ∀ new hn', aop tm (h ++ new) hn' op = some (c, v, e) := by
  cases op <;> simp [AOp.isR] at hp <;> simp only [aop] at ha ⊢
  case load1 a =>
    split at ha <;> try (cases ha; done)
    rename_i hr
    simp only [Option.some.injEq, Prod.mk.injEq] at ha
    exact ⟨ha.2.2.symm, fun new _ => by rw [readAt_app hr]; simp [ha]⟩
  case loadN n a =>
    split at ha <;> try (cases ha; done)
    rename_i hr
    simp only [Option.some.injEq, Prod.mk.injEq] at ha
    exact ⟨ha.2.2.symm, fun new _ => by rw [readAt_app hr]; simp [ha]⟩
  case idxS s x i =>
    split at ha <;> try (cases ha; done)
    split at ha <;> try (cases ha; done)
    · split at ha <;> try (cases ha; done)
      all_goals
        rename_i hb
        split at ha <;> try (cases ha; done)
        rename_i hs
        have ha0 := ha
        simp only [Option.some.injEq, Prod.mk.injEq] at ha
        refine ⟨ha.2.2.symm, fun new _ => ?_⟩
        rw [nth_app hb]
        simp only [hs]
        exact ha0
    · split at ha <;> try (cases ha; done)
      have ha0 := ha
      simp only [Option.some.injEq, Prod.mk.injEq] at ha
      exact ⟨ha.2.2.symm, fun _ _ => ha0⟩
    · split at ha <;> try (cases ha; done)
      split at ha <;> try (cases ha; done)
      have ha0 := ha
      simp only [Option.some.injEq, Prod.mk.injEq] at ha
      exact ⟨ha.2.2.symm, fun _ _ => ha0⟩
  case slice s x lo hi =>
    split at ha <;> try (cases ha; done)
    split at ha <;> try (cases ha; done)
    split at ha <;> try (cases ha; done)
    rename_i v' hv
    have hv' : ∀ new, sliceV (h ++ new) s (ev tm x) _ _ = some v' := fun new => by
      unfold sliceV at hv ⊢
      split at hv
      · split at hv <;> try (cases hv; done)
        rename_i hb; rw [nth_app hb]; exact hv
      · exact hv
      · exact hv
      · cases hv
    have ha0 := ha
    simp only [Option.some.injEq, Prod.mk.injEq] at ha
    exact ⟨ha.2.2.symm, fun new _ => by rw [hv' new]; exact ha0⟩

theorem isA_push {op : AOp} (hp : op.isA = true) {tm : List (Nat × AV)} {h : AHeap} {hn : Nat} {c : Bool} {v : AV} {e : Eff} (ha : aop tm h hn op = some (c, v, e)) : e = .keep ∨ ∃ b, e = .push b := by
  cases op <;> simp [AOp.isA] at hp <;> simp only [aop] at ha
  case alloc z => simp only [Option.some.injEq, Prod.mk.injEq] at ha; exact .inr ⟨_, ha.2.2.symm⟩
  case box x => simp only [Option.some.injEq, Prod.mk.injEq] at ha; exact .inr ⟨_, ha.2.2.symm⟩
  all_goals (repeat' (split at ha <;> try (cases ha; done))) <;> simp only [Option.some.injEq, Prod.mk.injEq] at ha <;> first | exact .inr ⟨_, ha.2.2.symm⟩ | exact .inl ha.2.2.symm

/-! ### One operation, in general -/

def Closed (K : St → Prop) : Prop := ∀ a b, StEq a b → K a → K b

theorem StEq.refl (a : St) : StEq a a := ⟨fun _ => rfl, rfl, rfl, rfl⟩
theorem StEq.symm {a b : St} (h : StEq a b) : StEq b a := ⟨fun t => (h.1 t).symm, h.2.1.symm, h.2.2.1.symm, h.2.2.2.symm⟩
theorem StEq.trans {a b c : St} (h : StEq a b) (k : StEq b c) : StEq a c := ⟨fun t => (h.1 t).trans (k.1 t), h.2.1.trans k.2.1, h.2.2.1.trans k.2.2.1, h.2.2.2.trans k.2.2.2⟩

theorem lays_iff {po : Bool} {rs : List (Nat × AOp)} {tm : List (Nat × AV)} {hp : AHeap} {hn : Nat} {e : Eff} {K : Prop} :
    e.lays po rs tm hp hn K ↔ (po = true → (e = .keep ∨ ∃ b, e = .push b) ∨ same tm hp (e.app hp) hn rs) ∧ K := by
  cases po with
  | false => simp [Eff.lays]
  | true => cases e <;> simp [Eff.lays, Eff.app]

theorem same_iff {tm : List (Nat × AV)} {hp hp' : AHeap} {hn : Nat} : ∀ {rs : List (Nat × AOp)}, same tm hp hp' hn rs ↔ ∀ x ∈ rs, aop tm hp hn x.2 = aop tm hp' hn x.2
  | [] => by simp [same]
  | x :: xs => by simp [same, same_iff (rs := xs)]

theorem same_congr {tm tm' : List (Nat × AV)} {hp hp' : AHeap} {hn : Nat} {rs rs' : List (Nat × AOp)} (hsub : ∀ x ∈ rs', x ∈ rs) (hl : ∀ x ∈ rs', ∀ t ∈ x.2.looks, look tm t = look tm' t) (h : same tm hp hp' hn rs) : same tm' hp hp' hn rs' := by
  rw [same_iff] at h ⊢
  intro x hx
  rw [← aop_congr (hl x hx), ← aop_congr (hl x hx)]
  exact h x (hsub x hx)

/-- What a call of yield does to the ghost. -/
def gput (g : Option AV) (tm : List (Nat × AV)) : List (Nat × AV) :=
  match g with
  | some x => (G, x) :: tm
  | none => tm

theorem look_gput {g : Option AV} {tm : List (Nat × AV)} {t : Nat} (h : t ≠ G) : look (gput g tm) t = look tm t := by
  cases g with
  | none => rfl
  | some x =>
    simp only [gput, look]
    split
    · rename_i hb; exact absurd (Nat.eq_of_beq_eq_true hb).symm h
    · rfl

theorem look_gput_congr {g : Option AV} {tm tm' : List (Nat × AV)} {t : Nat} (h : look tm t = look tm' t) : look (gput g tm) t = look (gput g tm') t := by
  cases g with
  | none => exact h
  | some x => simp only [gput, look]; split <;> first | rfl | exact h

/-- A drawn operation looks at its own temporaries alone: with others beside them it does the same. -/
theorem stepAD_frame {po : Bool} {rs rs' : List (Nat × AOp)} {op : AOp} {dst : Option Nat} {tm tm' : List (Nat × AV)} {hp : AHeap} {hn n0 : Nat} {next next' : St → Prop} (hl : ∀ t ∈ op.looks, look tm t = look tm' t) (hg : look tm G = look tm' G)
    (hr : ∀ hp2, same tm hp hp2 hn rs → same tm' hp hp2 hn rs')
    (hN : ∀ g v hp2 hn2, (op.isP = true ∨ op.isR = true ∨ op.isA = true → ∃ new, hp2 = hp ++ new) → (po = true → (∃ new, hp2 = hp ++ new) ∨ same tm hp hp2 hn rs) → next ⟨putD dst v (gput g tm), hp2, hn2, n0⟩ → next' ⟨putD dst v (gput g tm'), hp2, hn2, n0⟩)
    (h : stepAD P po rs op dst tm hp hn n0 next) : stepAD P po rs' op dst tm' hp hn n0 next' := by
  have quiet : (match aop tm hp hn op with
      | some (c, v, e) => need c (e.lays po rs tm hp hn (f2 v fun v => e.go hp hn fun hp hn => putK dst v tm fun tm => next ⟨tm, hp, hn, n0⟩))
      | none => False) → (match aop tm' hp hn op with
      | some (c, v, e) => need c (e.lays po rs' tm' hp hn (f2 v fun v => e.go hp hn fun hp hn => putK dst v tm' fun tm => next' ⟨tm, hp, hn, n0⟩))
      | none => False) := by
    rw [← aop_congr hl]
    intro hq
    split at hq <;> try (exact hq.elim)
    rename_i c v e he
    rw [need_iff, lays_iff, f2_iff, Eff.go_iff, putK_iff] at hq ⊢
    have lay : (e = .keep ∨ ∃ b, e = .push b) → ∃ new, e.app hp = hp ++ new := by
      rintro (rfl | ⟨b, rfl⟩)
      · exact ⟨[], by simp [Eff.app]⟩
      · exact ⟨[some b], rfl⟩
    refine ⟨hq.1, fun hpo => ?_, hN none v _ _ (fun hcl => ?_) (fun hpo => ?_) hq.2.2⟩
    · rcases hq.2.1 hpo with h | h2
      · exact .inl h
      · exact .inr (hr _ h2)
    · rcases hcl with hcl | hcl | hcl
      · exact lay (.inl (isP_keep hcl he).1)
      · exact lay (.inl (isR_keep hcl he).1)
      · exact lay (isA_push hcl he)
    · rcases hq.2.1 hpo with h | h2
      · exact .inl (lay h)
      · exact .inr h2
  have push : ∀ (f : FuncId) (args : List AV), (op.isP = false ∧ op.isR = false ∧ op.isA = false) →
      CallsA P f args hp (fun r h' => Pushed po rs tm hp hn h' (putK dst r tm fun tm => next ⟨tm, h', h'.length, n0⟩)) →
      CallsA P f args hp (fun r h' => Pushed po rs' tm' hp hn h' (putK dst r tm' fun tm => next' ⟨tm, h', h'.length, n0⟩)) := by
    rintro f args ⟨c1, c2, c3⟩ hc
    refine ⟨hc.1, fun E cs H hlen ha => (hc.2 E cs H hlen ha).mono ?_⟩
    rintro e w' ⟨v, r, h', E', h1, h2, h3⟩
    refine ⟨v, r, h', E', h1, ?_, h3⟩
    cases po with
    | false =>
      simp only [Pushed, putK_iff] at h2 ⊢
      exact hN none r h' _ (by rw [c1, c2, c3]; simp) (by simp) h2
    | true =>
      simp only [Pushed, putK_iff] at h2 ⊢
      exact ⟨h2.1.imp id (hr _), hN none r h' _ (by rw [c1, c2, c3]; simp) (fun _ => h2.1) h2.2⟩
  cases op with
  | call f args =>
    simp only [stepAD] at h ⊢
    rw [← evs_congr (l := args) hl]
    exact push f _ ⟨rfl, rfl, rfl⟩ h
  | callv f args =>
    simp only [stepAD] at h ⊢
    simp only [AOp.looks, List.mem_append] at hl
    rw [← evs_congr (l := args) (fun t ht => hl t (.inr ht)), ← ev_congr (o := f) (fun t ht => hl t (.inl ht))]
    split at h <;> try (exact h.elim)
    · exact push _ _ ⟨rfl, rfl, rfl⟩ h
    · unfold yieldA at h ⊢
      rw [← hg]
      split at h <;> try (exact h.elim)
      simp only [putK_iff] at h ⊢
      exact ⟨h.1, hN (some _) _ _ _ (fun _ => ⟨[], by simp⟩) (fun _ => .inl ⟨[], by simp⟩) h.2.1, hN (some _) _ _ _ (fun _ => ⟨[], by simp⟩) (fun _ => .inl ⟨[], by simp⟩) h.2.2⟩
  | _ => exact quiet h

end Go.AL
