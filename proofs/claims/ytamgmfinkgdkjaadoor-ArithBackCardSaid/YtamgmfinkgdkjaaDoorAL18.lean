/- Operations may be taken in another order. Seat-independent. -/
import Derived.Test.YtamgmfinkgdkjaaDoorAL17
namespace Go.AL
variable {P : Program}

def wantedA (tm : List (Nat × AV)) (g : Option (Nat × Bool)) : Option Bool :=
  match g with
  | none => some true
  | some (g, want) => match look tm g with
    | .bool b => some (b == want)
    | .tup _ => some false
    | _ => none

theorem stEq_ghost {tm : List (Nat × AV)} {g : Nat} {v : AV} (hg : look tm g = v) {hp : AHeap} {hn n0 : Nat} : StEq ⟨(g, v) :: tm, hp, hn, n0⟩ ⟨tm, hp, hn, n0⟩ := ⟨fun t => look_same hg t, rfl, rfl, rfl⟩

theorem putD_eq {tm tm' : List (Nat × AV)} (h : ∀ t, look tm t = look tm' t) {dst : Option Nat} {v : AV} {hp : AHeap} {hn n0 : Nat} : StEq ⟨putD dst v tm, hp, hn, n0⟩ ⟨putD dst v tm', hp, hn, n0⟩ :=
  ⟨fun t => by rw [look_putD, look_putD]; split <;> simp [h], rfl, rfl, rfl⟩

theorem stepAD_closed {po : Bool} {rs : List (Nat × AOp)} {op : AOp} {dst : Option Nat} {tm tm' : List (Nat × AV)} {hp : AHeap} {hn n0 : Nat} {next next' : St → Prop} (hc : Closed next) (hn' : ∀ st, next st → next' st)
    (h : ∀ t, look tm t = look tm' t) (hs : stepAD P po rs op dst tm hp hn n0 next) : stepAD P po rs op dst tm' hp hn n0 next' :=
  stepAD_frame (fun t _ => h t) (h G) (fun _ hh => same_congr (fun _ hx => hx) (fun _ _ t _ => h t) hh) (fun _ _ _ _ _ _ hk => hn' _ (hc _ _ (putD_eq fun t => look_gput_congr (h t)) hk)) hs

theorem stepD_iff {o : AOper} {tm : List (Nat × AV)} {hp : AHeap} {hn n0 : Nat} {next : St → Prop} (hc : Closed next) :
    stepD P o ⟨tm, hp, hn, n0⟩ next ↔ (wantedA tm o.guard = some true ∧ stepAD P o.po o.rs o.op o.dst tm hp hn n0 next) ∨ (wantedA tm o.guard = some false ∧ next ⟨putD o.dst (.tup []) tm, hp, hn, n0⟩) := by
  unfold stepD wantedA
  cases hg : o.guard with
  | none => simp
  | some gw =>
    obtain ⟨g, want⟩ := gw
    simp only
    cases hl : look tm g with
    | bool b =>
      simp only [putK_iff]
      have e1 : ∀ nx : St → Prop, Closed nx → (stepAD P o.po o.rs o.op o.dst ((g, .bool b) :: tm) hp hn n0 nx ↔ stepAD P o.po o.rs o.op o.dst tm hp hn n0 nx) := fun nx hnx =>
        ⟨stepAD_closed hnx (fun _ h => h) (fun t => look_same hl t), stepAD_closed hnx (fun _ h => h) (fun t => (look_same hl t).symm)⟩
      have e2 : next ⟨putD o.dst (.tup []) ((g, .bool b) :: tm), hp, hn, n0⟩ ↔ next ⟨putD o.dst (.tup []) tm, hp, hn, n0⟩ :=
        ⟨hc _ _ (putD_eq fun t => look_same hl t), hc _ _ (putD_eq fun t => (look_same hl t).symm)⟩
      cases b <;> cases want <;> simp only [ifB] <;> first | (rw [e1 next hc]; simp) | (rw [e2]; simp)
    | _ => simp [putK_iff]

theorem stepD_mono {o : AOper} {st : St} {next next' : St → Prop} (hn : ∀ st, next st → next' st) (h : stepD P o st next) : stepD P o st next' := by
  obtain ⟨tm, hp, hnn, n0⟩ := st
  unfold stepD at *
  simp only at *
  have m : ∀ {tm}, stepAD P o.po o.rs o.op o.dst tm hp hnn n0 next → stepAD P o.po o.rs o.op o.dst tm hp hnn n0 next' := fun h => stepAD_frame (fun _ _ => rfl) rfl (fun _ h => h) (fun _ _ _ _ _ _ hk => hn _ hk) h
  split at h
  · exact m h
  · rename_i g want hg
    split at h <;> try (exact h.elim)
    · rename_i b hb
      simp only [putK_iff] at *
      cases b <;> cases want <;> simp only [ifB] at * <;> first | exact m h | exact hn _ h
    · simp only [putK_iff] at *
      exact hn _ h

theorem stepD_closed {o : AOper} {next : St → Prop} (hc : Closed next) : Closed fun st => stepD P o st next := by
  rintro ⟨tm, hp, hn, n0⟩ ⟨tm', hp', hn', n0'⟩ ⟨h1, h2, h3, h4⟩ h
  simp only at h1 h2 h3 h4
  subst h2 h3 h4
  simp only [stepD_iff hc] at *
  have hw : wantedA tm o.guard = wantedA tm' o.guard := by
    unfold wantedA
    cases o.guard with
    | none => rfl
    | some gw => simp only [h1]
  rcases h with ⟨a, b⟩ | ⟨a, b⟩
  · exact .inl ⟨by rw [← hw]; exact a, stepAD_closed hc (fun _ h => h) h1 b⟩
  · exact .inr ⟨by rw [← hw]; exact a, hc _ _ (putD_eq h1) b⟩

theorem wpD_mono {K K' : St → Prop} (h : ∀ st, K st → K' st) : ∀ (l : List AOper) (st : St), wpD P l st K → wpD P l st K'
  | [], _, hk => h _ hk
  | _ :: l, _, hk => stepD_mono (fun _ hh => wpD_mono h l _ hh) hk

theorem wpD_closed {K : St → Prop} (hc : Closed K) : ∀ (l : List AOper), Closed fun st => wpD P l st K
  | [] => hc
  | _ :: l => stepD_closed (wpD_closed hc l)

theorem quiet_iff {po : Bool} {rs : List (Nat × AOp)} {op : AOp} {dst : Option Nat} {tm : List (Nat × AV)} {hp : AHeap} {hn n0 : Nat} {next : St → Prop} (hq : op.isP = true ∨ op.isR = true) :
    stepAD P po rs op dst tm hp hn n0 next ↔ ∃ u, aop tm hp hn op = some (true, u, .keep) ∧ next ⟨putD dst u tm, hp, hn, n0⟩ := by
  have main : (match aop tm hp hn op with
      | some (c, v, e) => need c (e.lays po rs tm hp hn (f2 v fun v => e.go hp hn fun hp hn => putK dst v tm fun tm => next ⟨tm, hp, hn, n0⟩))
      | none => False) ↔ ∃ u, aop tm hp hn op = some (true, u, .keep) ∧ next ⟨putD dst u tm, hp, hn, n0⟩ := by
    cases ha : aop tm hp hn op with
    | none => simp
    | some x =>
      obtain ⟨c, v, e⟩ := x
      have he : e = .keep := by
        rcases hq with h | h
        · exact (isP_keep h ha).1
        · exact (isR_keep h ha).1
      subst he
      simp only [need_iff, lays_iff, f2_iff, Eff.go_iff, putK_iff, Eff.app, Eff.hn, Option.some.injEq, Prod.mk.injEq, and_true, true_or, implies_true, true_and]
      constructor
      · rintro ⟨rfl, h⟩; exact ⟨v, ⟨rfl, rfl⟩, h⟩
      · rintro ⟨u, ⟨rfl, rfl⟩, h⟩; exact ⟨rfl, h⟩
  cases op with
  | call f args => simp [AOp.isP, AOp.isR] at hq
  | callv f args => simp [AOp.isP, AOp.isR] at hq
  | _ => exact main

theorem notIn_spec {d : Option Nat} {l : List Nat} (h : notIn d l = true) : ∀ t ∈ l, d ≠ some t := by
  intro t ht he
  subst he
  simp [notIn] at h
  exact h ht

theorem wanted_put {tm : List (Nat × AV)} {o : AOper} {d : Option Nat} {u : AV} (h : notIn d o.looks = true) : wantedA (putD d u tm) o.guard = wantedA tm o.guard := by
  unfold wantedA
  cases hg : o.guard with
  | none => rfl
  | some gw =>
    obtain ⟨g, want⟩ := gw
    simp only
    rw [look_putD, if_neg]
    exact notIn_spec h g (by simp [AOper.looks, hg])

theorem wanted_gput {tm : List (Nat × AV)} {o : AOper} {g : Option AV} (h : ∀ t ∈ o.looks, t ≠ G) : wantedA (gput g tm) o.guard = wantedA tm o.guard := by
  unfold wantedA
  cases hg : o.guard with
  | none => rfl
  | some gw =>
    obtain ⟨q, want⟩ := gw
    simp only
    rw [look_gput (h q (by simp [AOper.looks, hg]))]

theorem gput_put {tm : List (Nat × AV)} {d : Option Nat} {u : AV} {g : Option AV} (h : d ≠ some G) (t : Nat) : look (gput g (putD d u tm)) t = look (putD d u (gput g tm)) t := by
  by_cases ht : t = G
  · subst ht
    rw [look_putD, if_neg h]
    cases g with
    | none => simp only [gput]; rw [look_putD, if_neg h]
    | some x => simp [gput, look]
  · rw [look_gput ht, look_putD, look_putD, look_gput ht]

theorem put_comm {tm : List (Nat × AV)} {d e : Option Nat} {u v : AV} (h : (match d, e with | some a, some b => a != b | _, _ => true) = true) (t : Nat) :
    look (putD e v (putD d u tm)) t = look (putD d u (putD e v tm)) t := by
  simp only [look_putD]
  by_cases h1 : e = some t <;> by_cases h2 : d = some t
  · subst h1 h2; simp at h
  · simp [h1, h2]
  · simp [h1, h2]
  · simp [h1, h2]

theorem swap {m : Bool} {i j : AOper} (hc : commute m i j = true) {rs rs' : List (Nat × AOp)} (hm : m = true → ∃ x ∈ rs, x.2 = i.op ∧ notIn i.dst i.op.looks = true) (hsub : ∀ x ∈ rs', x ∈ rs ∧ notIn i.dst x.2.looks = true)
    {W : St → Prop} (hW : Closed W) {st : St} (h : stepD P i st fun st => stepD P { j with rs := rs } st W) : stepD P { j with rs := rs' } st fun st => stepD P i st W := by
  obtain ⟨tm, hp, hn, n0⟩ := st
  simp only [commute, Bool.and_eq_true, Bool.or_eq_true] at hc
  obtain ⟨⟨⟨⟨⟨c1, c2⟩, c3⟩, c4⟩, c5⟩, c6⟩ := hc
  have g1 : ∀ t ∈ i.looks, t ≠ G := fun t ht he => by subst he; simp [notIn] at c5; exact c5 ht
  have g2 : i.dst ≠ some G := notIn_spec c6 G (by simp)
  have hq : i.op.isP = true ∨ i.op.isR = true := c4.imp id And.left
  have hjl : ∀ u, ∀ t ∈ j.op.looks, look (putD i.dst u tm) t = look tm t := fun u t ht => by
    rw [look_putD, if_neg (notIn_spec c1 t (by simp [AOper.looks, ht]))]
  -- the first one's value
  have key : ∃ u, stepD P { j with rs := rs } ⟨putD i.dst u tm, hp, hn, n0⟩ W ∧ ∀ g v hp2 hn2, (i.op.isP = true ∨ (∃ new, hp2 = hp ++ new) ∨ (m = true ∧ same (putD i.dst u tm) hp hp2 hn rs)) → W ⟨putD i.dst u (putD j.dst v (gput g tm)), hp2, hn2, n0⟩ → stepD P i ⟨putD j.dst v (gput g tm), hp2, hn2, n0⟩ W := by
    rw [stepD_iff (stepD_closed hW)] at h
    rcases h with ⟨w1, h⟩ | ⟨w1, h⟩
    · rw [quiet_iff hq] at h
      obtain ⟨u, ha, h⟩ := h
      refine ⟨u, h, fun g v hp2 hn2 hext hw => ?_⟩
      rw [stepD_iff hW]
      refine .inl ⟨by rw [wanted_put c2, wanted_gput g1]; exact w1, ?_⟩
      rw [quiet_iff hq]
      refine ⟨u, ?_, hw⟩
      rw [aop_congr (tm' := tm) (fun t ht => by rw [look_putD, if_neg (notIn_spec c2 t (by simp [AOper.looks, ht])), look_gput (g1 t (by simp [AOper.looks, ht]))])]
      rcases hext with hP | ⟨new, rfl⟩ | ⟨hm1, hs⟩
      · exact (isP_keep hP ha).2 _ _
      · rcases hq with hP | hR
        · exact (isP_keep hP ha).2 _ _
        · exact (isR_keep hR ha).2 new _
      · obtain ⟨x, hx, hxo, hno⟩ := hm hm1
        have hsx := same_iff.1 hs x hx
        have hlk : ∀ t ∈ i.op.looks, look (putD i.dst u tm) t = look tm t := fun t ht => by rw [look_putD, if_neg (notIn_spec hno t ht)]
        rw [hxo, aop_congr hlk, aop_congr hlk] at hsx
        have hR : i.op.isP = true ∨ i.op.isR = true := hq
        have hz : aop tm hp2 hn i.op = some (true, u, .keep) := by rw [← hsx]; exact ha
        rcases hR with hP | hR
        · exact (isP_keep hP ha).2 _ _
        · have := (isR_keep hR hz).2 [] hn2
          simpa using this
    · refine ⟨.tup [], h, fun g v hp2 hn2 _ hw => ?_⟩
      rw [stepD_iff hW]
      exact .inr ⟨by rw [wanted_put c2, wanted_gput g1]; exact w1, hw⟩
  obtain ⟨u, hj, hi⟩ := key
  have ext : ∀ (hp2 : AHeap), (j.op.isP = true ∨ j.op.isR = true ∨ j.op.isA = true → ∃ new, hp2 = hp ++ new) → (j.po = true → (∃ new, hp2 = hp ++ new) ∨ same (putD i.dst u tm) hp hp2 hn rs) →
      i.op.isP = true ∨ (∃ new, hp2 = hp ++ new) ∨ (m = true ∧ same (putD i.dst u tm) hp hp2 hn rs) := by
    intro hp2 hh hpo
    rcases c4 with h | ⟨_, h⟩
    · exact .inl h
    · rcases h with ((h | h) | h) | h
      · exact .inr (.inl (hh (.inl h)))
      · exact .inr (.inl (hh (.inr (.inl h))))
      · exact .inr (.inl (hh (.inr (.inr h))))
      · rcases hpo h.1 with h' | h'
        · exact .inr (.inl h')
        · exact .inr (.inr ⟨h.2, h'⟩)
  have c1' : notIn i.dst ({ j with rs := rs } : AOper).looks = true := c1
  rw [stepD_iff hW, wanted_put c1'] at hj
  rw [stepD_iff (stepD_closed hW)]
  rcases hj with ⟨w2, hj⟩ | ⟨w2, hj⟩
  · refine .inl ⟨w2, stepAD_frame (hjl u) (by rw [look_putD, if_neg g2]) (fun hp2 hs => same_congr (fun x hx => (hsub x hx).1) (fun x hx t ht => by rw [look_putD, if_neg (notIn_spec (hsub x hx).2 t ht)]) hs) (fun g v hp2 hn2 hh hpo hw => ?_) hj⟩
    refine hi g v hp2 hn2 (ext hp2 hh hpo) (hW ⟨putD j.dst v (gput g (putD i.dst u tm)), hp2, hn2, n0⟩ _ ⟨fun t => ?_, rfl, rfl, rfl⟩ hw)
    rw [← put_comm c3 t, look_putD, look_putD]
    split
    · rfl
    · exact gput_put g2 t
  · exact .inr ⟨w2, hi none _ hp hn (.inr (.inl ⟨[], by simp⟩)) (hW ⟨putD j.dst (.tup []) (putD i.dst u tm), hp, hn, n0⟩ _ ⟨fun t => put_comm c3 t, rfl, rfl, rfl⟩ hj)⟩

theorem stepD_less {o : AOper} {st : St} {next : St → Prop} {rs : List (Nat × AOp)} (hsub : ∀ x ∈ rs, x ∈ o.rs) (h : stepD P o st next) : stepD P { o with rs := rs } st next := by
  obtain ⟨tm, hp, hn, n0⟩ := st
  unfold stepD at *
  simp only at *
  have m : ∀ {tm}, stepAD P o.po o.rs o.op o.dst tm hp hn n0 next → stepAD P o.po rs o.op o.dst tm hp hn n0 next := fun h =>
    stepAD_frame (fun _ _ => rfl) rfl (fun _ h => same_congr hsub (fun _ _ _ _ => rfl) h) (fun _ _ _ _ _ _ hk => hk) h
  split at h
  · exact m h
  · rename_i g want hg
    split at h <;> try (exact h.elim)
    · rename_i b hb
      simp only [putK_iff] at *
      cases b <;> cases want <;> simp only [ifB] at * <;> first | exact m h | exact h
    · exact h

theorem bubble {K : St → Prop} (hK : Closed K) {j : AOper} {B : List AOper} : ∀ (A : List AOper) (ex : List (Nat × AOp)) (st : St),
    (∀ i ∈ A, ∃ m, commute m i j = true ∧ (m = true → ∃ x ∈ j.rs, x.2 = i.op ∧ notIn i.dst i.op.looks = true)) → A.Pairwise (fun r i => commute false r j = true ∨ notIn i.dst r.op.looks = true) →
    (∀ x ∈ ex, x ∈ j.rs ∧ ∀ i ∈ A, notIn i.dst x.2.looks = true) → wpD P (A ++ j :: B) st K → wpD P ({ j with rs := ex } :: (A ++ B)) st K
  | [], ex, st, _, _, hex, h => stepD_less (fun x hx => (hex x hx).1) h
  | i :: A, ex, st, hA, hpw, hex, h => by
    rw [List.pairwise_cons] at hpw
    have h1 : stepD P i st fun st => wpD P (A ++ j :: B) st K := h
    by_cases hf : commute false i j = true
    · have h2 : stepD P i st fun st => stepD P { j with rs := ex } st fun st => wpD P (A ++ B) st K :=
        stepD_mono (fun st hh => bubble hK A ex st (fun q hq => hA q (by simp [hq])) hpw.2 (fun x hx => ⟨(hex x hx).1, fun q hq => (hex x hx).2 q (by simp [hq])⟩) hh) h1
      exact swap hf (by simp) (fun x hx => ⟨hx, (hex x hx).2 i (by simp)⟩) (wpD_closed hK (A ++ B)) h2
    · obtain ⟨m, hc, hm⟩ := hA i (by simp)
      have hmt : m = true := by cases m with
        | true => rfl
        | false => exact absurd hc hf
      obtain ⟨x, hx, hxo, hno⟩ := hm hmt
      have h2 : stepD P i st fun st => stepD P { j with rs := x :: ex } st fun st => wpD P (A ++ B) st K :=
        stepD_mono (fun st hh => bubble hK A (x :: ex) st (fun q hq => hA q (by simp [hq])) hpw.2 (fun y hy => by
          rcases List.mem_cons.1 hy with rfl | hy
          · refine ⟨hx, fun q hq => ?_⟩
            rw [hxo]
            exact (hpw.1 q hq).resolve_left hf
          · exact ⟨(hex y hy).1, fun q hq => (hex y hy).2 q (by simp [hq])⟩) hh) h1
      exact swap hc (fun _ => ⟨x, by simp, hxo, hno⟩) (fun y hy => ⟨by simp [hy], (hex y hy).2 i (by simp)⟩) (wpD_closed hK (A ++ B)) h2

end Go.AL
