/- Two operations that no order binds: each of the two orders serves, so whatever order does. Seat-independent. -/
import Derived.Test.YtdjnndcdplgojaaAL24
namespace Go.AL
variable {P : Program}

/-- The same operations, but for what they wait for. -/
def SameOps (ops1 ops : Array Oper) : Prop := ∀ q : Nat, (ops1[q]?).map (fun o : Oper => { o with after := #[] }) = (ops[q]?).map (fun o : Oper => { o with after := #[] })

theorem SameOps.get {ops1 ops : Array Oper} (h : SameOps ops1 ops) {q : Nat} {o : Oper} (ho : ops[q]? = some o) : ∃ x, ops1[q]? = some { o with after := x } := by
  have := h q
  rw [ho] at this
  cases h1 : ops1[q]? with
  | none => rw [h1] at this; simp at this
  | some o1 =>
    rw [h1] at this
    simp only [Option.map_some, Option.some.injEq] at this
    refine ⟨o1.after, ?_⟩
    cases o1; cases o
    simp only [Oper.mk.injEq] at this
    obtain ⟨rfl, rfl, rfl, rfl, _, rfl⟩ := this
    rfl

theorem SameOps.symm {ops1 ops : Array Oper} (h : SameOps ops1 ops) : SameOps ops ops1 := fun q => (h q).symm

theorem SameOps.size {ops1 ops : Array Oper} (h : SameOps ops1 ops) : ops1.size = ops.size := by
  have key : ∀ {a b : Array Oper}, SameOps a b → b.size ≤ a.size := by
    intro a b h
    rcases Nat.eq_zero_or_pos b.size with h0 | h0
    · omega
    · have hb : b[b.size - 1]? = some b[b.size - 1] := by simp [show b.size - 1 < b.size by omega]
      obtain ⟨x, hx⟩ := h.get hb
      have := (Array.getElem?_eq_some_iff.1 hx).1
      omega
  have := key h
  have := key h.symm
  omega

theorem SameOps.dst {ops1 ops : Array Oper} (h : SameOps ops1 ops) (q : Nat) : (ops1[q]?).bind (·.dst) = (ops[q]?).bind (·.dst) := by
  cases ho : ops[q]? with
  | none =>
    have := h q
    rw [ho] at this
    simp only [Option.map_none, Option.map_eq_none_iff] at this
    rw [this]
  | some o => obtain ⟨x, hx⟩ := h.get ho; rw [hx]; rfl

theorem SameOps.yielded {ops1 ops : Array Oper} (h : SameOps ops1 ops) (tmps : Array Value) : yielded ops1 tmps = yielded ops tmps := by
  funext j
  unfold Go.yielded
  rw [h.dst j]

theorem SameOps.wpOpIn {ops1 ops : Array Oper} (h : SameOps ops1 ops) {F : Fence} {n : Nat} {Q : Exit → Act → World → Prop} {q : Nat} {K : Act → World → Prop} {a : Act} {w : World} (hw : wpOpIn F n P ops1 Q q K a w) : wpOpIn F n P ops Q q K a w := by
  cases ho : ops[q]? with
  | none =>
    have h1 : ops1[q]? = none := by
      have := h q
      rw [ho] at this
      simpa using this
    simp only [Go.wpOpIn, ho, h1] at hw ⊢
    exact hw
  | some o =>
    obtain ⟨x, hx⟩ := h.get ho
    simp only [Go.wpOpIn, ho, hx, h.yielded] at hw ⊢
    exact hw

theorem SameOps.comp {ops1 ops : Array Oper} (h : SameOps ops1 ops) {N : Nat} {fz : Bool} {q : Nat} {ao : AOper} (hc : ∃ o, ops[q]? = some o ∧ cOper P N ops fz o = some ao) : ∃ o, ops1[q]? = some o ∧ cOper P N ops1 fz o = some ao := by
  obtain ⟨o, ho, hc⟩ := hc
  obtain ⟨x, hx⟩ := h.get ho
  refine ⟨_, hx, ?_⟩
  have hg : ∀ g, cGuard ops1 g = cGuard ops g := by
    intro g
    cases g with
    | none => rfl
    | some g => simp only [cGuard, h.dst]
  unfold cOper at hc ⊢
  simp only [hg]
  exact hc

theorem withEdge_same (ops : Array Oper) (i j : Nat) : SameOps (withEdge ops i j) ops := by
  intro q
  simp only [withEdge, Array.getElem?_modify]
  split
  · cases ops[q]? <;> simp
  · rfl

theorem withEdge_other {ops : Array Oper} {i j q : Nat} (h : q ≠ j) : (withEdge ops i j)[q]? = ops[q]? := by
  simp only [withEdge, Array.getElem?_modify]
  rw [if_neg (fun e => h e.symm)]

theorem withEdge_at {ops : Array Oper} {i j : Nat} {o : Oper} (h : ops[j]? = some o) : (withEdge ops i j)[j]? = some { o with after := o.after.push ⟨i, .data⟩ } := by
  simp [withEdge, Array.getElem?_modify, h]

theorem direct_other {ops : Array Oper} {i j q : Nat} (h : q ≠ j) : direct (withEdge ops i j) q = direct ops q := by
  simp only [direct, withEdge_other h]

theorem direct_sub {ops : Array Oper} {i j q m : Nat} (h : m ∈ direct ops q) : m ∈ direct (withEdge ops i j) q := by
  by_cases hq : q = j
  · subst hq
    unfold direct at h ⊢
    cases ho : ops[q]? with
    | none => rw [ho] at h; simp at h
    | some o =>
      rw [ho] at h
      rw [withEdge_at ho]
      simp only [Array.toList_push, List.filter_append, List.map_append, List.mem_append]
      exact .inl h
  · rw [direct_other hq]; exact h

/-- What may come up next. -/
theorem ready_up {ops : Array Oper} {i j q : Nat} {listed : Array Bool} (h : q ∈ Region.ready .any ops listed) (hq : q ≠ j ∨ listed.getD i false = true) : q ∈ Region.ready .any (withEdge ops i j) listed := by
  obtain ⟨h1, o, ho, h2⟩ := mem_ready.1 h
  by_cases hj : q = j
  · subst hj
    refine mem_ready.2 ⟨h1, _, withEdge_at ho, fun e he hb => ?_⟩
    rcases Array.mem_push.1 he with he | rfl
    · exact h2 e he hb
    · exact hq.resolve_left (by simp)
  · exact mem_ready.2 ⟨h1, o, by rw [withEdge_other hj]; exact ho, h2⟩

theorem ready_down {ops : Array Oper} {i j q : Nat} {listed : Array Bool} (h : q ∈ Region.ready .any (withEdge ops i j) listed) : q ∈ Region.ready .any ops listed := by
  obtain ⟨h1, o, ho, h2⟩ := mem_ready.1 h
  by_cases hj : q = j
  · subst hj
    cases ho' : ops[q]? with
    | none =>
      have := withEdge_same ops i q q
      rw [ho', ho] at this
      simp at this
    | some o' =>
      rw [withEdge_at ho'] at ho
      obtain rfl := Option.some.inj ho
      exact mem_ready.2 ⟨h1, o', ho', fun e he hb => h2 e (Array.mem_push.2 (.inl he)) hb⟩
  · rw [withEdge_other hj] at ho
    exact mem_ready.2 ⟨h1, o, ho, h2⟩

theorem listed_set {listed : Array Bool} {i q : Nat} (h : listed.getD i false = true) : (listed.setIfInBounds q true).getD i false = true := by
  simp only [Array.getD_eq_getD_getElem?, Array.getElem?_setIfInBounds] at h ⊢
  split
  · rename_i hq; subst hq
    split
    · rfl
    · rename_i hs; rw [Array.getElem?_eq_none (by omega)] at h; simp at h
  · exact h

/-- Once the one ahead is through, the edge binds nothing. -/
theorem any_edge {F : Fence} {n : Nat} {ops : Array Oper} {Q : Exit → Act → World → Prop} {i j : Nat} : ∀ (fuel : Nat) (listed : Array Bool) (a : Act) (w : World), listed.getD i false = true →
    wpAnyIn F n P .any (withEdge ops i j) Q fuel listed a w → wpAnyIn F n P .any ops Q fuel listed a w
  | 0, listed, a, w, hi, h => by
    refine ⟨?_, h.2⟩
    rw [List.eq_nil_iff_forall_not_mem]
    intro q hq
    have := ready_up (j := j) hq (.inr hi)
    rw [h.1] at this; cases this
  | fuel + 1, listed, a, w, hi, h => by
    refine ⟨fun hn => h.1 ?_, fun q hq => ?_⟩
    · rw [List.eq_nil_iff_forall_not_mem]
      intro q hq
      have := ready_down hq
      rw [hn] at this; cases this
    · exact (withEdge_same ops i j).wpOpIn (wpOpIn_mono (fun a w hh => any_edge fuel _ a w (listed_set hi) hh) (h.2 q (ready_up hq (.inr hi))))

section
variable {r : Option Nat} {n : Nat} {K : KP} {S0 : Shp} {N z : Nat} {ops : Array Oper}

/-- One that may come up now is taken first. -/
theorem front_of {Kn : St → Prop} (hK : Closed Kn) {aops : List AOper} {bef : List Nat} {A B : List Nat} {j : Nat} {x : AOper} (hrel : relOK bef aops = true) (hrs : ∀ (j : Nat) b, aops[j]? = some b → ∀ x ∈ b.rs, (aops[x.1]?).map (·.op) = some x.2)
    (hp : pairsOK bef aops (A ++ j :: B) = true) (hjo : aops[j]? = some x) (hl : x.late = false) (hbef : ∀ i ∈ A, (bef.getD j 0).testBit i = false) {st : St} (h : wpD P ((A ++ j :: B).filterMap (aops[·]?)) st Kn) :
    stepD P { x with rs := [] } st fun st => wpD P ((A ++ B).filterMap (aops[·]?)) st Kn := by
  obtain ⟨p1, _, p3⟩ := pairs_spec hp
  have hcomm : ∀ i ∈ A, ∀ y, aops[i]? = some y → commute (tagged i x) y x = true := by
    intro i hi y hy
    rcases p1 i hi with h2 | ⟨u, v, hu, hv, hc⟩
    · rw [hbef i hi] at h2; cases h2
    · rw [hy] at hu
      rw [hjo] at hv
      obtain rfl := Option.some.inj hu
      obtain rfl := Option.some.inj hv
      rw [Bool.or_eq_true] at hc
      rcases hc with hc | hc
      · exact hc
      · simp [latecom, hl] at hc
  have htag : ∀ i y, aops[i]? = some y → tagged i x = true → ∃ u ∈ x.rs, u.1 = i ∧ u.2 = y.op := by
    intro i y hy ht
    obtain ⟨u, hu, rfl⟩ := tagged_spec ht
    have := hrs j _ hjo u hu
    rw [hy] at this
    exact ⟨u, hu, rfl, (Option.some.inj this).symm⟩
  have hpw := (List.pairwise_append.1 (pairs_pw hp)).1
  rw [List.filterMap_append, List.filterMap_cons, hjo] at h
  have hb := bubble hK (A.filterMap (aops[·]?)) [] st (fun y hy => by
    obtain ⟨i, hi, hix⟩ := List.mem_filterMap.1 hy
    refine ⟨_, hcomm i hi y hix, fun ht => ?_⟩
    obtain ⟨u, hu, hu1, hu2⟩ := htag i y hix ht
    exact ⟨u, hu, hu2, by rw [← hu2]; exact rel_spec hrel hjo hix hu (.inl hu1.symm) (p3 i hi)⟩) (by
    rw [List.pairwise_filterMap]
    refine hpw.imp_of_mem fun {a b} ha hb hab x' hx' y hy => ?_
    cases ht : tagged a x with
    | false =>
      have := hcomm a ha x' hx'
      rw [ht] at this
      exact .inl this
    | true =>
      obtain ⟨u, hu, hu1, hu2⟩ := htag a x' hx' ht
      exact .inr (by rw [← hu2]; exact rel_spec hrel hjo hy hu (.inr (by rw [hu1]; exact hab)) (p3 b hb))) (by simp) h
  rw [List.filterMap_append]
  exact hb

/-- What only reckons or reads does one thing. -/
theorem both_step {o : AOper} (hq : o.op.isP = true ∨ o.op.isR = true) {K1 K2 : St → Prop} (h1 : Closed K1) (h2 : Closed K2) {b1 b2 : Bool} {r1 r2 : List (Nat × AOp)} {st : St}
    (g1 : stepD P { o with po := b1, rs := r1 } st K1) (g2 : stepD P { o with po := b2, rs := r2 } st K2) : stepG P { o with po := false, rs := [] } st fun st => K1 st ∧ K2 st := by
  obtain ⟨tm, hp, hn, n0⟩ := st
  have h12 : Closed fun st => K1 st ∧ K2 st := fun a b hab h => ⟨h1 _ _ hab h.1, h2 _ _ hab h.2⟩
  refine stepD_G ?_
  rw [stepD_iff h1] at g1
  rw [stepD_iff h2] at g2
  rw [stepD_iff h12]
  simp only at g1 g2 ⊢
  rcases g1 with ⟨w1, g1⟩ | ⟨w1, g1⟩ <;> rcases g2 with ⟨w2, g2⟩ | ⟨w2, g2⟩
  · rw [quiet_iff hq] at g1 g2
    obtain ⟨u, e1, g1⟩ := g1
    obtain ⟨v, e2, g2⟩ := g2
    rw [e1] at e2
    simp only [Option.some.injEq, Prod.mk.injEq, true_and, and_true] at e2
    subst e2
    exact .inl ⟨w1, (quiet_iff hq).2 ⟨u, e1, g1, g2⟩⟩
  · rw [w1] at w2; cases w2
  · rw [w1] at w2; cases w2
  · exact .inr ⟨w1, g1, g2⟩

theorem not_late {o : AOper} (hq : o.op.isP = true ∨ o.op.isR = true) (po : Bool) (rs : List (Nat × AOp)) : ({ o with po := po, rs := rs } : AOper).late = false := by
  unfold AOper.late
  split
  · rename_i he
    simp only [AOper.mk.injEq] at he
    rw [he.2.1] at hq
    simp [AOp.isP, AOp.isR] at hq
  · rfl

/-- All that any_sound asks of an order. -/
structure Ordered (ops : Array Oper) (aops : List AOper) (rk : Nat → Nat) : Prop where
  hd : ∀ i, i < ops.size → ∀ k ∈ direct ops i, k < ops.size ∧ rk k < rk i
  late : lateOK aops = true
  rel : relOK (befOf ops) aops = true
  rs : ∀ (j : Nat) b, aops[j]? = some b → ∀ x ∈ b.rs, (aops[x.1]?).map (·.op) = some x.2

theorem clos_of {ops : Array Oper} {rk : Nat → Nat} (hd : ∀ i, i < ops.size → ∀ k ∈ direct ops i, k < ops.size ∧ rk k < rk i) {M : List Nat} (hcl : ∀ q, q < ops.size → q ∉ M → ∀ m ∈ direct ops q, m ∉ M) :
    ∀ q, q < ops.size → (∀ m ∈ direct ops q, m ∉ M) → ∀ k, ((befOf ops).getD q 0).testBit k = true → k ∉ M := by
  have go : ∀ (n q : Nat), rk q < n → q < ops.size → (∀ m ∈ direct ops q, m ∉ M) → ∀ k, ((befOf ops).getD q 0).testBit k = true → k ∉ M := by
    intro n
    induction n with
    | zero => intro q hq; omega
    | succ n ihn =>
      intro q hqn hqs hdq k hk
      rcases befOf_spec ops q k hk with h2 | ⟨m, hm, h2⟩
      · exact hdq k h2
      · have hmq := hd q hqs m hm
        exact ihn m (by omega) hmq.1 (hcl m hmq.1 (hdq m hm)) k h2
  intro q hqs hdq k hk
  exact go (rk q + 1) q (by omega) hqs hdq k hk

theorem pair_any (C : Ctx P r K) {fz : Bool} {Q : Exit → Act → World → Prop} {l aops1 aops2 : List AOper} {Kn : St → Prop} (hK : Closed Kn) (hKQ : ∀ O E st a, Lf r S0 K N z O E st a → Kn st → Q .normal a E.w) {i j : Nat} (hij : i ≠ j)
    (hlen : l.length = ops.size) (hl : ∀ (q : Nat) ao, l[q]? = some ao → ∃ o, ops[q]? = some o ∧ cOper P N ops fz o = some ao)
    (e1 : ∀ (q : Nat) (ao : AOper), l[q]? = some ao → ∃ b c, aops1[q]? = some { ao with po := b, rs := c }) (e2 : ∀ (q : Nat) (ao : AOper), l[q]? = some ao → ∃ b c, aops2[q]? = some { ao with po := b, rs := c }) (hn1 : aops1.length = ops.size) (hn2 : aops2.length = ops.size)
    (hquiet : ∀ (q : Nat) (ao : AOper), l[q]? = some ao → q ≠ i → q ≠ j → ao.op.isP = true ∨ ao.op.isR = true) {rk1 rk2 : Nat → Nat} (W1 : Ordered (withEdge ops i j) aops1 rk1) (W2 : Ordered (withEdge ops j i) aops2 rk2) :
    ∀ (fuel : Nat) (L1 L2 M : List Nat) (listed : Array Bool), M.length = fuel → M.Nodup → L1.Nodup → L2.Nodup → listed.size = ops.size → (∀ q, q < ops.size → (listed.getD q true = false ↔ q ∈ M)) → (∀ q, q ∈ L1 ↔ q ∈ M) → (∀ q, q ∈ L2 ↔ q ∈ M) → (∀ q ∈ M, q < ops.size) →
      i ∈ M → j ∈ M → (∀ q, q < ops.size → q ∉ M → ∀ m ∈ direct ops q, m ∉ M) → pairsOK (befOf (withEdge ops i j)) aops1 L1 = true → pairsOK (befOf (withEdge ops j i)) aops2 L2 = true →
      ∀ (O : Nat → Prop) (E : Env) (st : St) (a : Act), Lf r S0 K N z O E st a → wpD P (L1.filterMap (aops1[·]?)) st Kn → wpD P (L2.filterMap (aops2[·]?)) st Kn → wpAnyIn (Fr r) n P .any ops Q fuel listed a E.w := by
  intro fuel
  have s1 := withEdge_same ops i j
  have s2 := withEdge_same ops j i
  have z1 := s1.size
  have z2 := s2.size
  have comp1 : ∀ {i' j' : Nat} {aops : List AOper}, (∀ (q : Nat) (ao : AOper), l[q]? = some ao → ∃ b c, aops[q]? = some { ao with po := b, rs := c }) → aops.length = ops.size →
      ∀ (q : Nat) ao, aops[q]? = some ao → ∃ o b c, (withEdge ops i' j')[q]? = some o ∧ (cOper P N (withEdge ops i' j') fz o).map (fun a : AOper => { a with po := b, rs := c }) = some ao := by
    intro i' j' aops he hlen' q ao hao
    have hq : q < l.length := by have := (List.getElem?_eq_some_iff.1 hao).1; omega
    obtain ⟨b, c, h1⟩ := he q _ (List.getElem?_eq_getElem hq)
    rw [hao] at h1
    obtain rfl := Option.some.inj h1
    obtain ⟨o, ho, hc⟩ := (withEdge_same ops i' j').comp (hl q _ (List.getElem?_eq_getElem hq))
    exact ⟨o, b, c, ho, by rw [hc]; rfl⟩
  induction fuel with
  | zero =>
    intro L1 L2 M listed hlM hMn _ _ _ _ _ _ _ hi
    rw [List.eq_nil_of_length_eq_zero hlM] at hi; simp at hi
  | succ fuel ih =>
    intro L1 L2 M listed hlM hMn hnd1 hnd2 hsz hli hL1 hL2 hlt hi hj hcl hp1 hp2 O E st a Lv h1 h2
    have closE : ∀ {i' j' : Nat}, (j' ∈ M) → ∀ q, q < ops.size → q ∉ M → ∀ m ∈ direct (withEdge ops i' j') q, m ∉ M := by
      intro i' j' hj' q hq hqM m hm
      have hne : q ≠ j' := fun he => hqM (by rw [he]; exact hj')
      rw [direct_other hne] at hm
      exact hcl q hq hqM m hm
    have whole : ∀ {i' j' : Nat} {aops : List AOper} {rk : Nat → Nat} {L : List Nat}, Ordered (withEdge ops i' j') aops rk → (∀ (q : Nat) (ao : AOper), l[q]? = some ao → ∃ b c, aops[q]? = some { ao with po := b, rs := c }) → aops.length = ops.size → j' ∈ M → L.Nodup → (∀ q, q ∈ L ↔ q ∈ M) → pairsOK (befOf (withEdge ops i' j')) aops L = true →
        wpD P (L.filterMap (aops[·]?)) st Kn → wpAnyIn (Fr r) n P .any (withEdge ops i' j') Q (fuel + 1) listed a E.w := by
      intro i' j' aops rk L W he hn hj' hnd hL hp h
      have zz := (withEdge_same ops i' j').size
      exact any_sound C hK hKQ (by omega) (comp1 he hn) rk W.hd W.late W.rel W.rs (fuel + 1) L M [] listed hlM hMn hnd (by omega) (fun q hq => hli q (by omega)) (fun q hq => by have := hlt q ((hL q).1 hq); omega) (fun q hq => (hL q).2 hq)
        (fun q hq hqM => closE hj' q (by omega) hqM) hp O E st a ⟨fun q hq => .inl ((hL q).1 hq), by simp, by simp, by simp, by simp, List.Pairwise.nil⟩ Lv h
    have self : ∀ {q : Nat}, q ∈ M → (listed.setIfInBounds q true).getD q false = true := by
      intro q hq
      have := hlt q hq
      simp [Array.getD_eq_getD_getElem?, show q < listed.size by omega]
    refine ⟨fun hnil => ?_, fun q hq => ?_⟩
    · exfalso
      obtain ⟨m, hm, hmin⟩ := least rk1 M (by rintro rfl; simp at hi)
      have hms := hlt m hm
      have hready : m ∈ Region.ready .any ops listed := by
        refine mem_ready.2 ⟨(hli m hms).2 hm, ops[m], by simp [hms], fun e he hb => ?_⟩
        have hmem : e.on ∈ direct ops m := by
          simp only [direct, show ops[m]? = some ops[m] by simp [hms], List.mem_map, List.mem_filter, Array.mem_toList_iff]
          exact ⟨e, ⟨he, hb⟩, rfl⟩
        have hlt' := W1.hd m (by omega) e.on (direct_sub hmem)
        have hno : e.on ∉ M := fun hh => by have := hmin e.on hh; omega
        have h3 := mt (hli e.on (by omega)).1 hno
        have : e.on < listed.size := by omega
        simp [Array.getD, this] at h3 ⊢
        exact h3
      rw [hnil] at hready
      cases hready
    · by_cases hqi : q = i
      · subst hqi
        exact s1.wpOpIn (wpOpIn_mono (fun a w hh => any_edge fuel _ a w (self hi) hh) ((whole W1 e1 hn1 hj hnd1 hL1 hp1 h1).2 q (ready_up hq (.inl hij))))
      by_cases hqj : q = j
      · subst hqj
        exact s2.wpOpIn (wpOpIn_mono (fun a w hh => any_edge fuel _ a w (self hj) hh) ((whole W2 e2 hn2 hi hnd2 hL2 hp2 h2).2 q (ready_up hq (.inl (Ne.symm hij)))))
      obtain ⟨g1, o, ho, hall⟩ := mem_ready.1 hq
      have hqs : q < ops.size := (Array.getElem?_eq_some_iff.1 ho).1
      have hqM := (hli q hqs).1 g1
      have hdq : ∀ m ∈ direct ops q, m ∉ M := by
        intro m hm hmM
        simp only [direct, ho, List.mem_map, List.mem_filter, Array.mem_toList_iff] at hm
        obtain ⟨e, ⟨he, hb⟩, rfl⟩ := hm
        have h2 := hall e he hb
        have hms := hlt _ hmM
        have h3 := (hli _ hms).2 hmM
        have : e.on < listed.size := by omega
        simp [Array.getD, this] at h2 h3
        rw [h2] at h3; cases h3
      have hql : q < l.length := by omega
      have hqo : l[q]? = some l[q] := List.getElem?_eq_getElem hql
      have hqt := hquiet q _ hqo hqi hqj
      obtain ⟨b1, c1, hq1⟩ := e1 q _ hqo
      obtain ⟨b2, c2, hq2⟩ := e2 q _ hqo
      obtain ⟨A1, B1, rfl⟩ := List.append_of_mem ((hL1 q).2 hqM)
      obtain ⟨A2, B2, rfl⟩ := List.append_of_mem ((hL2 q).2 hqM)
      have nb : ∀ {i' j' : Nat} {aops : List AOper} {rk : Nat → Nat}, Ordered (withEdge ops i' j') aops rk → j' ∈ M → q ≠ j' → ∀ m, m ∈ M → ((befOf (withEdge ops i' j')).getD q 0).testBit m = false := by
        intro i' j' aops rk W hj' hne m hm
        cases hb : ((befOf (withEdge ops i' j')).getD q 0).testBit m with
        | false => rfl
        | true =>
          have zz := (withEdge_same ops i' j').size
          exact absurd hm (clos_of W.hd (fun q hq hqM => closE hj' q (by omega) hqM) q (by omega) (by rw [direct_other hne]; exact hdq) m hb)
      have f1 := front_of hK W1.rel W1.rs hp1 hq1 (not_late hqt ..) (fun m hm => nb W1 hj hqj m ((hL1 m).1 (by simp [hm]))) h1
      have f2 := front_of hK W2.rel W2.rs hp2 hq2 (not_late hqt ..) (fun m hm => nb W2 hi hqi m ((hL2 m).1 (by simp [hm]))) h2
      obtain ⟨o', ho', hco⟩ := hl q _ hqo
      rw [ho] at ho'
      obtain rfl := Option.some.inj ho'
      have hpo : l[q] = { l[q] with po := false, rs := [] } := by
        have := hco
        unfold cOper at this
        simp only [Option.bind_eq_bind, Option.bind_eq_some_iff] at this
        obtain ⟨_, _, _, _, this⟩ := this
        split at this <;> try (cases this; done)
        rw [← Option.some.inj this]
      have hb := both_step (o := l[q]) hqt (wpD_closed hK _) (wpD_closed hK _) f1 f2
      rw [← hpo] at hb
      have split : ∀ {A B : List Nat}, (A ++ q :: B).Nodup → (∀ m, m ∈ A ++ q :: B ↔ m ∈ M) → (A ++ B).Nodup ∧ ∀ m, m ∈ A ++ B ↔ m ∈ M.erase q := by
        intro A B hnd hL
        rw [List.nodup_append] at hnd
        obtain ⟨n1, n2, n3⟩ := hnd
        rw [List.nodup_cons] at n2
        refine ⟨List.nodup_append.2 ⟨n1, n2.2, fun a ha b hb => n3 a ha b (by simp [hb])⟩, fun m => ?_⟩
        rw [hMn.mem_erase_iff, ← hL m]
        simp only [List.mem_append, List.mem_cons]
        constructor
        · rintro (hm | hm)
          · exact ⟨fun he => n3 m hm q (by simp) he, .inl hm⟩
          · exact ⟨fun he => n2.1 (by rw [← he]; exact hm), .inr (.inr hm)⟩
        · rintro ⟨hne, hm | hm | hm⟩
          · exact .inl hm
          · exact absurd hm hne
          · exact .inr hm
      obtain ⟨m1, m2⟩ := split hnd1 hL1
      obtain ⟨m3, m4⟩ := split hnd2 hL2
      refine oper_sound' C (next := fun st => wpD P ((A1 ++ B1).filterMap (aops1[·]?)) st Kn ∧ wpD P ((A2 ++ B2).filterMap (aops2[·]?)) st Kn) ho hco Lv hb fun O2 E2 st2 a2 L2' hn2' _ _ => ?_
      refine ih (A1 ++ B1) (A2 ++ B2) (M.erase q) _ (by rw [List.length_erase_of_mem hqM]; omega) (hMn.erase q) m1 m3 (by simpa using hsz) (fun m hm => ?_) m2 m4 (fun m hm => hlt m (List.mem_of_mem_erase hm))
        ((hMn.mem_erase_iff).2 ⟨fun he => hqi he.symm, hi⟩) ((hMn.mem_erase_iff).2 ⟨fun he => hqj he.symm, hj⟩) (fun m hm hmM k hk hkM => ?_) (pairs_spec hp1).2.1 (pairs_spec hp2).2.1 O2 E2 st2 a2 L2' hn2'.1 hn2'.2
      · rw [hMn.mem_erase_iff]
        by_cases hqm : q = m
        · subst hqm
          have : q < listed.size := by omega
          simp [Array.getD, this]
        · have : (listed.setIfInBounds q true).getD m true = listed.getD m true := by
            simp [Array.getD_eq_getD_getElem?, Array.getElem?_setIfInBounds_ne hqm]
          rw [this, hli m hm]
          have : m ≠ q := fun h => hqm h.symm
          simp [this]
      · have hkM' := List.mem_of_mem_erase hkM
        by_cases hmq : m = q
        · subst hmq; exact hdq k hk hkM'
        · exact hcl m hm (fun h => hmM ((hMn.mem_erase_iff).2 ⟨hmq, h⟩)) k hk hkM'
end
end Go.AL
