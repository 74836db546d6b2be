/- Reads and writes through the abstract heap. Seat-independent. -/
import Derived.Test.YtamgmfinkgdkjaaDoorAL4
namespace Go.AL
variable {E : Env} {h : AHeap}

def At (w : World) (ad : Addr) (vs : List Value) : Prop := ∀ (j : Nat) v, vs[j]? = some v → w.cell? (ad.add j) = some v

theorem add_plain (b o j : Nat) : (⟨b, o, none⟩ : Addr).add j = ⟨b, o + j, none⟩ := by unfold Addr.add; split <;> simp_all

theorem closed_nil {w : World} {F : Nat → Prop} {S : Shp} {x : AV} {v : Value} (hc : closed x = true) (hr : Rel w F S x v) : Rel w F .nil x v := by
  cases hr <;> simp [closed] at hc
  case int => exact .int ..
  case bool => exact .bool ..
  case str => exact .str ..
  case pnil => exact .pnil ..
  case snil => exact .snil ..
  case semp => exact .semp ..
  case fnil => exact .fnil ..
  case inil => exact .inil ..
  case rp row j cb base off vs h0 h1 h2 h3 => exact .rp _ _ _ _ _ _ vs h0 h1 h2 h3
  case ri k xs n cap a h1 h2 h3 h4 => exact .ri _ _ _ _ _ _ h1 h2 h3 h4
  case ro s rows n cap a vs h1 h2 h3 h4 h5 => exact .ro _ _ _ _ _ _ vs h1 h2 h3 h4 h5
  case yld => exact .yld ..
  case len n cap a h1 h2 => exact .len _ _ _ _ h1 h2

theorem leaf_one {w : World} {F : Nat → Prop} {S : Shp} {x : AV} {v : Value} (hc : leaf x = true) (hr : Rel w F S x v) : v.oneCell' = true := by
  cases hr <;> simp [leaf] at hc <;> rfl

theorem closed_leaf {x : AV} (h : closed x = true) : leaf x = true := by cases x <;> simp_all [closed, leaf]

theorem inner_to {w : World} {F : Nat → Prop} {S : Shp} (b : ABlk) {x : AV} {v : Value} (h : Rel w F (b.inner S) x v) : Rel w F S x v := by
  cases b with
  | box => exact h
  | ia => exact h.nil_to S
  | arr => exact h.nil_to S

theorem read_blk (H : HRel E h) {k : Nat} {b : ABlk} (hk : h[k]? = some (some b)) {cb base : Nat} (hr : E.S.ρ[k]? = some (cb, base)) (cs : List AV) (i j : Nat)
    (hcs : ∀ (q : Nat) x, cs[q]? = some x → b.cell i (j + q) = some x) :
    ∃ vs : List Value, vs.length = cs.length ∧ At E.w ⟨cb, base + i * b.shape.1 + j, none⟩ vs ∧
      ∀ (q : Nat) x v, cs[q]? = some x → vs[q]? = some v → Go.AL.Rel E.w E.F (b.inner E.S) x v := by
  obtain ⟨h0, cb₁, base₁, c, e, h1, h2, h3, h4, h5⟩ := H.blk k b hk
  rw [hr] at h1
  obtain ⟨rfl, rfl⟩ := Prod.mk.inj (Option.some.inj h1)
  refine ⟨(List.range cs.length).map fun q => (c[base + i * b.shape.1 + (j + q)]?).getD undef, by simp, ?_, ?_⟩
  · intro q v hq
    rw [add_plain]
    rw [List.getElem?_map] at hq
    by_cases hlt : q < cs.length
    · rw [List.getElem?_range hlt] at hq
      obtain ⟨u, hu, _⟩ := h5 i (j + q) cs[q] (hcs q _ (List.getElem?_eq_getElem hlt))
      simp only [Option.map_some, hu, Option.getD_some, Option.some.injEq] at hq
      subst hq
      simp [World.cell?, h2, ← hu, Nat.add_assoc]
    · rw [List.getElem?_eq_none (by simp; omega)] at hq; simp at hq
  · intro q x v hx hv
    have hlt : q < cs.length := (List.getElem?_eq_some_iff.1 hx).1
    obtain ⟨u, hu, hR⟩ := h5 i (j + q) x (hcs q _ hx)
    rw [List.getElem?_map, List.getElem?_range hlt] at hv
    simp only [Option.map_some, hu, Option.getD_some, Option.some.injEq] at hv
    subst hv
    exact hR

theorem part_some {cs : List AV} {j n : Nat} {l : List AV} (h : part cs j n = some l) : j + n ≤ cs.length ∧ l = (cs.drop j).take n := by
  unfold part at h
  split at h
  · rename_i hb; exact ⟨Nat.le_of_ble_eq_true hb, (Option.some.inj h).symm⟩
  · cases h

theorem part_get {cs : List AV} {j n : Nat} {l : List AV} (h : part cs j n = some l) : l.length = n ∧ ∀ (q : Nat) x, l[q]? = some x → cs[j + q]? = some x := by
  obtain ⟨h1, rfl⟩ := part_some h
  refine ⟨by simp; omega, fun q x hx => ?_⟩
  rw [List.getElem?_take] at hx
  split at hx
  · rw [List.getElem?_drop] at hx; exact hx
  · cases hx

theorem readAt_sound (H : HRel E h) {a : AV} {va : Value} (ha : E.R a va) {n : Nat} {cs : List AV} (hr : readAt h a n = some (true, cs)) :
    ∃ ad vs, va = .pointer (some ad) ∧ vs.length = n ∧ cs.length = n ∧ At E.w ad vs ∧ ∀ (q : Nat) x v, cs[q]? = some x → vs[q]? = some v → E.R x v := by
  cases ha <;> simp only [readAt] at hr <;> try cases hr
  case bp b j cb base off h2 h1 =>
    rw [nth_eq] at hr
    split at hr <;> try cases hr
    rename_i l hl
    cases hp : part l j n with
    | none => rw [hp] at hr; cases hr
    | some l' =>
      rw [hp] at hr
      obtain rfl : l' = cs := by simpa using hr
      obtain ⟨p1, p2⟩ := part_get hp
      obtain ⟨vs, v1, v2, v3⟩ := read_blk H hl h1 l' 0 j (fun q x hx => by simp only [ABlk.cell, if_true]; exact p2 q x hx)
      refine ⟨_, vs, rfl, v1.trans p1, p1, ?_, fun q x v hx hv => inner_to _ (v3 q x v hx hv)⟩
      simpa [h2] using v2
  case rp row j cb base off vs h0 h1 h2 h3 =>
    cases hp : part row j n with
    | none => rw [hp] at hr; cases hr
    | some l' =>
      rw [hp] at hr
      obtain rfl : l' = cs := by simpa using hr
      obtain ⟨p1, p2⟩ := part_get hp
      refine ⟨_, (List.range n).map fun q => vs (j + q), rfl, by simp, p1, ?_, ?_⟩
      · intro q v hv
        rw [List.getElem?_map] at hv
        by_cases hlt : q < n
        · rw [List.getElem?_range hlt] at hv
          obtain rfl := Option.some.inj hv
          rw [add_plain, h1, Nat.add_assoc]
          exact h2 (j + q) _ (p2 q _ (List.getElem?_eq_getElem (by omega)))
        · rw [List.getElem?_eq_none (by simp; omega)] at hv; cases hv
      · intro q x v hx hv
        have hlt : q < n := by have := (List.getElem?_eq_some_iff.1 hx).1; omega
        rw [List.getElem?_map, List.getElem?_range hlt] at hv
        obtain rfl := Option.some.inj hv
        exact (h3 (j + q) x (p2 q x hx)).nil_to _
  case ep b i j cb base off h1 h2 =>
    rw [nth_eq] at hr
    split at hr <;> try cases hr
    · rename_i k xs hl
      split at hr <;> try cases hr
      simp only [Option.some.injEq, Prod.mk.injEq, decide_eq_true_eq] at hr
      obtain ⟨hi, rfl⟩ := hr
      have hoff := h2 _ _ (H.live.2 ⟨_, hl, rfl⟩)
      obtain ⟨vs, v1, v2, v3⟩ := read_blk H hl h1 [.int k (xs.getD i 0)] i 0 (fun q x hx => by
        match q, hx with
        | 0, hx =>
          simp only [List.getElem?_cons_zero, Option.some.injEq] at hx
          subst hx
          simp [ABlk.cell, List.getElem?_eq_getElem hi, List.getD])
      refine ⟨_, vs, rfl, v1, rfl, ?_, fun q x v hx hv => inner_to _ (v3 q x v hx hv)⟩
      rw [hoff]; exact v2
    · rename_i s rows hl
      rw [nth_eq] at hr
      cases hrow : rows[i]? with
      | none => rw [hrow] at hr; cases hr
      | some row =>
        rw [hrow] at hr
        simp only at hr
        cases hp : part row j n with
        | none => rw [hp] at hr; cases hr
        | some l' =>
          rw [hp] at hr
          obtain rfl : l' = cs := by simpa using hr
          obtain ⟨p1, p2⟩ := part_get hp
          have hoff := h2 _ _ (H.live.2 ⟨_, hl, rfl⟩)
          obtain ⟨vs, v1, v2, v3⟩ := read_blk H hl h1 l' i j (fun q x hx => by simp only [ABlk.cell, hrow, Option.bind_some]; exact p2 q x hx)
          refine ⟨_, vs, rfl, v1.trans p1, p1, ?_, fun q x v hx hv => inner_to _ (v3 q x v hx hv)⟩
          rw [hoff]; exact v2

theorem write_blk (P : Program) (H : HRel E h) {k : Nat} {b b' : ABlk} (hk : h[k]? = some (some b)) {cb base : Nat} (hr : E.S.ρ[k]? = some (cb, base)) (i j : Nat)
    (new : List AV) (news : List Value) (hlen : news.length = new.length) (hsh : b'.shape = b.shape) (hfit : b'.fits) (hi : i < b.shape.2) (hj : j + new.length ≤ b.shape.1)
    (hcol : ∀ i' j' x, b'.cell i' j' = some x → j' < b.shape.1)
    (hb' : ∀ i' j' x, b'.cell i' j' = some x → (i' = i ∧ j ≤ j' ∧ j' < j + new.length ∧ new[j' - j]? = some x) ∨ (¬ (i' = i ∧ j ≤ j' ∧ j' < j + new.length) ∧ b.cell i' j' = some x))
    (hin : b'.inner E.S = b.inner E.S)
    (hnew : ∀ (q : Nat) x v, new[q]? = some x → news[q]? = some v → Go.AL.Rel E.w E.F (b.inner E.S) x v) (hone : ∀ v ∈ news, v.oneCell' = true) :
    ∃ c' : Array Value, (storeCells ⟨cb, base + i * b.shape.1 + j, none⟩ news 0).run P E.w = .ok () (E.setRow cb c').w ∧ Ext E (E.setRow cb c') ∧
      HRel (E.setRow cb c') (lset h k (some b')) := by
  obtain ⟨h0, cb₁, base₁, c, e, h1, h2, h3, h4, h5⟩ := H.blk k b hk
  rw [hr] at h1
  obtain ⟨rfl, rfl⟩ := Prod.mk.inj (Option.some.inj h1)
  generalize ho : base + i * b.shape.1 + j = o
  have hrow : i * b.shape.1 + b.shape.1 ≤ b.shape.2 * b.shape.1 := by
    rw [← Nat.succ_mul]; exact Nat.mul_le_mul_right _ hi
  have hfitc : o + news.length ≤ c.size := by omega
  have hst := run_storeCells_at P cb o e news 0 c E.w h2 (by simpa using hfitc) hone
  simp only [Nat.add_zero] at hst
  refine ⟨_, hst, ?_, ?_⟩
  · exact H.ext_setRow (H.own_of hk hr) h2 (by simp; omega)
  · refine H.set hk hr h2 (by simp; omega) hsh hfit fun i' j' x hx => ?_
    rw [hin, hsh]
    have hj' := hcol i' j' x hx
    have hget : ∀ p : Nat, (c.toList.take o ++ news ++ c.toList.drop (o + news.length)).toArray[p]? = if o ≤ p ∧ p < o + news.length then news[p - o]? else c[p]? := by
      intro p
      rw [List.getElem?_toArray, List.getElem?_append, List.getElem?_append]
      have ht : (c.toList.take o).length = o := by simp; omega
      simp only [List.length_append, ht]
      by_cases hp1 : p < o
      · rw [if_pos (by omega), if_pos hp1, if_neg (by omega)]
        rw [List.getElem?_take, if_pos hp1]; simp
      · by_cases hp2 : p < o + news.length
        · rw [if_pos hp2, if_neg hp1, if_pos ⟨by omega, hp2⟩]
        · rw [if_neg hp2, if_neg (by omega), List.getElem?_drop, show o + news.length + (p - (o + news.length)) = p by omega]; simp
    rcases hb' i' j' x hx with ⟨rfl, q1, q2, q3⟩ | ⟨q1, q2⟩
    · have hlt : j' - j < news.length := by omega
      refine ⟨news[j' - j], ?_, hnew (j' - j) x _ q3 (List.getElem?_eq_getElem hlt)⟩
      rw [hget, if_pos (by omega), show base + i' * b.shape.1 + j' - o = j' - j by omega, List.getElem?_eq_getElem hlt]
    · obtain ⟨v, hv1, hv2⟩ := h5 i' j' x q2
      refine ⟨v, ?_, hv2⟩
      rw [hget, if_neg, hv1]
      rintro ⟨r1, r2⟩
      apply q1
      have hii : i' = i := by
        rcases Nat.lt_trichotomy i' i with hl | hl | hl
        · have : i' * b.shape.1 + b.shape.1 ≤ i * b.shape.1 := by rw [← Nat.succ_mul]; exact Nat.mul_le_mul_right _ hl
          omega
        · exact hl
        · have : i * b.shape.1 + b.shape.1 ≤ i' * b.shape.1 := by rw [← Nat.succ_mul]; exact Nat.mul_le_mul_right _ hl
          omega
      subst hii
      exact ⟨rfl, by omega, by omega⟩

theorem splice_get : ∀ (cs : List AV) (j : Nat) (new : List AV), j + new.length ≤ cs.length → (splice cs j new).length = cs.length ∧
    ∀ p, (splice cs j new)[p]? = if j ≤ p ∧ p < j + new.length then new[p - j]? else cs[p]?
  | cs, 0, new, h => by
    refine ⟨by simp [splice]; omega, fun p => ?_⟩
    simp only [splice]
    rw [List.getElem?_append]
    by_cases hp : p < new.length
    · rw [if_pos hp, if_pos (by omega)]; simp
    · rw [if_neg hp, if_neg (by omega), List.getElem?_drop, show new.length + (p - new.length) = p by omega]
  | [], j + 1, new, h => by simp at h
  | c :: cs, j + 1, new, h => by
    obtain ⟨h1, h2⟩ := splice_get cs j new (by simp at h; omega)
    refine ⟨by simp [splice, h1], fun p => ?_⟩
    cases p with
    | zero => simp [splice]
    | succ p =>
      simp only [splice, List.getElem?_cons_succ, h2 p]
      by_cases hp : j ≤ p ∧ p < j + new.length
      · rw [if_pos hp, if_pos (by omega), show p + 1 - (j + 1) = p - j by omega]
      · rw [if_neg hp, if_neg (by omega)]

/-- Concrete values beside abstract ones. -/
def Bes (E : Env) (xs : List AV) (vs : List Value) : Prop := xs.length = vs.length ∧ ∀ (q : Nat) x v, xs[q]? = some x → vs[q]? = some v → E.R x v

theorem Bes.one {xs : List AV} {vs : List Value} (h : Bes E xs vs) (hl : xs.all leaf = true) : ∀ v ∈ vs, v.oneCell' = true := by
  intro v hv
  obtain ⟨q, hq, rfl⟩ := List.getElem_of_mem hv
  have hlt : q < xs.length := by rw [h.1]; exact hq
  exact leaf_one (List.all_eq_true.1 hl _ (List.getElem_mem hlt)) (h.2 q _ _ (List.getElem?_eq_getElem hlt) (List.getElem?_eq_getElem hq))

theorem closed_all {xs : List AV} (h : xs.all closed = true) : xs.all leaf = true := by
  rw [List.all_eq_true] at *
  exact fun x hx => closed_leaf (h x hx)

theorem writeAt_sound (P : Program) (H : HRel E h) {a : AV} {va : Value} (ha : E.R a va) {new : List AV} {news : List Value} (hb : Bes E new news) {e : Eff} (hw : writeAt h a new = some (true, e)) :
    ∃ ad E', va = .pointer (some ad) ∧ (storeCells ad news 0).run P E.w = .ok () E'.w ∧ Ext E E' ∧ HRel E' (e.app h) := by
  cases ha <;> simp only [writeAt] at hw <;> try (cases hw; done)
  case bp b j cb base off h2 h1 =>
    rw [nth_eq] at hw
    split at hw <;> try (cases hw; done)
    rename_i l hl
    split at hw <;> try (cases hw; done)
    rename_i hc
    rw [Bool.and_eq_true] at hc
    have hle := Nat.le_of_ble_eq_true hc.1
    simp only [Option.some.injEq, Prod.mk.injEq, true_and] at hw
    subst hw
    obtain ⟨s1, s2⟩ := splice_get l j new hle
    obtain ⟨c', w1, w2, w3⟩ := write_blk P H hl h1 (b' := .box (splice l j new)) 0 j new news hb.1.symm (by simp [ABlk.shape, s1]) trivial (by simp [ABlk.shape]) hle
      (fun i' j' x hx => by
        simp only [ABlk.cell] at hx
        split at hx
        · have := (List.getElem?_eq_some_iff.1 hx).1; simpa [ABlk.shape, s1] using this
        · cases hx)
      (fun i' j' x hx => by
        simp only [ABlk.cell] at hx ⊢
        split at hx
        · rename_i hi
          subst hi
          rw [s2] at hx
          split at hx
          · rename_i hr; exact .inl ⟨rfl, hr.1, hr.2, hx⟩
          · rename_i hr; exact .inr ⟨fun h => hr h.2, by simpa using hx⟩
        · cases hx)
      rfl (fun q x v hx hv => hb.2 q x v hx hv) (hb.one hc.2)
    refine ⟨_, _, rfl, ?_, w2, w3⟩
    simpa [h2] using w1
  case ep b i j cb base off h1 h2 =>
    rw [nth_eq] at hw
    split at hw <;> try (cases hw; done)
    · rename_i k xs hl
      split at hw <;> try (cases hw; done)
      rename_i k' n
      split at hw <;> try (cases hw; done)
      rename_i hkk
      have hkk : k' = k := of_decide_eq_true hkk
      subst hkk
      simp only [Option.some.injEq, Prod.mk.injEq, decide_eq_true_eq] at hw
      obtain ⟨hi, rfl⟩ := hw
      have hoff := h2 _ _ (H.live.2 ⟨_, hl, rfl⟩)
      obtain ⟨c', w1, w2, w3⟩ := write_blk P H hl h1 (b' := .ia k' (xs.set i n)) i 0 [.int k' n] news hb.1.symm (by simp [ABlk.shape]) trivial (by simpa [ABlk.shape] using hi) (by simp [ABlk.shape])
        (fun i' j' x hx => by
          simp only [ABlk.cell] at hx
          split at hx
          · rename_i hj; subst hj; simp [ABlk.shape]
          · cases hx)
        (fun i' j' x hx => by
          simp only [ABlk.cell] at hx ⊢
          split at hx
          · rename_i hj
            subst hj
            rw [List.getElem?_set] at hx
            by_cases hii : i = i'
            · subst hii
              rw [if_pos rfl, if_pos hi] at hx
              exact .inl ⟨rfl, by omega, by simp, by simpa using hx⟩
            · rw [if_neg hii] at hx
              exact .inr ⟨fun h => hii h.1.symm, by simpa using hx⟩
          · cases hx)
        rfl (fun q x v hx hv => closed_nil (by
          match q, hx with
          | 0, hx => simp only [List.getElem?_cons_zero, Option.some.injEq] at hx; subst hx; rfl) (hb.2 q x v hx hv)) (hb.one rfl)
      refine ⟨_, _, rfl, ?_, w2, w3⟩
      rw [hoff]; exact w1
    · rename_i s rows hl
      rw [nth_eq] at hw
      cases hrow : rows[i]? with
      | none => rw [hrow] at hw; cases hw
      | some row =>
        rw [hrow] at hw
        simp only at hw
        split at hw <;> try (cases hw; done)
        rename_i hc
        rw [Bool.and_eq_true] at hc
        have hle := Nat.le_of_ble_eq_true hc.1
        simp only [Option.some.injEq, Prod.mk.injEq, true_and] at hw
        subst hw
        have hfit := (H.blk _ _ hl).1
        have hrl : row.length = s := hfit i row hrow
        have hilt : i < rows.length := (List.getElem?_eq_some_iff.1 hrow).1
        obtain ⟨s1, s2⟩ := splice_get row j new hle
        have hoff := h2 _ _ (H.live.2 ⟨_, hl, rfl⟩)
        obtain ⟨c', w1, w2, w3⟩ := write_blk P H hl h1 (b' := .arr s (lset rows i (splice row j new))) i j new news hb.1.symm (by simp [ABlk.shape, lset_eq])
          (fun i' r hr => by
            rw [lset_eq, List.getElem?_set] at hr
            by_cases hii : i = i'
            · subst hii
              rw [if_pos rfl, if_pos hilt] at hr
              obtain rfl := Option.some.inj hr
              exact s1.trans hrl
            · rw [if_neg hii] at hr; exact hfit i' r hr)
          (by simpa [ABlk.shape] using hilt) (by simp only [ABlk.shape]; omega)
          (fun i' j' x hx => by
            simp only [ABlk.cell, lset_eq, List.getElem?_set] at hx
            by_cases hii : i = i'
            · subst hii
              rw [if_pos rfl, if_pos hilt] at hx
              have := (List.getElem?_eq_some_iff.1 hx).1
              simp only [ABlk.shape]; omega
            · rw [if_neg hii] at hx
              cases hr' : rows[i']? with
              | none => rw [hr'] at hx; cases hx
              | some r' =>
                rw [hr'] at hx
                have h1 := hfit i' r' hr'
                have := (List.getElem?_eq_some_iff.1 hx).1
                simp only [ABlk.shape]; omega)
          (fun i' j' x hx => by
            simp only [ABlk.cell, lset_eq, List.getElem?_set] at hx ⊢
            by_cases hii : i = i'
            · subst hii
              rw [if_pos rfl, if_pos hilt] at hx
              simp only [Option.bind_some] at hx
              rw [s2] at hx
              split at hx
              · rename_i hr; exact .inl ⟨rfl, hr.1, hr.2, hx⟩
              · rename_i hr; exact .inr ⟨fun h => hr h.2, by simpa [hrow] using hx⟩
            · rw [if_neg hii] at hx
              exact .inr ⟨fun h => hii h.1.symm, hx⟩)
          rfl (fun q x v hx hv => closed_nil (List.all_eq_true.1 hc.2 _ (List.mem_of_getElem? hx)) (hb.2 q x v hx hv)) (hb.one (closed_all hc.2))
        refine ⟨_, _, rfl, ?_, w2, w3⟩
        rw [hoff]; exact w1

end Go.AL
