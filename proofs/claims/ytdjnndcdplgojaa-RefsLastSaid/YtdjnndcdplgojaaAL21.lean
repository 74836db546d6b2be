/- A callee's moment: blocks that are handed over. Seat-independent. -/
import Derived.Test.YtdjnndcdplgojaaAL22
namespace Go.AL
variable {P : Program}

theorem mapO_get {f : AV → Option AV} : ∀ {xs ys : List AV}, mapO f xs = some ys → xs.length = ys.length ∧ ∀ (i : Nat) x y, xs[i]? = some x → ys[i]? = some y → f x = some y
  | [], ys, h => by simp [mapO] at h; subst h; simp
  | x :: xs, ys, h => by
    simp only [mapO] at h
    split at h <;> try (cases h; done)
    rename_i y hy
    split at h <;> try (cases h; done)
    rename_i ys' hys
    obtain rfl := Option.some.inj h
    obtain ⟨h1, h2⟩ := mapO_get hys
    refine ⟨by simp [h1], fun i a b ha hb => ?_⟩
    cases i with
    | zero => simp at ha hb; subst ha hb; exact hy
    | succ i => exact h2 i a b (by simpa using ha) (by simpa using hb)

/-- The callee's moment. -/
def Env.sub (E : Env) (own bor : List Nat) : Env :=
  { w := E.w, F := fun b => E.F b ∨ ∃ k base, k ∈ bor ∧ E.S.ρ[k]? = some (b, base), S := ⟨own.map fun k => (E.S.ρ[k]?).getD (0, 0), own.map fun k => (E.S.sh[k]?).getD none⟩ }

section
variable {E : Env} {hp : AHeap} {own bor : List Nat}

theorem sub_get (H : HRel E hp) (hown : ∀ k ∈ own, k < hp.length) {i k : Nat} (hi : own[i]? = some k) : (E.sub own bor).S.ρ[i]? = E.S.ρ[k]? ∧ (E.sub own bor).S.sh[i]? = E.S.sh[k]? := by
  have hk := hown k (List.mem_of_getElem? hi)
  have h1 : k < E.S.ρ.length := by rw [H.len]; exact hk
  have h2 : k < E.S.sh.length := by rw [← H.rlen]; exact h1
  simp only [Env.sub, List.getElem?_map, hi, Option.map_some]
  rw [List.getElem?_eq_getElem h1, List.getElem?_eq_getElem h2]
  exact ⟨rfl, rfl⟩

theorem sub_mono {S : Shp} {x : AV} {v : Value} (h : Rel E.w E.F S x v) : Rel E.w (E.sub own bor).F S x v :=
  Rel.mono (w := E.w) (F := E.F) (w' := E.w) (F' := (E.sub own bor).F) (fun _ h => .inl h) (fun _ _ _ => rfl) h S (fun _ _ h => h) (fun _ _ _ _ h => h) fun _b c e f h => ⟨c, e, f, h, rfl, rfl⟩

theorem closed_any {w : World} {F : Nat → Prop} {S S' : Shp} {x : AV} {v : Value} (hc : closed x = true ∨ x = .undef) (hr : Rel w F S x v) : Rel w F S' x v := by
  rcases hc with hc | rfl
  · exact (closed_nil hc hr).nil_to S'
  · exact .undef ..

theorem view0_rel (H : HRel E hp) (hown : ∀ k ∈ own, k < hp.length) {x y : AV} {v : Value} (hr : E.R x v) (hv : view0 hp own bor x = some y) : (E.sub own bor).R y v := by
  cases x <;> simp only [view0] at hv
  case bp b j =>
    split at hv
    · rename_i b' hb
      obtain rfl := Option.some.inj hv
      obtain ⟨h1, h2⟩ := sub_get (bor := bor) H hown (idx_get hb)
      cases hr with
      | bp _ _ _ cb base off g1 g2 => exact .bp _ _ _ cb base _ (by rw [h1]; exact g1) g2
    · split at hv <;> try (cases hv; done)
      rename_i hbor
      rw [List.any_eq_true] at hbor
      obtain ⟨q, hq, hqb⟩ := hbor
      have hqb := Nat.eq_of_beq_eq_true hqb
      subst hqb
      rw [nth_eq] at hv
      split at hv <;> try (cases hv; done)
      rename_i cs hb
      split at hv <;> try (cases hv; done)
      rename_i hall
      obtain rfl := Option.some.inj hv
      rw [List.all_eq_true] at hall
      cases hr with
      | bp _ _ _ cb base off g1 g2 =>
        obtain ⟨_, cb', base', c', e', b1, b2, b3, b4, b5⟩ := H.cblk _ _ hb
        rw [g1] at b1
        obtain ⟨rfl, rfl⟩ := Prod.mk.inj (Option.some.inj b1)
        have cell : ∀ (j : Nat) x, cs[j]? = some x → ∃ u, c'[base + j]? = some u ∧ Rel E.w E.F E.S x u := fun j x hx => by
          obtain ⟨u, hu, hR⟩ := b5 0 j x (by simp [ABlk.cell, hx])
          exact ⟨u, by simpa using hu, hR⟩
        have hF : (E.sub own bor).F cb := .inr ⟨b, base, hq, g1⟩
        have : Rel E.w (E.sub own bor).F (E.sub own bor).S (.rp cs j) (.pointer (some ⟨cb, off, none⟩)) := by
          refine .rp _ _ _ cb base off (fun j => (c'[base + j]?).getD undef) hF g2 (fun j x hx => ?_) (fun j x hx => ?_)
          · obtain ⟨u, hu, _⟩ := cell j x hx
            simp only [hu, Option.getD_some]
            simp only [World.cell?, b2, Option.isSome_none, Bool.false_eq_true, if_false]
            exact hu
          · obtain ⟨u, hu, hR⟩ := cell j x hx
            simp only [hu, Option.getD_some]
            have hc := hall x (List.mem_of_getElem? hx)
            refine sub_mono (closed_any ?_ hR)
            cases x <;> simp_all [closedU, closed]
        exact this
  case ep b i j =>
    split at hv <;> try (cases hv; done)
    rename_i b' hb
    obtain rfl := Option.some.inj hv
    obtain ⟨h1, h2⟩ := sub_get (bor := bor) H hown (idx_get hb)
    cases hr with
    | ep _ _ _ _ cb base off g1 g2 => exact .ep _ _ _ _ cb base _ (by rw [h1]; exact g1) (by rw [h2]; exact g2)
  case sl b i n =>
    split at hv
    · rename_i b' hb
      obtain rfl := Option.some.inj hv
      obtain ⟨h1, h2⟩ := sub_get (bor := bor) H hown (idx_get hb)
      cases hr with
      | sl _ _ _ _ cb base off cap g1 g2 g3 => exact .sl _ _ _ _ cb base _ _ (by rw [h1]; exact g1) (by rw [h2]; exact g2) g3
    · split at hv <;> try (cases hv; done)
      rename_i hbor
      rw [List.any_eq_true] at hbor
      obtain ⟨q, hq, hqb⟩ := hbor
      have hqb := Nat.eq_of_beq_eq_true hqb
      subst hqb
      obtain ⟨cb, base, off, cap, rfl, h1, h3, h2⟩ := rel_sl hr
      have hF : (E.sub own bor).F cb := .inr ⟨b, base, hq, h1⟩
      rw [nth_eq] at hv
      split at hv <;> try (cases hv; done)
      · rename_i k xs hb
        obtain rfl := Option.some.inj hv
        obtain ⟨g1, g2, g3, c, ee, f, g4, g5⟩ := h3 _ _ (H.live.2 ⟨_, hb, rfl⟩)
        obtain ⟨_, cb', base', c', e', b1, b2, b3, b4, b5⟩ := H.cblk _ _ hb
        rw [h1] at b1
        obtain ⟨rfl, rfl⟩ := Prod.mk.inj (Option.some.inj b1)
        have hlen : ((xs.drop i).take n).length = n := by simp; omega
        have : Rel E.w (E.sub own bor).F (E.sub own bor).S (.ri k ((xs.drop i).take n)) (.slice (some ⟨cb, off, none⟩) n cap) := by
          refine .ri _ _ _ _ _ _ hlen.symm h2 (fun q x hx => ?_) (by simp)
          rw [List.getElem?_take] at hx
          split at hx <;> try (cases hx; done)
          rw [List.getElem?_drop] at hx
          obtain ⟨u, hu1, hu2⟩ := b5 (i + q) 0 (.int k x) (by simp [ABlk.cell, hx])
          cases hu2
          refine ⟨cb, off, rfl, hF, ?_⟩
          simp only [ABlk.shape] at g1 hu1
          rw [g1.resolve_left (by omega)]
          simp only [World.cell?, b2, Option.isSome_none, Bool.false_eq_true, if_false]
          rw [← hu1]; congr 1; omega
        exact this
      · rename_i s rows hb
        obtain rfl := Option.some.inj hv
        obtain ⟨g1, g2, g3, c, ee, f, g4, g5⟩ := h3 _ _ (H.live.2 ⟨_, hb, rfl⟩)
        obtain ⟨b0, cb', base', c', e', b1, b2, b3, b4, b5⟩ := H.cblk _ _ hb
        rw [h1] at b1
        obtain ⟨rfl, rfl⟩ := Prod.mk.inj (Option.some.inj b1)
        simp only [ABlk.shape] at g1 g2 g3 g5 b4 b5
        have hlen : ((rows.drop i).take n).length = n := by simp; omega
        have cell : ∀ q j row x, ((rows.drop i).take n)[q]? = some row → row[j]? = some x → rows[i + q]? = some row ∧ ∃ u, c'[base + (i + q) * s + j]? = some u ∧ Rel E.w E.F .nil x u := by
          intro q j row x hq hx
          rw [List.getElem?_take] at hq
          split at hq <;> try (cases hq; done)
          rw [List.getElem?_drop] at hq
          exact ⟨hq, b5 (i + q) j x (by simp [ABlk.cell, hq, hx])⟩
        have : Rel E.w (E.sub own bor).F (E.sub own bor).S (.ro s ((rows.drop i).take n)) (.slice (some ⟨cb, off, none⟩) n cap) := by
          refine .ro _ _ _ _ _ _ (fun q j => (c'[base + (i + q) * s + j]?).getD undef) hlen.symm h2 (fun q row hq => ?_) (fun q j row x hq hx => ?_) (by simp)
          · have hq0 := hq
            rw [List.getElem?_take] at hq
            split at hq <;> try (cases hq; done)
            rw [List.getElem?_drop] at hq
            refine ⟨b0 _ row hq, cb, off, rfl, hF, fun j x hx => ?_⟩
            obtain ⟨_, u, hu, _⟩ := cell q j row x hq0 hx
            simp only [hu, Option.getD_some]
            rw [g1.resolve_left (by omega)]
            simp only [World.cell?, b2, Option.isSome_none, Bool.false_eq_true, if_false]
            rw [← hu]; congr 1; rw [Nat.add_mul]; omega
          · obtain ⟨_, u, hu, hR⟩ := cell q j row x hq hx
            simp only [hu, Option.getD_some]
            exact sub_mono hR
        exact this
  case agg => cases hv
  case tup => cases hv
  case fn => cases hv
  case gh => cases hv
  case slc => cases hv
  case bt b T n =>
    split at hv <;> try (cases hv; done)
    rename_i b' hb
    obtain rfl := Option.some.inj hv
    obtain ⟨h1, h2⟩ := sub_get (bor := bor) H hown (idx_get hb)
    cases hr with
    | bt _ _ _ _ cb c f g1 g2 g3 => exact .bt _ _ _ _ cb c f (by rw [h1]; exact g1) g2 g3
  case map b =>
    split at hv <;> try (cases hv; done)
    rename_i b' hb
    obtain rfl := Option.some.inj hv
    obtain ⟨h1, h2⟩ := sub_get (bor := bor) H hown (idx_get hb)
    cases hr with
    | map _ _ cb base g1 => exact .map _ _ cb base (by rw [h1]; exact g1)
  all_goals
    obtain rfl := Option.some.inj hv
    refine sub_mono (closed_any ?_ hr)
    first | exact .inl rfl | exact .inr rfl

theorem view1_rel (H : HRel E hp) (hown : ∀ k ∈ own, k < hp.length) {x y : AV} {v : Value} (hr : E.R x v) (hv : view1 hp own bor x = some y) : (E.sub own bor).R y v := by
  have list : ∀ {cs cs' : List AV} {vs : Array Value}, mapO (view0 hp own bor) cs = some cs' → (∀ (i : Nat) c v, cs[i]? = some c → vs[i]? = some v → E.R c v) →
      ∀ (i : Nat) c v, cs'[i]? = some c → vs[i]? = some v → (E.sub own bor).R c v := by
    intro cs cs' vs hm h i c v hc hvv
    obtain ⟨h1, h2⟩ := mapO_get hm
    have hlt : i < cs.length := by rw [h1]; exact (List.getElem?_eq_some_iff.1 hc).1
    exact view0_rel H hown (h i cs[i] v (List.getElem?_eq_getElem hlt) hvv) (h2 i _ c (List.getElem?_eq_getElem hlt) hc)
  cases x with
  | agg cs =>
    simp only [view1] at hv
    split at hv <;> try (cases hv; done)
    rename_i cs' hm
    obtain rfl := Option.some.inj hv
    cases hr with
    | agg _ _ vs h1 h2 => exact .agg _ _ _ (by rw [← (mapO_get hm).1]; exact h1) (list hm h2)
  | fn f cs =>
    simp only [view1] at hv
    split at hv <;> try (cases hv; done)
    rename_i cs' hm
    obtain rfl := Option.some.inj hv
    cases hr with
    | fn _ _ _ vs h1 h2 => exact .fn _ _ _ _ (by rw [← (mapO_get hm).1]; exact h1) (list hm h2)
  | _ => exact view0_rel H hown hr hv
end

def liveAll (hp : AHeap) (l : List Nat) : Bool := l.all fun k => match nth hp k with | some (some _) => true | _ => false
def apartAll (own bor : List Nat) : Bool := bor.all fun k => !own.any (Nat.beq k)

section
variable {E : Env} {hp : AHeap} {own bor : List Nat}

theorem viewH_get : ∀ {ks : List Nat} {h : AHeap}, viewH hp own ks = some h → h.length = ks.length ∧ ∀ (i k : Nat), ks[i]? = some k → ∃ b b', hp[k]? = some (some b) ∧ h[i]? = some (some b') ∧
    ((∃ cs cs', b = .box cs ∧ b' = .box cs' ∧ mapO (view1 hp own []) cs = some cs') ∨ ((∀ cs, b ≠ .box cs) ∧ b' = b))
  | [], h, hv => by simp [viewH] at hv; subst hv; simp
  | k :: ks, h, hv => by
    simp only [viewH, nth_eq] at hv
    split at hv <;> try (cases hv; done)
    · rename_i cs hb
      split at hv <;> try (cases hv; done)
      rename_i cs' hm
      split at hv <;> try (cases hv; done)
      rename_i h' hv'
      obtain rfl := Option.some.inj hv
      obtain ⟨h1, h2⟩ := viewH_get hv'
      refine ⟨by simp [h1], fun i k' hi => ?_⟩
      cases i with
      | zero =>
        simp only [List.getElem?_cons_zero, Option.some.injEq] at hi
        subst hi
        exact ⟨_, _, hb, rfl, .inl ⟨cs, cs', rfl, rfl, hm⟩⟩
      | succ i => exact h2 i k' (by simpa using hi)
    · rename_i b hnb hb
      split at hv <;> try (cases hv; done)
      rename_i h' hv'
      obtain rfl := Option.some.inj hv
      obtain ⟨h1, h2⟩ := viewH_get hv'
      refine ⟨by simp [h1], fun i k' hi => ?_⟩
      cases i with
      | zero =>
        simp only [List.getElem?_cons_zero, Option.some.injEq] at hi
        subst hi
        exact ⟨_, _, hb, rfl, .inr ⟨fun cs hcs => hnb cs hcs, rfl⟩⟩
      | succ i => exact h2 i k' (by simpa using hi)

theorem okKeep_lt (hok : okKeep 0 hp.length own = true) : ∀ k ∈ own, k < hp.length := fun k hk => (okKeep_mem hok k hk).2

theorem HRel.sub (H : HRel E hp) (hok : okKeep 0 hp.length own = true) (hbl : liveAll hp bor = true) (hap : apartAll own bor = true) {h0 : AHeap} (hv : viewH hp own own = some h0) : HRel (E.sub own bor) h0 := by
  have hlt := okKeep_lt hok
  obtain ⟨v1, v2⟩ := viewH_get hv
  have borlive : ∀ k ∈ bor, ∃ b, hp[k]? = some (some b) := by
    intro k hk
    unfold liveAll at hbl
    rw [List.all_eq_true] at hbl
    have := hbl k hk
    rw [nth_eq] at this
    split at this
    · rename_i b hb; exact ⟨b, hb⟩
    · cases this
  have place : ∀ {i : Nat}, i < h0.length → ∃ k, own[i]? = some k ∧ (E.sub own bor).S.ρ[i]? = E.S.ρ[k]? ∧ (E.sub own bor).S.sh[i]? = E.S.sh[k]? := by
    intro i hi
    have hio : i < own.length := by omega
    exact ⟨own[i], List.getElem?_eq_getElem hio, sub_get H hlt (List.getElem?_eq_getElem hio)⟩
  have shape : ∀ {b b' : ABlk}, ((∃ cs cs', b = .box cs ∧ b' = .box cs' ∧ mapO (view1 hp own []) cs = some cs') ∨ ((∀ cs, b ≠ .box cs) ∧ b' = b)) → b'.shape = b.shape := by
    rintro b b' (⟨cs, cs', rfl, rfl, hm⟩ | ⟨_, rfl⟩)
    · simp [ABlk.shape, (mapO_get hm).1]
    · rfl
  refine ⟨?_, by simp [Env.sub, v1], fun i b' hi => ?_, fun i i' b b' cb ba ba' h1 h2 h3 h4 => ?_, fun b hb => ?_⟩
  · apply List.ext_getElem?
    intro i
    by_cases hi : i < h0.length
    · obtain ⟨k, hk, _, e2⟩ := place hi
      obtain ⟨b, b', g1, g2, g3⟩ := v2 i k hk
      rw [e2, H.sh, List.getElem?_map, List.getElem?_map, g1, g2]
      simp [shape g3]
    · rw [List.getElem?_eq_none (by simp [Env.sub]; omega), List.getElem?_eq_none (by simp; omega)]
  · have hlt' : i < h0.length := (List.getElem?_eq_some_iff.1 hi).1
    obtain ⟨k, hk, e1, e2⟩ := place hlt'
    obtain ⟨b, b'', g1, g2, g3⟩ := v2 i k hk
    rw [hi] at g2
    obtain rfl := Option.some.inj (Option.some.inj g2)
    obtain ⟨f0, cb, base, c, e, r1, r2, r3, r4, r5⟩ := H.blk k b g1
    have obj : b'.obj c e = b.obj c e ∧ b'.room base c e = b.room base c e := by
      rcases g3 with ⟨cs, cs', rfl, rfl, hm⟩ | ⟨_, rfl⟩
      · exact ⟨rfl, by simp [ABlk.room, ABlk.shape, (mapO_get hm).1]⟩
      · exact ⟨rfl, rfl⟩
    refine ⟨?_, cb, base, c, e, by rw [e1]; exact r1, by rw [obj.1]; exact r2, ?_, by rw [obj.2]; exact r4, fun p q x hx => ?_⟩
    · rcases g3 with ⟨cs, cs', rfl, rfl, _⟩ | ⟨_, rfl⟩
      · trivial
      · exact f0
    · rintro (hf | ⟨k', base', hk', hr'⟩)
      · exact r3 hf
      · obtain ⟨bb, hbb⟩ := borlive k' hk'
        have := H.inj k k' b bb cb base base' g1 hbb r1 hr'
        subst this
        unfold apartAll at hap
        rw [List.all_eq_true] at hap
        have := hap k hk'
        simp only [Bool.not_eq_true', List.any_eq_false] at this
        exact this k (List.mem_of_getElem? hk) (by simp)
    · rw [shape g3]
      rcases g3 with ⟨cs, cs', rfl, rfl, hm⟩ | ⟨hnb, rfl⟩
      · simp only [ABlk.cell] at hx
        split at hx <;> try (cases hx; done)
        rename_i hp0
        subst hp0
        obtain ⟨m1, m2⟩ := mapO_get hm
        have hq : q < cs.length := by rw [m1]; exact (List.getElem?_eq_some_iff.1 hx).1
        obtain ⟨v, hv1, hv2⟩ := r5 0 q cs[q] (by simp [ABlk.cell, hq])
        refine ⟨v, hv1, ?_⟩
        have h1 := view1_rel (bor := []) H hlt hv2 (m2 q _ x (List.getElem?_eq_getElem hq) hx)
        refine Rel.mono (F := (E.sub own []).F) (F' := (E.sub own bor).F) ?_ (fun _ _ _ => rfl) h1 _ (fun _ _ h => h) (fun _ _ _ _ h => h) fun b c e f h => ⟨c, e, f, h, rfl, rfl⟩
        rintro b (h | ⟨k', _, hk', _⟩)
        · exact .inl h
        · simp at hk'
      · obtain ⟨v, hv1, hv2⟩ := r5 p q x hx
        refine ⟨v, hv1, ?_⟩
        cases b' with
        | box cs => exact absurd rfl (hnb cs)
        | ia => exact sub_mono hv2
        | arr => exact sub_mono hv2
        | mp => exact sub_mono hv2
  · have l1 : i < h0.length := (List.getElem?_eq_some_iff.1 h1).1
    have l2 : i' < h0.length := (List.getElem?_eq_some_iff.1 h2).1
    obtain ⟨k, hk, e1, _⟩ := place l1
    obtain ⟨k', hk', e1', _⟩ := place l2
    obtain ⟨b0, _, g1, _⟩ := v2 i k hk
    obtain ⟨b0', _, g1', _⟩ := v2 i' k' hk'
    rw [e1] at h3
    rw [e1'] at h4
    have := H.inj k k' b0 b0' cb ba ba' g1 g1' h3 h4
    subst this
    exact okKeep_inj hok i i' k hk hk'
  · rcases hb with hb | ⟨k, base, hk, hr⟩
    · exact H.frz b hb
    · obtain ⟨bb, hbb⟩ := borlive k hk
      exact H.own_lt (H.own_of hbb hr)

end

theorem setAll_get : ∀ (own : List Nat) (hp bs : AHeap), (∀ k ∈ own, k < hp.length) → (∀ (i j : Nat) k, own[i]? = some k → own[j]? = some k → i = j) → own.length ≤ bs.length →
    (setAll hp own bs).length = hp.length ∧ (∀ (i k : Nat), own[i]? = some k → (setAll hp own bs)[k]? = bs[i]?) ∧ (∀ k, k ∉ own → (setAll hp own bs)[k]? = hp[k]?)
  | [], hp, bs, _, _, _ => by cases bs <;> simp [setAll]
  | k :: ks, hp, [], _, _, hl => by simp at hl
  | k :: ks, hp, b :: bs, hlt, hinj, hl => by
    obtain ⟨h1, h2, h3⟩ := setAll_get ks (lset hp k b) bs (fun q hq => by rw [lset_eq, List.length_set]; exact hlt q (by simp [hq]))
      (fun i j q hi hj => by have := hinj (i + 1) (j + 1) q (by simpa using hi) (by simpa using hj); omega) (by simpa using hl)
    have hnk : k ∉ ks := by
      intro hk
      obtain ⟨q, hq, he⟩ := List.getElem_of_mem hk
      have := hinj 0 (q + 1) k rfl (by simp [← he])
      omega
    simp only [setAll]
    refine ⟨by rw [h1, lset_eq, List.length_set], fun i q hi => ?_, fun q hq => ?_⟩
    · cases i with
      | zero =>
        simp only [List.getElem?_cons_zero, Option.some.injEq] at hi
        subst hi
        rw [h3 k hnk, lset_eq, List.getElem?_set, if_pos rfl, if_pos (hlt k (by simp))]
        rfl
      | succ i => rw [h2 i q (by simpa using hi)]; simp
    · simp only [List.mem_cons, not_or] at hq
      rw [h3 q hq.2, lset_eq, List.getElem?_set, if_neg (fun h => hq.1 h.symm)]

theorem idx_of : ∀ {keep : List Nat} {i k : Nat}, (∀ (i j : Nat) k, keep[i]? = some k → keep[j]? = some k → i = j) → keep[i]? = some k → idx keep k = some i
  | [], _, _, _, h => by simp at h
  | x :: xs, i, k, hinj, h => by
    simp only [idx]
    cases hb : Nat.beq x k with
    | true =>
      have := Nat.eq_of_beq_eq_true hb
      subst this
      rw [hinj 0 i x rfl h]
    | false =>
      simp only
      cases i with
      | zero => simp only [List.getElem?_cons_zero, Option.some.injEq] at h; subst h; simp at hb
      | succ i => rw [idx_of (fun a b q ha hb' => by have := hinj (a + 1) (b + 1) q (by simpa using ha) (by simpa using hb'); omega) (by simpa using h)]; rfl

theorem idx_none {keep : List Nat} {k : Nat} (h : idx keep k = none) : k ∉ keep := by
  induction keep with
  | nil => simp
  | cons x xs ih =>
    simp only [idx] at h
    split at h
    · cases h
    · rename_i hb
      rw [Option.map_eq_none_iff] at h
      simp only [List.mem_cons, not_or]
      exact ⟨fun he => by subst he; simp at hb, ih h⟩

end Go.AL
