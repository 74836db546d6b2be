/- Calls by their contracts: what a caller hands over, lends, and gets back. Seat-independent. -/
import Derived.Test.YtdcpobifckmoaaaAL15
namespace Go.AL
variable {P : Program}

/-- A cell's value as the callee sees it. -/
def view0 (hp : AHeap) (own bor : List Nat) (x : AV) : Option AV :=
  match x with
  | .bp b j => match idx own b with
    | some b' => some (.bp b' j)
    | none => match bor.any (Nat.beq b) with
      | true => match nth hp b with
        | some (some (.box cs)) => match cs.all closedU with
          | true => some (.rp cs j)
          | false => none
        | _ => none
      | false => none
  | .ep b i j => match idx own b with | some b' => some (.ep b' i j) | none => none
  | .sl b i n => match idx own b with
    | some b' => some (.sl b' i n)
    | none => match bor.any (Nat.beq b) with
      | true => match nth hp b with
        | some (some (.ia k xs)) => some (.ri k ((xs.drop i).take n))
        | some (some (.arr s rows)) => some (.ro s ((rows.drop i).take n))
        | _ => none
      | false => none
  | .agg _ | .tup _ | .fn _ _ | .gh .. | .slc .. => none
  | x => some x

def mapO (f : AV → Option AV) : List AV → Option (List AV)
  | [] => some []
  | x :: xs => match f x with
    | some y => match mapO f xs with
      | some ys => some (y :: ys)
      | none => none
    | none => none

def view1 (hp : AHeap) (own bor : List Nat) (x : AV) : Option AV :=
  match x with
  | .agg cs => match mapO (view0 hp own bor) cs with | some cs => some (.agg cs) | none => none
  | .fn f cs => match mapO (view0 hp own bor) cs with | some cs => some (.fn f cs) | none => none
  | x => view0 hp own bor x

def viewH (hp : AHeap) (own : List Nat) : List Nat → Option AHeap
  | [] => some []
  | k :: ks => match nth hp k with
    | some (some (.box cs)) => match mapO (view1 hp own []) cs with
      | some cs => match viewH hp own ks with
        | some h => some (some (.box cs) :: h)
        | none => none
      | none => none
    | some (some b) => match viewH hp own ks with
      | some h => some (some b :: h)
      | none => none
    | _ => none

/-- The number at the caller's. -/
def back (own : List Nat) (n : Nat) (i : Nat) : Option Nat :=
  match nth own i with
  | some k => some k
  | none => some (n + (i - own.length))

def setAll : AHeap → List Nat → AHeap → AHeap
  | hp, k :: ks, b :: bs => setAll (lset hp k b) ks bs
  | hp, _, _ => hp

def backH (own : List Nat) (hp h' : AHeap) : AHeap :=
  setAll hp own (h'.map (·.map (renB (back own hp.length) (fun _ => none)))) ++ (h'.drop own.length).map (·.map (renB (back own hp.length) (fun _ => none)))

/-- Nothing frozen within. -/
def noF0 : AV → Bool
  | .rp .. | .ri .. | .ro .. | .agg _ | .tup _ | .fn _ _ => false
  | _ => true
def noF1 : AV → Bool
  | .agg cs => cs.all noF0
  | .fn _ cs => cs.all noF0
  | x => noF0 x
def noF2 : AV → Bool
  | .tup vs => vs.all noF1
  | x => noF1 x
def noFB : ABlk → Bool
  | .box cs => cs.all noF1
  | .ia _ _ => true
  | .arr _ rows => rows.all fun r => r.all noF0
def noFH (h : AHeap) : Bool := h.all fun b => match b with | some b => noFB b | none => true

theorem mapO_get {f : AV → Option AV} : ∀ {xs ys : List AV}, mapO f xs = some ys → xs.length = ys.length ∧ ∀ (i : Nat) x y, xs[i]? = some x → ys[i]? = some y → f x = some y
  | [], ys, h => by simp [mapO] at h; subst h; simp
  | x :: xs, ys, h => by
    simp only [mapO] at h
    split at h <;> try (cases h; done)
    rename_i y hy
    split at h <;> try (cases h; done)
    rename_i ys' hys
    obtain rfl := Option.some.inj h
    obtain ⟨h1, h2⟩ := mapO_get hys
    refine ⟨by simp [h1], fun i a b ha hb => ?_⟩
    cases i with
    | zero => simp at ha hb; subst ha hb; exact hy
    | succ i => exact h2 i a b (by simpa using ha) (by simpa using hb)

/-- The callee's moment. -/
def Env.sub (E : Env) (own bor : List Nat) : Env :=
  { w := E.w, F := fun b => E.F b ∨ ∃ k base, k ∈ bor ∧ E.S.ρ[k]? = some (b, base), S := ⟨own.map fun k => (E.S.ρ[k]?).getD (0, 0), own.map fun k => (E.S.sh[k]?).getD none⟩ }

section
variable {E : Env} {hp : AHeap} {own bor : List Nat}

theorem sub_get (H : HRel E hp) (hown : ∀ k ∈ own, k < hp.length) {i k : Nat} (hi : own[i]? = some k) : (E.sub own bor).S.ρ[i]? = E.S.ρ[k]? ∧ (E.sub own bor).S.sh[i]? = E.S.sh[k]? := by
  have hk := hown k (List.mem_of_getElem? hi)
  have h1 : k < E.S.ρ.length := by rw [H.len]; exact hk
  have h2 : k < E.S.sh.length := by rw [← H.rlen]; exact h1
  simp only [Env.sub, List.getElem?_map, hi, Option.map_some]
  rw [List.getElem?_eq_getElem h1, List.getElem?_eq_getElem h2]
  exact ⟨rfl, rfl⟩

theorem sub_mono {S : Shp} {x : AV} {v : Value} (h : Rel E.w E.F S x v) : Rel E.w (E.sub own bor).F S x v :=
  Rel.mono (w := E.w) (F := E.F) (w' := E.w) (F' := (E.sub own bor).F) (fun _ h => .inl h) (fun _ _ _ => rfl) h S (fun _ _ h => h) (fun _ _ _ _ h => h) fun _b c e f h => ⟨c, e, f, h, rfl⟩

theorem closed_any {w : World} {F : Nat → Prop} {S S' : Shp} {x : AV} {v : Value} (hc : closed x = true ∨ x = .undef) (hr : Rel w F S x v) : Rel w F S' x v := by
  rcases hc with hc | rfl
  · exact (closed_nil hc hr).nil_to S'
  · exact .undef ..

theorem view0_rel (H : HRel E hp) (hown : ∀ k ∈ own, k < hp.length) {x y : AV} {v : Value} (hr : E.R x v) (hv : view0 hp own bor x = some y) : (E.sub own bor).R y v := by
  cases x <;> simp only [view0] at hv
  case bp b j =>
    split at hv
    · rename_i b' hb
      obtain rfl := Option.some.inj hv
      obtain ⟨h1, h2⟩ := sub_get (bor := bor) H hown (idx_get hb)
      cases hr with
      | bp _ _ _ cb base off g1 g2 => exact .bp _ _ _ cb base _ (by rw [h1]; exact g1) g2
    · split at hv <;> try (cases hv; done)
      rename_i hbor
      rw [List.any_eq_true] at hbor
      obtain ⟨q, hq, hqb⟩ := hbor
      have hqb := Nat.eq_of_beq_eq_true hqb
      subst hqb
      rw [nth_eq] at hv
      split at hv <;> try (cases hv; done)
      rename_i cs hb
      split at hv <;> try (cases hv; done)
      rename_i hall
      obtain rfl := Option.some.inj hv
      rw [List.all_eq_true] at hall
      cases hr with
      | bp _ _ _ cb base off g1 g2 =>
        obtain ⟨_, cb', base', c', e', b1, b2, b3, b4, b5⟩ := H.blk _ _ hb
        rw [g1] at b1
        obtain ⟨rfl, rfl⟩ := Prod.mk.inj (Option.some.inj b1)
        have cell : ∀ (j : Nat) x, cs[j]? = some x → ∃ u, c'[base + j]? = some u ∧ Rel E.w E.F E.S x u := fun j x hx => by
          obtain ⟨u, hu, hR⟩ := b5 0 j x (by simp [ABlk.cell, hx])
          exact ⟨u, by simpa using hu, hR⟩
        have hF : (E.sub own bor).F cb := .inr ⟨b, base, hq, g1⟩
        have : Rel E.w (E.sub own bor).F (E.sub own bor).S (.rp cs j) (.pointer (some ⟨cb, off, none⟩)) := by
          refine .rp _ _ _ cb base off (fun j => (c'[base + j]?).getD undef) hF g2 (fun j x hx => ?_) (fun j x hx => ?_)
          · obtain ⟨u, hu, _⟩ := cell j x hx
            simp only [hu, Option.getD_some]
            simp only [World.cell?, b2, Option.isSome_none, Bool.false_eq_true, if_false]
            exact hu
          · obtain ⟨u, hu, hR⟩ := cell j x hx
            simp only [hu, Option.getD_some]
            have hc := hall x (List.mem_of_getElem? hx)
            refine sub_mono (closed_any ?_ hR)
            cases x <;> simp_all [closedU, closed]
        exact this
  case ep b i j =>
    split at hv <;> try (cases hv; done)
    rename_i b' hb
    obtain rfl := Option.some.inj hv
    obtain ⟨h1, h2⟩ := sub_get (bor := bor) H hown (idx_get hb)
    cases hr with
    | ep _ _ _ _ cb base off g1 g2 => exact .ep _ _ _ _ cb base _ (by rw [h1]; exact g1) (by rw [h2]; exact g2)
  case sl b i n =>
    split at hv
    · rename_i b' hb
      obtain rfl := Option.some.inj hv
      obtain ⟨h1, h2⟩ := sub_get (bor := bor) H hown (idx_get hb)
      cases hr with
      | sl _ _ _ _ cb base off cap g1 g2 g3 => exact .sl _ _ _ _ cb base _ _ (by rw [h1]; exact g1) (by rw [h2]; exact g2) g3
    · split at hv <;> try (cases hv; done)
      rename_i hbor
      rw [List.any_eq_true] at hbor
      obtain ⟨q, hq, hqb⟩ := hbor
      have hqb := Nat.eq_of_beq_eq_true hqb
      subst hqb
      obtain ⟨cb, base, off, cap, rfl, h1, h3, h2⟩ := rel_sl hr
      have hF : (E.sub own bor).F cb := .inr ⟨b, base, hq, h1⟩
      rw [nth_eq] at hv
      split at hv <;> try (cases hv; done)
      · rename_i k xs hb
        obtain rfl := Option.some.inj hv
        obtain ⟨g1, g2, g3, c, ee, f, g4, g5⟩ := h3 _ _ (H.live.2 ⟨_, hb, rfl⟩)
        obtain ⟨_, cb', base', c', e', b1, b2, b3, b4, b5⟩ := H.blk _ _ hb
        rw [h1] at b1
        obtain ⟨rfl, rfl⟩ := Prod.mk.inj (Option.some.inj b1)
        have hlen : ((xs.drop i).take n).length = n := by simp; omega
        have : Rel E.w (E.sub own bor).F (E.sub own bor).S (.ri k ((xs.drop i).take n)) (.slice (some ⟨cb, off, none⟩) n cap) := by
          refine .ri _ _ _ _ _ _ hlen.symm h2 (fun q x hx => ?_) (by simp)
          rw [List.getElem?_take] at hx
          split at hx <;> try (cases hx; done)
          rw [List.getElem?_drop] at hx
          obtain ⟨u, hu1, hu2⟩ := b5 (i + q) 0 (.int k x) (by simp [ABlk.cell, hx])
          cases hu2
          refine ⟨cb, off, rfl, hF, ?_⟩
          simp only [ABlk.shape] at g1 hu1
          rw [g1.resolve_left (by omega)]
          simp only [World.cell?, b2, Option.isSome_none, Bool.false_eq_true, if_false]
          rw [← hu1]; congr 1; omega
        exact this
      · rename_i s rows hb
        obtain rfl := Option.some.inj hv
        obtain ⟨g1, g2, g3, c, ee, f, g4, g5⟩ := h3 _ _ (H.live.2 ⟨_, hb, rfl⟩)
        obtain ⟨b0, cb', base', c', e', b1, b2, b3, b4, b5⟩ := H.blk _ _ hb
        rw [h1] at b1
        obtain ⟨rfl, rfl⟩ := Prod.mk.inj (Option.some.inj b1)
        simp only [ABlk.shape] at g1 g2 g3 g5 b4 b5
        have hlen : ((rows.drop i).take n).length = n := by simp; omega
        have cell : ∀ q j row x, ((rows.drop i).take n)[q]? = some row → row[j]? = some x → rows[i + q]? = some row ∧ ∃ u, c'[base + (i + q) * s + j]? = some u ∧ Rel E.w E.F .nil x u := by
          intro q j row x hq hx
          rw [List.getElem?_take] at hq
          split at hq <;> try (cases hq; done)
          rw [List.getElem?_drop] at hq
          exact ⟨hq, b5 (i + q) j x (by simp [ABlk.cell, hq, hx])⟩
        have : Rel E.w (E.sub own bor).F (E.sub own bor).S (.ro s ((rows.drop i).take n)) (.slice (some ⟨cb, off, none⟩) n cap) := by
          refine .ro _ _ _ _ _ _ (fun q j => (c'[base + (i + q) * s + j]?).getD undef) hlen.symm h2 (fun q row hq => ?_) (fun q j row x hq hx => ?_) (by simp)
          · have hq0 := hq
            rw [List.getElem?_take] at hq
            split at hq <;> try (cases hq; done)
            rw [List.getElem?_drop] at hq
            refine ⟨b0 _ row hq, cb, off, rfl, hF, fun j x hx => ?_⟩
            obtain ⟨_, u, hu, _⟩ := cell q j row x hq0 hx
            simp only [hu, Option.getD_some]
            rw [g1.resolve_left (by omega)]
            simp only [World.cell?, b2, Option.isSome_none, Bool.false_eq_true, if_false]
            rw [← hu]; congr 1; rw [Nat.add_mul]; omega
          · obtain ⟨_, u, hu, hR⟩ := cell q j row x hq hx
            simp only [hu, Option.getD_some]
            exact sub_mono hR
        exact this
  case agg => cases hv
  case tup => cases hv
  case fn => cases hv
  case gh => cases hv
  case slc => cases hv
  all_goals
    obtain rfl := Option.some.inj hv
    refine sub_mono (closed_any ?_ hr)
    first | exact .inl rfl | exact .inr rfl

theorem view1_rel (H : HRel E hp) (hown : ∀ k ∈ own, k < hp.length) {x y : AV} {v : Value} (hr : E.R x v) (hv : view1 hp own bor x = some y) : (E.sub own bor).R y v := by
  have list : ∀ {cs cs' : List AV} {vs : Array Value}, mapO (view0 hp own bor) cs = some cs' → (∀ (i : Nat) c v, cs[i]? = some c → vs[i]? = some v → E.R c v) →
      ∀ (i : Nat) c v, cs'[i]? = some c → vs[i]? = some v → (E.sub own bor).R c v := by
    intro cs cs' vs hm h i c v hc hvv
    obtain ⟨h1, h2⟩ := mapO_get hm
    have hlt : i < cs.length := by rw [h1]; exact (List.getElem?_eq_some_iff.1 hc).1
    exact view0_rel H hown (h i cs[i] v (List.getElem?_eq_getElem hlt) hvv) (h2 i _ c (List.getElem?_eq_getElem hlt) hc)
  cases x with
  | agg cs =>
    simp only [view1] at hv
    split at hv <;> try (cases hv; done)
    rename_i cs' hm
    obtain rfl := Option.some.inj hv
    cases hr with
    | agg _ _ vs h1 h2 => exact .agg _ _ _ (by rw [← (mapO_get hm).1]; exact h1) (list hm h2)
  | fn f cs =>
    simp only [view1] at hv
    split at hv <;> try (cases hv; done)
    rename_i cs' hm
    obtain rfl := Option.some.inj hv
    cases hr with
    | fn _ _ _ vs h1 h2 => exact .fn _ _ _ _ (by rw [← (mapO_get hm).1]; exact h1) (list hm h2)
  | _ => exact view0_rel H hown hr hv
end

def liveAll (hp : AHeap) (l : List Nat) : Bool := l.all fun k => match nth hp k with | some (some _) => true | _ => false
def apartAll (own bor : List Nat) : Bool := bor.all fun k => !own.any (Nat.beq k)

section
variable {E : Env} {hp : AHeap} {own bor : List Nat}

theorem viewH_get : ∀ {ks : List Nat} {h : AHeap}, viewH hp own ks = some h → h.length = ks.length ∧ ∀ (i k : Nat), ks[i]? = some k → ∃ b b', hp[k]? = some (some b) ∧ h[i]? = some (some b') ∧
    ((∃ cs cs', b = .box cs ∧ b' = .box cs' ∧ mapO (view1 hp own []) cs = some cs') ∨ ((∀ cs, b ≠ .box cs) ∧ b' = b))
  | [], h, hv => by simp [viewH] at hv; subst hv; simp
  | k :: ks, h, hv => by
    simp only [viewH, nth_eq] at hv
    split at hv <;> try (cases hv; done)
    · rename_i cs hb
      split at hv <;> try (cases hv; done)
      rename_i cs' hm
      split at hv <;> try (cases hv; done)
      rename_i h' hv'
      obtain rfl := Option.some.inj hv
      obtain ⟨h1, h2⟩ := viewH_get hv'
      refine ⟨by simp [h1], fun i k' hi => ?_⟩
      cases i with
      | zero =>
        simp only [List.getElem?_cons_zero, Option.some.injEq] at hi
        subst hi
        exact ⟨_, _, hb, rfl, .inl ⟨cs, cs', rfl, rfl, hm⟩⟩
      | succ i => exact h2 i k' (by simpa using hi)
    · rename_i b hnb hb
      split at hv <;> try (cases hv; done)
      rename_i h' hv'
      obtain rfl := Option.some.inj hv
      obtain ⟨h1, h2⟩ := viewH_get hv'
      refine ⟨by simp [h1], fun i k' hi => ?_⟩
      cases i with
      | zero =>
        simp only [List.getElem?_cons_zero, Option.some.injEq] at hi
        subst hi
        exact ⟨_, _, hb, rfl, .inr ⟨fun cs hcs => hnb cs hcs, rfl⟩⟩
      | succ i => exact h2 i k' (by simpa using hi)

theorem okKeep_lt (hok : okKeep 0 hp.length own = true) : ∀ k ∈ own, k < hp.length := fun k hk => (okKeep_mem hok k hk).2

theorem HRel.sub (H : HRel E hp) (hok : okKeep 0 hp.length own = true) (hbl : liveAll hp bor = true) (hap : apartAll own bor = true) {h0 : AHeap} (hv : viewH hp own own = some h0) : HRel (E.sub own bor) h0 := by
  have hlt := okKeep_lt hok
  obtain ⟨v1, v2⟩ := viewH_get hv
  have borlive : ∀ k ∈ bor, ∃ b, hp[k]? = some (some b) := by
    intro k hk
    unfold liveAll at hbl
    rw [List.all_eq_true] at hbl
    have := hbl k hk
    rw [nth_eq] at this
    split at this
    · rename_i b hb; exact ⟨b, hb⟩
    · cases this
  have place : ∀ {i : Nat}, i < h0.length → ∃ k, own[i]? = some k ∧ (E.sub own bor).S.ρ[i]? = E.S.ρ[k]? ∧ (E.sub own bor).S.sh[i]? = E.S.sh[k]? := by
    intro i hi
    have hio : i < own.length := by omega
    exact ⟨own[i], List.getElem?_eq_getElem hio, sub_get H hlt (List.getElem?_eq_getElem hio)⟩
  have shape : ∀ {b b' : ABlk}, ((∃ cs cs', b = .box cs ∧ b' = .box cs' ∧ mapO (view1 hp own []) cs = some cs') ∨ ((∀ cs, b ≠ .box cs) ∧ b' = b)) → b'.shape = b.shape := by
    rintro b b' (⟨cs, cs', rfl, rfl, hm⟩ | ⟨_, rfl⟩)
    · simp [ABlk.shape, (mapO_get hm).1]
    · rfl
  refine ⟨?_, by simp [Env.sub, v1], fun i b' hi => ?_, fun i i' b b' cb ba ba' h1 h2 h3 h4 => ?_, fun b hb => ?_⟩
  · apply List.ext_getElem?
    intro i
    by_cases hi : i < h0.length
    · obtain ⟨k, hk, _, e2⟩ := place hi
      obtain ⟨b, b', g1, g2, g3⟩ := v2 i k hk
      rw [e2, H.sh, List.getElem?_map, List.getElem?_map, g1, g2]
      simp [shape g3]
    · rw [List.getElem?_eq_none (by simp [Env.sub]; omega), List.getElem?_eq_none (by simp; omega)]
  · have hlt' : i < h0.length := (List.getElem?_eq_some_iff.1 hi).1
    obtain ⟨k, hk, e1, e2⟩ := place hlt'
    obtain ⟨b, b'', g1, g2, g3⟩ := v2 i k hk
    rw [hi] at g2
    obtain rfl := Option.some.inj (Option.some.inj g2)
    obtain ⟨f0, cb, base, c, e, r1, r2, r3, r4, r5⟩ := H.blk k b g1
    refine ⟨?_, cb, base, c, e, by rw [e1]; exact r1, r2, ?_, by rw [shape g3]; exact r4, fun p q x hx => ?_⟩
    · rcases g3 with ⟨cs, cs', rfl, rfl, _⟩ | ⟨_, rfl⟩
      · trivial
      · exact f0
    · rintro (hf | ⟨k', base', hk', hr'⟩)
      · exact r3 hf
      · obtain ⟨bb, hbb⟩ := borlive k' hk'
        have := H.inj k k' b bb cb base base' g1 hbb r1 hr'
        subst this
        unfold apartAll at hap
        rw [List.all_eq_true] at hap
        have := hap k hk'
        simp only [Bool.not_eq_true', List.any_eq_false] at this
        exact this k (List.mem_of_getElem? hk) (by simp)
    · rw [shape g3]
      rcases g3 with ⟨cs, cs', rfl, rfl, hm⟩ | ⟨hnb, rfl⟩
      · simp only [ABlk.cell] at hx
        split at hx <;> try (cases hx; done)
        rename_i hp0
        subst hp0
        obtain ⟨m1, m2⟩ := mapO_get hm
        have hq : q < cs.length := by rw [m1]; exact (List.getElem?_eq_some_iff.1 hx).1
        obtain ⟨v, hv1, hv2⟩ := r5 0 q cs[q] (by simp [ABlk.cell, hq])
        refine ⟨v, hv1, ?_⟩
        have h1 := view1_rel (bor := []) H hlt hv2 (m2 q _ x (List.getElem?_eq_getElem hq) hx)
        refine Rel.mono (F := (E.sub own []).F) (F' := (E.sub own bor).F) ?_ (fun _ _ _ => rfl) h1 _ (fun _ _ h => h) (fun _ _ _ _ h => h) fun b c e f h => ⟨c, e, f, h, rfl⟩
        rintro b (h | ⟨k', _, hk', _⟩)
        · exact .inl h
        · simp at hk'
      · obtain ⟨v, hv1, hv2⟩ := r5 p q x hx
        refine ⟨v, hv1, ?_⟩
        cases b' with
        | box cs => exact absurd rfl (hnb cs)
        | ia => exact sub_mono hv2
        | arr => exact sub_mono hv2
  · have l1 : i < h0.length := (List.getElem?_eq_some_iff.1 h1).1
    have l2 : i' < h0.length := (List.getElem?_eq_some_iff.1 h2).1
    obtain ⟨k, hk, e1, _⟩ := place l1
    obtain ⟨k', hk', e1', _⟩ := place l2
    obtain ⟨b0, _, g1, _⟩ := v2 i k hk
    obtain ⟨b0', _, g1', _⟩ := v2 i' k' hk'
    rw [e1] at h3
    rw [e1'] at h4
    have := H.inj k k' b0 b0' cb ba ba' g1 g1' h3 h4
    subst this
    exact okKeep_inj hok i i' k hk hk'
  · rcases hb with hb | ⟨k, base, hk, hr⟩
    · exact H.frz b hb
    · obtain ⟨bb, hbb⟩ := borlive k hk
      exact H.own_lt (H.own_of hbb hr)

/-! ### Back at the caller -/

theorem setAll_get : ∀ (own : List Nat) (hp bs : AHeap), (∀ k ∈ own, k < hp.length) → (∀ (i j : Nat) k, own[i]? = some k → own[j]? = some k → i = j) → own.length ≤ bs.length →
    (setAll hp own bs).length = hp.length ∧ (∀ (i k : Nat), own[i]? = some k → (setAll hp own bs)[k]? = bs[i]?) ∧ (∀ k, k ∉ own → (setAll hp own bs)[k]? = hp[k]?)
  | [], hp, bs, _, _, _ => by cases bs <;> simp [setAll]
  | k :: ks, hp, [], _, _, hl => by simp at hl
  | k :: ks, hp, b :: bs, hlt, hinj, hl => by
    obtain ⟨h1, h2, h3⟩ := setAll_get ks (lset hp k b) bs (fun q hq => by rw [lset_eq, List.length_set]; exact hlt q (by simp [hq]))
      (fun i j q hi hj => by have := hinj (i + 1) (j + 1) q (by simpa using hi) (by simpa using hj); omega) (by simpa using hl)
    have hnk : k ∉ ks := by
      intro hk
      obtain ⟨q, hq, he⟩ := List.getElem_of_mem hk
      have := hinj 0 (q + 1) k rfl (by simp [← he])
      omega
    simp only [setAll]
    refine ⟨by rw [h1, lset_eq, List.length_set], fun i q hi => ?_, fun q hq => ?_⟩
    · cases i with
      | zero =>
        simp only [List.getElem?_cons_zero, Option.some.injEq] at hi
        subst hi
        rw [h3 k hnk, lset_eq, List.getElem?_set, if_pos rfl, if_pos (hlt k (by simp))]
        rfl
      | succ i => rw [h2 i q (by simpa using hi)]; simp
    · simp only [List.mem_cons, not_or] at hq
      rw [h3 q hq.2, lset_eq, List.getElem?_set, if_neg (fun h => hq.1 h.symm)]

/-- The caller's moment behind the call. -/
def Env.backE (E E' : Env) (own bor : List Nat) (hn : Nat) : Env :=
  { w := E'.w,
    F := fun b => E'.F b ∧ ¬ ∃ k base, k ∈ bor ∧ E.S.ρ[k]? = some (b, base),
    S := ⟨E.S.ρ ++ E'.S.ρ.drop own.length,
      (List.range hn).map (fun k => match idx own k with | some i => (E'.S.sh[i]?).getD none | none => (E.S.sh[k]?).getD none) ++ E'.S.sh.drop own.length⟩ }

theorem idx_of : ∀ {keep : List Nat} {i k : Nat}, (∀ (i j : Nat) k, keep[i]? = some k → keep[j]? = some k → i = j) → keep[i]? = some k → idx keep k = some i
  | [], _, _, _, h => by simp at h
  | x :: xs, i, k, hinj, h => by
    simp only [idx]
    cases hb : Nat.beq x k with
    | true =>
      have := Nat.eq_of_beq_eq_true hb
      subst this
      rw [hinj 0 i x rfl h]
    | false =>
      simp only
      cases i with
      | zero => simp only [List.getElem?_cons_zero, Option.some.injEq] at h; subst h; simp at hb
      | succ i => rw [idx_of (fun a b q ha hb' => by have := hinj (a + 1) (b + 1) q (by simpa using ha) (by simpa using hb'); omega) (by simpa using h)]; rfl

theorem idx_none {keep : List Nat} {k : Nat} (h : idx keep k = none) : k ∉ keep := by
  induction keep with
  | nil => simp
  | cons x xs ih =>
    simp only [idx] at h
    split at h
    · cases h
    · rename_i hb
      rw [Option.map_eq_none_iff] at h
      simp only [List.mem_cons, not_or]
      exact ⟨fun he => by subst he; simp at hb, ih h⟩

theorem noF0_any {w : World} {F F' : Nat → Prop} {S : Shp} {x : AV} {v : Value} (hx : noF0 x = true) (hr : Rel w F S x v) : Rel w F' S x v := by
  cases hr <;> simp [noF0] at hx
  case int => exact .int ..
  case bool => exact .bool ..
  case str => exact .str ..
  case pnil => exact .pnil ..
  case snil => exact .snil ..
  case semp => exact .semp ..
  case emp => exact .emp ..
  case fnil => exact .fnil ..
  case inil => exact .inil ..
  case undef => exact .undef ..
  case bp h1 h2 => exact .bp _ _ _ _ _ _ ‹_› ‹_›
  case ep h1 h2 => exact .ep _ _ _ _ _ _ _ ‹_› ‹_›
  case sl h1 h2 h3 => exact .sl _ _ _ _ _ _ _ _ ‹_› ‹_› ‹_›
  case yld => exact .yld ..
  case gh => exact .gh ..
  case len h1 h2 => exact .len _ _ _ _ h1 h2
  case slc => exact .slc _ _ _ _ _ _ _ _ ‹_› ‹_› ‹_›

theorem noF_list {w : World} {F F' : Nat → Prop} {S : Shp} {f : AV → Bool} (hf : ∀ x v, f x = true → Rel w F S x v → Rel w F' S x v) {cs : List AV} (hc : cs.all f = true) {vs : Array Value}
    (h : ∀ (i : Nat) c v, cs[i]? = some c → vs[i]? = some v → Rel w F S c v) : ∀ (i : Nat) c v, cs[i]? = some c → vs[i]? = some v → Rel w F' S c v :=
  fun i c v h1 h2 => hf c v (List.all_eq_true.1 hc c (List.mem_of_getElem? h1)) (h i c v h1 h2)

theorem noF1_any {w : World} {F F' : Nat → Prop} {S : Shp} {x : AV} {v : Value} (hx : noF1 x = true) (hr : Rel w F S x v) : Rel w F' S x v := by
  cases x with
  | agg cs =>
    cases hr with
    | agg _ _ vs h1 h2 => exact .agg _ _ _ h1 (noF_list (fun _ _ => noF0_any) hx h2)
  | fn f cs =>
    cases hr with
    | fn _ _ _ vs h1 h2 => exact .fn _ _ _ _ h1 (noF_list (fun _ _ => noF0_any) hx h2)
  | _ => exact noF0_any hx hr

theorem noF2_any {w : World} {F F' : Nat → Prop} {S : Shp} {x : AV} {v : Value} (hx : noF2 x = true) (hr : Rel w F S x v) : Rel w F' S x v := by
  cases x with
  | tup cs =>
    cases hr with
    | tup _ _ vs h1 h2 => exact .tup _ _ _ h1 (noF_list (fun _ _ => noF1_any) hx h2)
  | _ => exact noF1_any hx hr

theorem CallsA.call {f : FuncId} {args args' : List AV} {hp h0 : AHeap} {R K : AV → AHeap → Prop} (own bor : List Nat) (h : CallsA P f args' h0 R) (hok : okKeep 0 hp.length own = true) (hbl : liveAll hp bor = true)
    (hap : apartAll own bor = true) (hv : viewH hp own own = some h0) (hargs : mapO (view1 hp own bor) args = some args')
    (hK : ∀ r h', R r h' → (bor = [] ∨ (noF2 r && noFH h') = true) ∧ K (ren2 (back own hp.length) (fun _ => none) r) (backH own hp h')) : CallsA P f args hp K := by
  refine fun E cs H hT hlen ha => ?_
  obtain ⟨m1, m2⟩ := mapO_get hargs
  have hlt := okKeep_lt hok
  have hinj := okKeep_inj hok
  have Hs := H.sub hok hbl hap hv
  obtain ⟨v1, v2⟩ := viewH_get hv
  refine (h (E.sub own bor) cs Hs (hT.mono (fun _ h => .inl h) fun _ _ _ => rfl) (by omega) (fun i x v hx hvv => ?_)).mono ?_
  · have hi : i < args.length := by rw [m1]; exact (List.getElem?_eq_some_iff.1 hx).1
    exact view1_rel H hlt (ha i _ v (List.getElem?_eq_getElem hi) hvv) (m2 i _ x (List.getElem?_eq_getElem hi) hx)
  rintro e w' ⟨v, r, h', E', rfl, hr, rfl, X, H', hvr⟩
  obtain ⟨hno, hk⟩ := hK r h' hr
  have hol : own.length ≤ E'.S.ρ.length := by
    rcases Nat.eq_zero_or_pos own.length with h | h
    · omega
    · have := X.rho (own.length - 1) _ (List.getElem?_eq_getElem (by simp [Env.sub]; omega))
      have := (List.getElem?_eq_some_iff.1 this).1
      omega
  have hol' : own.length ≤ h'.length := by rw [← H'.len]; exact hol
  have hl := H.len
  have hrl := H.rlen
  have hrl' := H'.rlen
  let E2 := E.backE E' own bor hp.length
  have rho1 : ∀ k, k < hp.length → E2.S.ρ[k]? = E.S.ρ[k]? := fun k hk => by
    simp only [E2, Env.backE]; rw [List.getElem?_append_left (by omega)]
  have sh1 : ∀ k, k < hp.length → E2.S.sh[k]? = some (match idx own k with | some i => (E'.S.sh[i]?).getD none | none => (E.S.sh[k]?).getD none) := fun k hk => by
    simp only [E2, Env.backE]; rw [List.getElem?_append_left (by simpa using hk), List.getElem?_map, List.getElem?_range hk]; rfl
  have rho2 : ∀ i, E2.S.ρ[hp.length + i]? = E'.S.ρ[own.length + i]? := fun i => by
    simp only [E2, Env.backE]; rw [List.getElem?_append_right (by omega), List.getElem?_drop]; congr 1; omega
  have sh2 : ∀ i, E2.S.sh[hp.length + i]? = E'.S.sh[own.length + i]? := fun i => by
    simp only [E2, Env.backE]; rw [List.getElem?_append_right (by simp), List.getElem?_drop]; congr 1; simp
  have rhoOwn : ∀ (i k : Nat), own[i]? = some k → E'.S.ρ[i]? = E.S.ρ[k]? := by
    intro i k hi
    have hk := hlt k (List.mem_of_getElem? hi)
    have := (sub_get (bor := bor) H hlt hi).1
    rw [List.getElem?_eq_getElem (show k < E.S.ρ.length by omega)] at this ⊢
    exact X.rho i _ this
  have hσ : ∀ b b', back own hp.length b = some b' → E2.S.ρ[b']? = E'.S.ρ[b]? ∧ E2.S.sh[b']? = E'.S.sh[b]? := by
    intro b b' hb
    unfold back at hb
    rw [nth_eq] at hb
    split at hb
    · rename_i k hbk
      obtain rfl := Option.some.inj hb
      have hk := hlt k (List.mem_of_getElem? hbk)
      have hi : b < own.length := (List.getElem?_eq_some_iff.1 hbk).1
      refine ⟨by rw [rho1 k hk, rhoOwn b k hbk], ?_⟩
      rw [sh1 k hk, idx_of hinj hbk]
      simp only
      rw [List.getElem?_eq_getElem (show b < E'.S.sh.length by omega)]; rfl
    · rename_i hbn
      obtain rfl := Option.some.inj hb
      have hge : own.length ≤ b := by
        rcases Nat.lt_or_ge b own.length with h | h
        · rw [List.getElem?_eq_getElem h] at hbn; cases hbn
        · exact h
      rw [rho2, sh2, show own.length + (b - own.length) = b by omega]
      exact ⟨rfl, rfl⟩
  have borown : ∀ b, (∃ k base, k ∈ bor ∧ E.S.ρ[k]? = some (b, base)) → E.S.own b := by
    rintro b ⟨k, base, hk, hrk⟩
    unfold liveAll at hbl
    rw [List.all_eq_true] at hbl
    have := hbl k hk
    rw [nth_eq] at this
    split at this
    · rename_i bb hbb; exact H.own_of hbb hrk
    · cases this
  have subown : ∀ b, (E.sub own bor).S.own b → E.S.own b := by
    rintro b ⟨i, base, p, h1, h2⟩
    have hi : i < own.length := by have := (List.getElem?_eq_some_iff.1 h1).1; simpa [Env.sub] using this
    obtain ⟨e1, e2⟩ := sub_get (bor := bor) H hlt (List.getElem?_eq_getElem hi)
    rw [e1] at h1
    rw [e2] at h2
    exact ⟨_, base, p, h1, h2⟩
  have shlive : ∀ (k : Nat) p, k < hp.length → E2.S.sh[k]? = some (some p) → E.S.sh[k]? = some (some p) ∧ (∀ i : Nat, own[i]? = some k → E'.S.sh[i]? = some (some p)) := by
    intro k p hk hp'
    rw [sh1 k hk] at hp'
    cases hx : idx own k with
    | some i =>
      rw [hx] at hp'
      have hik := idx_get hx
      have hi : i < own.length := (List.getElem?_eq_some_iff.1 hik).1
      simp only [Option.some.injEq] at hp'
      rw [List.getElem?_eq_getElem (show i < E'.S.sh.length by omega)] at hp'
      have h3 : E'.S.sh[i]? = some (some p) := by rw [List.getElem?_eq_getElem (show i < E'.S.sh.length by omega)]; exact congrArg some hp'
      have h4 := X.sh i p (by simp [Env.sub]; exact hi) h3
      rw [(sub_get (bor := bor) H hlt hik).2] at h4
      exact ⟨h4, fun j hj => by rw [hinj j i k hj hik]; exact h3⟩
    | none =>
      rw [hx] at hp'
      simp only [Option.some.injEq] at hp'
      rw [List.getElem?_eq_getElem (show k < E.S.sh.length by omega)] at hp'
      refine ⟨by rw [List.getElem?_eq_getElem (show k < E.S.sh.length by omega)]; exact congrArg some hp', fun i hi => absurd (List.mem_of_getElem? hi) (idx_none hx)⟩
  have XE : Ext E E2 := by
    refine ⟨X.os, X.tape, X.output, X.size, fun b hb => ⟨X.frz b (.inl hb), fun hbb => H.off b hb (borown b hbb)⟩, fun b hb hn => X.same b hb (fun ho => hn (subown b ho)), fun k p hp' => ?_, fun k p hk hp' => ?_, hrl, fun b hb => ?_, fun b hb => ?_, X.cap, H.off⟩
    · rw [rho1 k (by have := (List.getElem?_eq_some_iff.1 hp').1; omega)]; exact hp'
    · exact (shlive k p (by omega) hp').1
    · obtain ⟨q, base, p, h1, h2⟩ := hb
      by_cases hq : q < hp.length
      · rw [rho1 q hq] at h1
        exact .inl ⟨q, base, p, h1, (shlive q p hq h2).1⟩
      · rw [show q = hp.length + (q - hp.length) by omega, rho2] at h1
        rw [show q = hp.length + (q - hp.length) by omega, sh2] at h2
        rcases X.own b ⟨_, base, p, h1, h2⟩ with h | h
        · exact .inl (subown b h)
        · exact .inr h
    · rcases X.nfrz b hb.1 with h | h | h
      · rcases h with h | h
        · exact .inl h
        · exact absurd h hb.2
      · exact .inr (.inl (subown b h))
      · exact .inr (.inr h)
  have Fmono : bor = [] → ∀ b, E'.F b → E2.F b := by
    rintro rfl b hb
    exact ⟨hb, by rintro ⟨k, base, hk, _⟩; simp at hk⟩
  have chF : ∀ {S x v}, Rel E'.w E'.F S x v → bor = [] → Rel E'.w E2.F S x v := fun {S x v} hR hb =>
    Rel.mono (w := E'.w) (F := E'.F) (w' := E'.w) (F' := E2.F) (Fmono hb) (fun _ _ _ => rfl) hR S (fun _ _ h => h) (fun _ _ _ _ h => h) fun b c e f h => ⟨c, e, f, h, rfl⟩
  have hlb : (h'.map (·.map (renB (back own hp.length) (fun _ => none)))).length = h'.length := by simp
  obtain ⟨s1, s2, s3⟩ := setAll_get own hp (h'.map (·.map (renB (back own hp.length) (fun _ => none)))) hlt hinj (by rw [hlb]; exact hol')
  -- where a block comes from
  have from_ : ∀ (q : Nat) b, (backH own hp h')[q]? = some (some b) → (∃ i b0, h'[i]? = some (some b0) ∧ b = renB (back own hp.length) (fun _ => none) b0 ∧ back own hp.length i = some q) ∨ (q < hp.length ∧ q ∉ own ∧ hp[q]? = some (some b)) := by
    intro q b hq
    unfold backH at hq
    by_cases hql : q < hp.length
    · rw [List.getElem?_append_left (by omega)] at hq
      by_cases hqo : q ∈ own
      · obtain ⟨i, hi, he⟩ := List.getElem_of_mem hqo
        have hik : own[i]? = some q := by rw [List.getElem?_eq_getElem hi, he]
        rw [s2 i q hik, List.getElem?_map, Option.map_eq_some_iff] at hq
        obtain ⟨o, ho, hm⟩ := hq
        cases o with
        | none => cases hm
        | some b0 => exact .inl ⟨i, b0, ho, (Option.some.inj hm).symm, by simp [back, nth_eq, hik]⟩
      · rw [s3 q hqo] at hq
        exact .inr ⟨hql, hqo, hq⟩
    · rw [List.getElem?_append_right (by omega), s1, List.getElem?_map, List.getElem?_drop, Option.map_eq_some_iff] at hq
      obtain ⟨o, ho, hm⟩ := hq
      cases o with
      | none => cases hm
      | some b0 =>
        refine .inl ⟨_, b0, ho, (Option.some.inj hm).symm, ?_⟩
        simp only [back, nth_eq]
        rw [List.getElem?_eq_none (by omega)]
        simp only [Option.some.injEq]; omega
  have H2 : HRel E2 (backH own hp h') := by
    refine ⟨?_, ?_, fun q b hq => ?_, fun q q' b b' cb ba ba' h1 h2 h3 h4 => ?_, fun b hb => H'.frz b hb.1⟩
    · simp only [E2, Env.backE, backH, List.map_append]
      congr 1
      · apply List.ext_getElem?
        intro k
        rw [List.getElem?_map, List.getElem?_map]
        by_cases hk : k < hp.length
        · rw [List.getElem?_range hk]
          simp only [Option.map_some]
          cases hx : idx own k with
          | some i =>
            have hik := idx_get hx
            rw [s2 i k hik, List.getElem?_map, H'.sh]
            have hi : i < h'.length := by have := (List.getElem?_eq_some_iff.1 hik).1; omega
            simp only [List.getElem?_map]
            rw [List.getElem?_eq_getElem hi]
            cases h'[i] <;> simp [renB_shape]
          | none =>
            rw [s3 k (idx_none hx), H.sh, List.getElem?_map, List.getElem?_eq_getElem hk]
            rfl
        · rw [List.getElem?_eq_none (by simp; omega), List.getElem?_eq_none (by omega)]; rfl
      · rw [H'.sh, List.map_map, ← List.map_drop]
        apply List.map_congr_left
        intro o _
        cases o <;> simp [renB_shape]
    · simp only [E2, Env.backE, backH, List.length_append, s1, List.length_map, List.length_drop]
      rw [H'.len]; omega
    · rcases from_ q b hq with ⟨i, b0, hb0, rfl, hback⟩ | ⟨hql, hqo, hb⟩
      · obtain ⟨f0, cb, base, c, e, r1, r2, r3, r4, r5⟩ := H'.blk i b0 hb0
        refine ⟨by cases b0 <;> exact f0, cb, base, c, e, by rw [(hσ i q hback).1]; exact r1, r2, fun hf => r3 hf.1, by rw [renB_shape]; exact r4, fun p j x hx => ?_⟩
        obtain ⟨y, hy, hxy⟩ := renB_cell _ _ _ _ _ _ hx
        obtain ⟨v, hv1, hv2⟩ := r5 p j y hy
        refine ⟨v, by rw [renB_shape]; exact hv1, ?_⟩
        have hnb : bor = [] ∨ noFB b0 = true := hno.imp id fun hh => by
          rw [Bool.and_eq_true] at hh
          have := List.all_eq_true.1 hh.2 _ (List.mem_of_getElem? hb0)
          exact this
        rcases hxy with ⟨cs, rfl, rfl⟩ | ⟨hne, rfl⟩
        · refine ren1_rel hσ (fun k b h => by cases h) ?_
          rcases hnb with hnb | hnb
          · exact chF hv2 hnb
          · simp only [ABlk.cell] at hy
            split at hy <;> try (cases hy; done)
            exact noF1_any (List.all_eq_true.1 hnb y (List.mem_of_getElem? hy)) hv2
        · cases b0 with
          | box cs => exact absurd rfl (hne cs)
          | ia k xs =>
            simp only [ABlk.cell] at hy
            split at hy <;> try (cases hy; done)
            rw [Option.map_eq_some_iff] at hy
            obtain ⟨m, _, rfl⟩ := hy
            exact noF0_any rfl hv2
          | arr s rows =>
            rcases hnb with hnb | hnb
            · exact chF hv2 hnb
            · simp only [ABlk.cell, Option.bind_eq_some_iff] at hy
              obtain ⟨row, hrow, hy⟩ := hy
              have h1 := List.all_eq_true.1 hnb row (List.mem_of_getElem? hrow)
              exact noF0_any (List.all_eq_true.1 h1 x (List.mem_of_getElem? hy)) hv2
      · obtain ⟨f0, cb, base, c, e, r1, r2, r3, r4, r5⟩ := H.blk q b hb
        have hns : ¬ (E.sub own bor).S.own cb := by
          rintro ⟨i, base', p, h1, h2⟩
          have hi : i < own.length := by have := (List.getElem?_eq_some_iff.1 h1).1; simpa [Env.sub] using this
          have hik := List.getElem?_eq_getElem hi
          obtain ⟨e1, e2⟩ := sub_get (bor := bor) H hlt hik
          rw [e1] at h1
          obtain ⟨bb, _, g1, _⟩ := v2 i _ hik
          have := H.inj _ _ _ _ cb base base' hb g1 r1 h1
          exact hqo (this ▸ List.getElem_mem hi)
        refine ⟨f0, cb, base, c, e, by rw [rho1 q hql]; exact r1, ?_, fun hf => ?_, r4, fun p j x hx => ?_⟩
        · rw [← r2]
          exact X.same cb (Array.getElem?_eq_some_iff.1 r2).1 hns
        · rcases X.nfrz cb hf.1 with h | h | h
          · rcases h with h | h
            · exact r3 h
            · exact hf.2 h
          · exact hns h
          · have := (Array.getElem?_eq_some_iff.1 r2).1
            have h' : E.w.heap.size ≤ cb := h
            omega
        · obtain ⟨v, hv1, hv2⟩ := r5 p j x hx
          exact ⟨v, hv1, inner_mono XE H.frz b hv2⟩
    · have key : ∀ (q : Nat) b ba, (backH own hp h')[q]? = some (some b) → E2.S.ρ[q]? = some (cb, ba) →
          (∃ i b0, h'[i]? = some (some b0) ∧ E'.S.ρ[i]? = some (cb, ba) ∧ back own hp.length i = some q) ∨ (q < hp.length ∧ q ∉ own ∧ hp[q]? = some (some b) ∧ E.S.ρ[q]? = some (cb, ba)) := by
        intro q b ba hq hrq
        rcases from_ q b hq with ⟨i, b0, hb0, _, hback⟩ | ⟨hql, hqo, hb⟩
        · exact .inl ⟨i, b0, hb0, by rw [← (hσ i q hback).1]; exact hrq, hback⟩
        · exact .inr ⟨hql, hqo, hb, by rw [← rho1 q hql]; exact hrq⟩
      have cross : ∀ {i : Nat} {b0 : ABlk} {ba : Nat} {q : Nat} {b : ABlk} {ba' : Nat}, h'[i]? = some (some b0) → E'.S.ρ[i]? = some (cb, ba) → q ∉ own → hp[q]? = some (some b) → E.S.ρ[q]? = some (cb, ba') → False := by
        intro i b0 ba q b ba' g1 g2 g3 g4 g5
        rcases X.own cb (H'.own_of g1 g2) with h | h
        · obtain ⟨j, base', p, e1, e2⟩ := h
          have hj : j < own.length := by have := (List.getElem?_eq_some_iff.1 e1).1; simpa [Env.sub] using this
          have hjk := List.getElem?_eq_getElem hj
          rw [(sub_get (bor := bor) H hlt hjk).1] at e1
          obtain ⟨bb, _, d1, _⟩ := v2 j _ hjk
          have := H.inj _ _ _ _ cb ba' base' g4 d1 g5 e1
          exact g3 (this ▸ List.getElem_mem hj)
        · have := H.own_lt (H.own_of g4 g5)
          have h' : E.w.heap.size ≤ cb := h
          omega
      rcases key q b ba h1 h3 with ⟨i, b0, a1, a2, a3⟩ | ⟨a1, a2, a3, a4⟩ <;> rcases key q' b' ba' h2 h4 with ⟨i', b0', c1, c2, c3⟩ | ⟨c1, c2, c3, c4⟩
      · have := H'.inj i i' b0 b0' cb ba ba' a1 c1 a2 c2
        subst this
        rw [a3] at c3
        exact Option.some.inj c3
      · exact (cross a1 a2 c2 c3 c4).elim
      · exact (cross c1 c2 a2 a3 a4).elim
      · exact H.inj q q' b b' cb ba ba' a3 c3 a4 c4
  refine ⟨v, _, _, E2, rfl, hk, rfl, XE, H2, ren2_rel hσ (fun k b h => by cases h) ?_⟩
  rcases hno with hno | hno
  · exact chF hvr hno
  · rw [Bool.and_eq_true] at hno
    exact noF2_any hno.1 hvr

end

end Go.AL
