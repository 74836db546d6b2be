/- Operations whose order is drawn. Seat-independent. -/
import Derived.Test.YtdjnndcdplgojaaAL22
namespace Go.AL
variable {P : Program}

/-! ### Blocks that the machine has made and the abstract order has not come to -/

/-- A block of noughts that nobody names. -/
structure Junk (O : Nat → Prop) (E : Env) (zz : List AV) (cb : Nat) : Prop where
  cells : ∃ c e, E.w.heap[cb]? = some (Obj.cells c e (0, 0)) ∧ ∀ E : Env, Bes E zz c.toList
  nf : ¬ E.F cb
  no : ¬ E.S.own cb
  mem : O cb

theorem Junk.lt {O : Nat → Prop} {E : Env} {zz : List AV} {cb : Nat} (J : Junk O E zz cb) : cb < E.w.heap.size := by
  obtain ⟨c, e, h, _⟩ := J.cells
  exact (Array.getElem?_eq_some_iff.1 h).1

theorem Junk.step {O O' : Nat → Prop} {E E' : Env} {zz : List AV} {cb : Nat} (J : Junk O E zz cb) (Y : Stp O E O' E') : Junk O' E' zz cb := by
  have hlt := J.lt
  obtain ⟨c, e, h1, h2⟩ := J.cells
  refine ⟨⟨c, e, by rw [Y.same cb hlt J.mem J.no]; exact h1, h2⟩, fun hf => ?_, fun ho => ?_, Y.more cb J.mem⟩
  · rcases Y.nf cb hf with h | h | h
    · exact J.nf h
    · exact J.no h
    · omega
  · rcases Y.own cb ho with h | h
    · exact J.no h
    · omega

/-- The block is given the next number. -/
def Env.adopt (E : Env) (zz : List AV) (cb : Nat) : Env := { E with S := ⟨E.S.ρ ++ [(cb, 0)], E.S.sh ++ [some (zz.length, 1)]⟩ }

theorem Env.adopt_own {E : Env} {zz : List AV} {cb b : Nat} (hl : E.S.ρ.length = E.S.sh.length) (h : (E.adopt zz cb).S.own b) : E.S.own b ∨ b = cb := by
  obtain ⟨k, base, p, h1, h2⟩ := h
  simp only [Env.adopt] at h1 h2
  by_cases hk : k < E.S.ρ.length
  · rw [List.getElem?_append_left hk] at h1
    rw [List.getElem?_append_left (by omega)] at h2
    exact .inl ⟨k, base, p, h1, h2⟩
  · rw [List.getElem?_append_right (by omega)] at h1
    have : k - E.S.ρ.length = 0 := by
      rcases Nat.eq_zero_or_pos (k - E.S.ρ.length) with h | h
      · exact h
      · rw [List.getElem?_eq_none (by simp; omega)] at h1; cases h1
    rw [this] at h1
    simp at h1
    exact .inr h1.1.symm

theorem Rel.adopt {E : Env} {zz : List AV} {cb : Nat} (hl : E.S.ρ.length = E.S.sh.length) {x : AV} {v : Value} (h : E.R x v) : (E.adopt zz cb).R x v := by
  refine Rel.mono (w := E.w) (F := E.F) (w' := E.w) (F' := E.F) (fun _ h => h) (fun _ _ _ => rfl) h _ (fun k p hk => ?_) (fun k p q hk hp => ?_) fun b c e f h => ⟨c, e, f, h, rfl, rfl⟩
  · simp only [Env.adopt]; rw [List.getElem?_append_left (List.getElem?_eq_some_iff.1 hk).1]; exact hk
  · simp only [Env.adopt] at hp
    rw [List.getElem?_append_left (by have := (List.getElem?_eq_some_iff.1 hk).1; omega)] at hp; exact hp

theorem ShpExt.adopt {S0 : Shp} {E : Env} {zz : List AV} {cb : Nat} (X : ShpExt S0 E.S) (hl : E.S.ρ.length = E.S.sh.length) : ShpExt S0 (E.adopt zz cb).S where
  rho k p hp := by
    have := X.rho k p hp
    simp only [Env.adopt]; rw [List.getElem?_append_left (List.getElem?_eq_some_iff.1 this).1]; exact this
  sh k p hk hp := by
    have h1 := X.rho k _ (List.getElem?_eq_getElem (by rw [X.rlen]; exact hk))
    have h2 := (List.getElem?_eq_some_iff.1 h1).1
    simp only [Env.adopt] at hp
    rw [List.getElem?_append_left (by omega)] at hp
    exact X.sh k p hk hp
  rlen := X.rlen

theorem HRel.adopt {O : Nat → Prop} {E : Env} {h : AHeap} {zz : List AV} {cb : Nat} (H : HRel E h) (J : Junk O E zz cb) : HRel (E.adopt zz cb) (h ++ [some (.box zz)]) := by
  have hl := H.rlen
  obtain ⟨c, e, j1, j2⟩ := J.cells
  refine ⟨?_, ?_, ?_, ?_, H.frz⟩
  · simp [Env.adopt, H.sh, ABlk.shape]
  · simp [Env.adopt, H.len]
  · intro k bk hk
    by_cases hlt : k < h.length
    · rw [List.getElem?_append_left hlt] at hk
      obtain ⟨h0, cb₁, base₁, c₁, e₁, h1, h2, h3, h4, h5⟩ := H.blk k bk hk
      refine ⟨h0, cb₁, base₁, c₁, e₁, by simp only [Env.adopt]; rw [List.getElem?_append_left (by rw [H.len]; exact hlt)]; exact h1, h2, h3, h4, fun i j x hx => ?_⟩
      obtain ⟨v, hv1, hv2⟩ := h5 i j x hx
      refine ⟨v, hv1, ?_⟩
      cases bk with
      | box cs => exact Rel.adopt hl hv2
      | ia k xs => exact hv2
      | arr s rows => exact hv2
      | mp es => exact hv2
    · rw [List.getElem?_append_right (by omega)] at hk
      have h0 : k - h.length = 0 := by
        rcases Nat.eq_zero_or_pos (k - h.length) with h' | h'
        · exact h'
        · rw [List.getElem?_eq_none (by simp; omega)] at hk; cases hk
      have hkl : k = h.length := by omega
      rw [h0] at hk
      simp at hk
      subst hk hkl
      have hb := j2 (E.adopt zz cb)
      refine ⟨trivial, cb, 0, c, e, by simp [Env.adopt, ← H.len], j1, J.nf, by simp [ABlk.room, ABlk.shape, hb.1], fun i j x hx => ?_⟩
      simp only [ABlk.cell] at hx
      split at hx <;> try (cases hx; done)
      rename_i hi
      subst hi
      obtain ⟨v, v1, v2⟩ := hb.get hx
      exact ⟨v, by simpa using v1, v2⟩
  · intro i i' bi bi' cb₁ ba ba' h1 h2 h3 h4
    have key : ∀ (j : Nat) bj base, (h ++ [some (ABlk.box zz)])[j]? = some (some bj) → (E.adopt zz cb).S.ρ[j]? = some (cb₁, base) →
        (j < h.length ∧ h[j]? = some (some bj) ∧ E.S.ρ[j]? = some (cb₁, base) ∧ cb₁ ≠ cb) ∨ (j = h.length ∧ cb₁ = cb) := by
      intro j bj base hj hrj
      simp only [Env.adopt] at hrj
      by_cases hlt : j < h.length
      · rw [List.getElem?_append_left hlt] at hj
        rw [List.getElem?_append_left (by rw [H.len]; exact hlt)] at hrj
        exact .inl ⟨hlt, hj, hrj, by rintro rfl; exact J.no (H.own_of hj hrj)⟩
      · have hj' : j = h.length := by
          rcases Nat.lt_or_ge h.length j with h' | h'
          · rw [List.getElem?_eq_none (by simp; omega)] at hj; cases hj
          · omega
        subst hj'
        rw [List.getElem?_append_right (by rw [H.len]; omega)] at hrj
        rw [H.len] at hrj
        simp at hrj
        exact .inr ⟨rfl, hrj.1.symm⟩
    rcases key i bi ba h1 h3 with ⟨a1, a2, a3, a4⟩ | ⟨a1, a2⟩ <;> rcases key i' bi' ba' h2 h4 with ⟨b1, b2, b3, b4⟩ | ⟨b1, b2⟩
    · exact H.inj _ _ _ _ _ _ _ a2 b2 a3 b3
    · exact absurd b2 a4
    · exact absurd a2 b4
    · omega

/-- Another block stays what it is. -/
theorem Junk.adopt {O : Nat → Prop} {E : Env} {zz yy : List AV} {cb cb' : Nat} (hl : E.S.ρ.length = E.S.sh.length) (J : Junk O E zz cb) (hne : cb ≠ cb') : Junk O (E.adopt yy cb') zz cb := by
  refine ⟨J.cells, J.nf, fun ho => ?_, J.mem⟩
  rcases Env.adopt_own hl ho with h | h
  · exact J.no h
  · exact hne h

/-- A block that is pending. -/
structure Pend where
  j : Nat
  d : Nat
  cb : Nat
  zz : List AV

/-- The state without what is pending. -/
def mask (D : List Pend) (tm : List (Nat × AV)) : List (Nat × AV) := D.map (fun p => (p.d, .undef)) ++ tm

theorem look_mask {tm : List (Nat × AV)} {t : Nat} : ∀ (D : List Pend), ((∃ p ∈ D, p.d = t) ∧ look (mask D tm) t = .undef) ∨ ((∀ p ∈ D, p.d ≠ t) ∧ look (mask D tm) t = look tm t)
  | [] => .inr ⟨by simp, rfl⟩
  | p :: D => by
    simp only [mask, List.map_cons, List.cons_append, look]
    split
    · rename_i hb
      exact .inl ⟨⟨p, by simp, Nat.eq_of_beq_eq_true hb⟩, rfl⟩
    · rename_i hb
      have hne : p.d ≠ t := fun he => by subst he; simp at hb
      rcases look_mask (tm := tm) (t := t) D with ⟨⟨q, hq, he⟩, h⟩ | ⟨h1, h2⟩
      · exact .inl ⟨⟨q, by simp [hq], he⟩, h⟩
      · refine .inr ⟨fun q hq => ?_, h2⟩
        rcases List.mem_cons.1 hq with rfl | hq
        · exact hne
        · exact h1 q hq

theorem look_mask_no {D : List Pend} {tm : List (Nat × AV)} {t : Nat} (h : ∀ p ∈ D, p.d ≠ t) : look (mask D tm) t = look tm t := by
  rcases look_mask (tm := tm) (t := t) D with ⟨⟨q, hq, he⟩, _⟩ | ⟨_, h2⟩
  · exact absurd he (h q hq)
  · exact h2

theorem look_mask_congr {D : List Pend} {tm tm' : List (Nat × AV)} {t : Nat} (h : (∀ p ∈ D, p.d ≠ t) → look tm t = look tm' t) : look (mask D tm) t = look (mask D tm') t := by
  rcases look_mask (tm := tm) (t := t) D with ⟨hp, h1⟩ | ⟨hp, h1⟩ <;> rcases look_mask (tm := tm') (t := t) D with ⟨hp', h1'⟩ | ⟨hp', h1'⟩
  · rw [h1, h1']
  · obtain ⟨p, hq, he⟩ := hp; exact absurd he (hp' p hq)
  · obtain ⟨p, hq, he⟩ := hp'; exact absurd he (hp p hq)
  · rw [h1, h1', h hp]

theorem mask_put {D : List Pend} {tm : List (Nat × AV)} {dst : Option Nat} {v : AV} {g : Option AV} (h : ∀ p ∈ D, dst ≠ some p.d) (hG : ∀ p ∈ D, p.d ≠ G) (t : Nat) :
    look (mask D (putD dst v (gput g tm))) t = look (putD dst v (gput g (mask D tm))) t := by
  rw [look_putD]
  by_cases ht : dst = some t
  · rw [if_pos ht, look_mask_no (fun p hp he => h p hp (by rw [he]; exact ht)), look_putD, if_pos ht]
  · rw [if_neg ht]
    by_cases hg : t = G
    · subst hg
      rw [look_mask_no (fun p hp => hG p hp), look_putD, if_neg ht]
      exact look_gput_congr (look_mask_no (fun p hp => hG p hp)).symm
    · rw [look_gput hg]
      exact look_mask_congr fun _ => by rw [look_putD, if_neg ht, look_gput hg]

/-- The same operation where other temporaries are not known. -/
theorem stepD_mask {o : AOper} {D : List Pend} {st : St} {next : St → Prop} (hc : Closed next) (hl : ∀ p ∈ D, p.d ∉ o.looks) (hd : ∀ p ∈ D, o.dst ≠ some p.d) (hG : ∀ p ∈ D, p.d ≠ G) (hrs : o.rs = []) (h : stepD P o st next) :
    stepD P o ⟨mask D st.tm, st.hp, st.hn, st.n0⟩ fun st' => ∃ st0, next st0 ∧ StEq ⟨mask D st0.tm, st0.hp, st0.hn, st0.n0⟩ st' := by
  obtain ⟨tm, hp, hn, n0⟩ := st
  have hc' : Closed fun st' => ∃ st0, next st0 ∧ StEq ⟨mask D st0.tm, st0.hp, st0.hn, st0.n0⟩ st' := fun a b hab ⟨st0, h1, h2⟩ => ⟨st0, h1, h2.trans hab⟩
  rw [stepD_iff hc] at h
  rw [stepD_iff hc']
  have same : ∀ t ∈ o.looks, look tm t = look (mask D tm) t := fun t ht => (look_mask_no fun p hp he => hl p hp (by rw [he]; exact ht)).symm
  have hw : wantedA (mask D tm) o.guard = wantedA tm o.guard := by
    unfold wantedA
    cases hg : o.guard with
    | none => rfl
    | some gw =>
      obtain ⟨q, want⟩ := gw
      simp only
      rw [← same q (by simp [AOper.looks, hg])]
  rcases h with ⟨h1, h2⟩ | ⟨h1, h2⟩
  · refine .inl ⟨by rw [hw]; exact h1, stepAD_frame (fun t ht => same t (by simp [AOper.looks, ht])) (look_mask_no fun p hp => hG p hp).symm (fun _ _ => by rw [hrs]; trivial) (fun g v hp2 hn2 _ _ hk => ?_) h2⟩
    exact ⟨_, hk, fun t => mask_put hd hG t, rfl, rfl, rfl⟩
  · exact .inr ⟨by rw [hw]; exact h1, _, h2, fun t => mask_put (g := none) hd hG t, rfl, rfl, rfl⟩

theorem Lf.eq {r : Option Nat} {S0 : Shp} {K : KP} {N z : Nat} {O : Nat → Prop} {E : Env} {st st' : St} {a : Act} (L : Lf r S0 K N z O E st a) (h : StEq st st') : Lf r S0 K N z O E st' a :=
  ⟨L.X, L.own, by have : ghostOf st'.tm = ghostOf st.tm := by { unfold ghostOf; rw [h.1] }
                  rw [this]; exact L.k, L.m, StEq.srel L.S h⟩

section
variable {r : Option Nat} {n : Nat} {K : KP} {S0 : Shp} {N z : Nat} {ops : Array Oper} {Q : Exit → Act → World → Prop}

/-- What is so of those that are pending. -/
structure Pends (N : Nat) (aops : List AOper) (L : List Nat) (M : List Nat) (D : List Pend) (O : Nat → Prop) (E : Env) (a : Act) : Prop where
  all : ∀ i ∈ L, i ∈ M ∨ ∃ p ∈ D, p.j = i
  not : ∀ p ∈ D, p.j ∈ L ∧ p.j ∉ M
  op : ∀ p ∈ D, ∃ po rs, aops[p.j]? = some ⟨some p.d, .alloc p.zz, none, po, rs⟩
  val : ∀ p ∈ D, p.d < N ∧ a.tmps.getD p.d undef = .pointer (some ⟨p.cb, 0, none⟩)
  junk : ∀ p ∈ D, Junk O E p.zz p.cb
  apart : D.Pairwise fun p q => p.cb ≠ q.cb ∧ p.d ≠ q.d ∧ p.j ≠ q.j

theorem pair_mem {α : Type} {R : α → α → Prop} : ∀ {l : List α}, l.Pairwise R → (∀ a b, R a b → R b a) → ∀ x ∈ l, ∀ y ∈ l, x ≠ y → R x y
  | [], _, _, x, hx, _, _, _ => by simp at hx
  | z :: l, h, hs, x, hx, y, hy, hne => by
    rw [List.pairwise_cons] at h
    rcases List.mem_cons.1 hx with hx1 | hx1 <;> rcases List.mem_cons.1 hy with hy1 | hy1
    · exact absurd (hx1.trans hy1.symm) hne
    · rw [hx1]; exact h.1 y hy1
    · rw [hy1]; exact hs _ _ (h.1 x hx1)
    · exact pair_mem h.2 hs x hx1 y hy1 hne

/-- One that is pending is taken up. -/
theorem adopt_one {Kn : St → Prop} (hK : Closed Kn) {aops : List AOper} {pre B : List Nat} {M : List Nat} {D1 D2 : List Pend} {p : Pend} {O : Nat → Prop} {E : Env} {st : St} {a : Act}
    (hpre : ∀ i ∈ pre, ∀ x y, aops[i]? = some x → aops[p.j]? = some y → commute false x y = true) (hnd : (pre ++ p.j :: B).Nodup)
    (hP : Pends N aops (pre ++ p.j :: B) M (D1 ++ p :: D2) O E a) (L : Lf r S0 K N z O E ⟨mask (D1 ++ p :: D2) st.tm, st.hp, st.hn, st.n0⟩ a) (h : wpD P ((pre ++ p.j :: B).filterMap (aops[·]?)) st Kn) :
    ∃ E' st', E'.w = E.w ∧ Pends N aops (pre ++ B) M (D1 ++ D2) O E' a ∧ Lf r S0 K N z O E' ⟨mask (D1 ++ D2) st'.tm, st'.hp, st'.hn, st'.n0⟩ a ∧ wpD P ((pre ++ B).filterMap (aops[·]?)) st' Kn := by
  have hpm : p ∈ D1 ++ p :: D2 := by simp
  obtain ⟨po, rs, hop⟩ := hP.op p hpm
  rw [List.filterMap_append, List.filterMap_cons, hop] at h
  have hcf : ∀ x ∈ pre.filterMap (aops[·]?), commute false x ⟨some p.d, .alloc p.zz, none, po, rs⟩ = true := fun x hx => by
    obtain ⟨i, hi, hix⟩ := List.mem_filterMap.1 hx
    exact hpre i hi x _ hix hop
  have hb := bubble hK (pre.filterMap (aops[·]?)) [] st (fun x hx => ⟨false, hcf x hx, by simp⟩) (List.pairwise_iff_forall_sublist.2 fun {x y} hs => .inl (hcf x (hs.subset (by simp)))) (by simp) h
  have hb' : stepD P ⟨some p.d, .alloc p.zz, none, po, []⟩ st fun st => wpD P ((pre ++ B).filterMap (aops[·]?)) st Kn := by
    rw [List.filterMap_append]; exact hb
  obtain ⟨tm, hp, hn, n0⟩ := st
  simp only [stepD, stepAD, aop, need_iff, lays_iff, f2_iff, Eff.go_iff, putK_iff, Eff.app, Eff.hn, putD] at hb'
  have hh := hb'.2.2
  have J := hP.junk p hpm
  have H := L.S.H
  have hhn : hn = hp.length := L.S.hn
  have sep := pair_mem hP.apart (fun a b h => ⟨h.1.symm, h.2.1.symm, h.2.2.symm⟩)
  have hone : ∀ q ∈ D1 ++ D2, q ≠ p := by
    intro q hq he
    subst he
    have := hP.apart
    rw [List.pairwise_append, List.pairwise_cons] at this
    rcases List.mem_append.1 hq with hq | hq
    · exact (this.2.2 q hq q (by simp)).1 rfl
    · exact (this.2.1.1 q hq).1 rfl
  have sub : ∀ q ∈ D1 ++ D2, q ∈ D1 ++ p :: D2 := fun q hq => by
    rcases List.mem_append.1 hq with hq | hq <;> simp [hq]
  have hmask : ∀ t, (t = p.d → look (mask (D1 ++ D2) ((p.d, .bp hn 0) :: tm)) t = .bp hn 0) ∧ (t ≠ p.d → look (mask (D1 ++ D2) ((p.d, .bp hn 0) :: tm)) t = look (mask (D1 ++ p :: D2) tm) t) := by
    intro t
    refine ⟨fun ht => ?_, fun ht => ?_⟩
    · subst ht
      rw [look_mask_no (fun q hq => (sep q (sub q hq) p hpm (hone q hq)).2.1)]
      simp [look]
    · rcases look_mask (tm := (p.d, .bp hn 0) :: tm) (t := t) (D1 ++ D2) with ⟨⟨q, hq, he⟩, h1⟩ | ⟨hq, h1⟩
      · rcases look_mask (tm := tm) (t := t) (D1 ++ p :: D2) with ⟨_, h2⟩ | ⟨h2, _⟩
        · rw [h1, h2]
        · exact absurd he (h2 q (sub q hq))
      · rw [h1, look_mask_no (D := D1 ++ p :: D2)]
        · simp only [look]
          split
          · rename_i hb; exact absurd (Nat.eq_of_beq_eq_true hb).symm ht
          · rfl
        · intro q hqm
          rcases List.mem_append.1 hqm with h | h
          · exact hq q (by simp [h])
          · rcases List.mem_cons.1 h with rfl | h
            · exact fun he => ht he.symm
            · exact hq q (by simp [h])
  refine ⟨E.adopt p.zz p.cb, ⟨(p.d, .bp hn 0) :: tm, hp ++ [some (.box p.zz)], hn + 1, n0⟩, rfl, ?_, ?_, hh⟩
  · refine ⟨fun i hi => ?_, fun q hq => ?_, fun q hq => hP.op q (sub q hq), fun q hq => hP.val q (sub q hq), fun q hq => (hP.junk q (sub q hq)).adopt H.rlen (sep q (sub q hq) p hpm (hone q hq)).1, ?_⟩
    · rcases hP.all i (by simp at hi ⊢; rcases hi with h | h <;> simp [h]) with h | ⟨q, hq, he⟩
      · exact .inl h
      · refine .inr ⟨q, ?_, he⟩
        rcases List.mem_append.1 hq with h | h
        · simp [h]
        · rcases List.mem_cons.1 h with rfl | h
          · exfalso
            subst he
            rw [List.nodup_append] at hnd
            obtain ⟨n1, n2, n3⟩ := hnd
            rw [List.nodup_cons] at n2
            rcases List.mem_append.1 hi with hi | hi
            · exact n3 _ hi _ (by simp) rfl
            · exact n2.1 hi
          · simp [h]
    · obtain ⟨h1, h2⟩ := hP.not q (sub q hq)
      refine ⟨?_, h2⟩
      have hne : q.j ≠ p.j := (sep q (sub q hq) p hpm (hone q hq)).2.2
      simp only [List.mem_append, List.mem_cons] at h1 ⊢
      rcases h1 with h | h | h
      · exact .inl h
      · exact absurd h hne
      · exact .inr h
    · have := hP.apart
      rw [List.pairwise_append, List.pairwise_cons] at this
      rw [List.pairwise_append]
      exact ⟨this.1, this.2.1.2, fun x hx y hy => this.2.2 x hx y (by simp [hy])⟩
  · refine ⟨L.X.adopt H.rlen, fun b hb => ?_, ?_, L.m, ⟨fun t => ?_, H.adopt J, ?_, L.S.NG, L.S.N, L.S.z⟩⟩
    · rcases Env.adopt_own H.rlen hb with h | h
      · exact L.own b h
      · subst h; exact J.mem
    · have hGd : G ≠ p.d := by have := (hP.val p hpm).1; have := L.S.NG; omega
      have : ghostOf (mask (D1 ++ D2) ((p.d, .bp hn 0) :: tm)) = ghostOf (mask (D1 ++ p :: D2) tm) := by unfold ghostOf; rw [(hmask G).2 hGd]
      show K (ghostOf (mask (D1 ++ D2) ((p.d, .bp hn 0) :: tm))) O E.F E.w
      rw [this]; exact L.k
    · show (E.adopt p.zz p.cb).R (look (mask (D1 ++ D2) ((p.d, .bp hn 0) :: tm)) t) _
      by_cases ht : t = p.d
      · rw [(hmask t).1 ht, ht, (hP.val p hpm).2]
        refine .bp _ _ _ p.cb 0 0 ?_ rfl
        simp only [Env.adopt, hhn]
        rw [List.getElem?_append_right (by rw [H.len]; exact Nat.le_refl _)]
        simp [H.len]
      · rw [(hmask t).2 ht]
        exact Rel.adopt H.rlen (L.S.T t)
    · simp [hhn]

/-- Those that are pending ahead are taken up. -/
theorem settle {Kn : St → Prop} (hK : Closed Kn) {aops : List AOper} {M : List Nat} {bef : List Nat} (hcl : ∀ q, q ∉ M → ∀ k, (bef.getD q 0).testBit k = true → k ∉ M) {R : List Nat} :
    ∀ (rest pre : List Nat) (D : List Pend) (O : Nat → Prop) (E : Env) (st : St) (a : Act), (∀ i ∈ pre, i ∈ M) → (∀ i ∈ pre ++ rest, i ∈ M → ∀ x, aops[i]? = some x → (x.op.isP = true ∨ x.op.isR = true) ∧ notIn (some G) x.looks = true ∧ notIn x.dst [G] = true) →
      (pre ++ rest ++ R).Nodup → pairsOK bef aops (pre ++ rest ++ R) = true → Pends N aops (pre ++ rest ++ R) M D O E a → Lf r S0 K N z O E ⟨mask D st.tm, st.hp, st.hn, st.n0⟩ a → wpD P ((pre ++ rest ++ R).filterMap (aops[·]?)) st Kn →
      ∃ A' D' E' st', E'.w = E.w ∧ (∀ i ∈ A', i ∈ M ∧ i ∈ pre ++ rest) ∧ (∀ i ∈ pre ++ rest, i ∈ M → i ∈ A') ∧ (A' ++ R).Nodup ∧ pairsOK bef aops (A' ++ R) = true ∧ Pends N aops (A' ++ R) M D' O E' a ∧ Lf r S0 K N z O E' ⟨mask D' st'.tm, st'.hp, st'.hn, st'.n0⟩ a ∧ wpD P ((A' ++ R).filterMap (aops[·]?)) st' Kn
  | [], pre, D, O, E, st, a, hpre, _, hnd, hp, hP, L, h => by
    simp only [List.append_nil] at *
    exact ⟨pre, D, E, st, rfl, fun i hi => ⟨hpre i hi, hi⟩, fun i hi _ => hi, hnd, hp, hP, L, h⟩
  | x :: rest, pre, D, O, E, st, a, hpre, hpr, hnd, hp, hP, L, h => by
    by_cases hx : x ∈ M
    · have e : pre ++ (x :: rest) ++ R = (pre ++ [x]) ++ rest ++ R := by simp
      have e' : pre ++ (x :: rest) = (pre ++ [x]) ++ rest := by simp
      rw [e] at hnd hp hP h
      rw [e'] at hpr ⊢
      exact settle hK hcl rest (pre ++ [x]) D O E st a (fun i hi => by
        rcases List.mem_append.1 hi with h | h
        · exact hpre i h
        · simp at h; subst h; exact hx) hpr hnd hp hP L h
    · obtain hM | ⟨p, hp1, hp2⟩ := hP.all x (by simp)
      · exact absurd hM hx
      subst hp2
      obtain ⟨D1, D2, rfl⟩ := List.append_of_mem hp1
      have e : pre ++ (p.j :: rest) ++ R = pre ++ p.j :: (rest ++ R) := by simp
      rw [e] at hnd hp hP h
      obtain ⟨p1, p2, _⟩ := pairs_spec hp
      obtain ⟨po, rs, hop⟩ := hP.op p hp1
      obtain ⟨E', st', e1, hP', L', h'⟩ := adopt_one hK (fun i hi x y hix hjy => by
        rw [hop] at hjy
        obtain rfl := Option.some.inj hjy
        rcases p1 i hi with hb | ⟨u, v, hu, hv, hc⟩
        · exact absurd (hpre i hi) (hcl _ hx i hb)
        · rw [hix] at hu
          rw [hop] at hv
          obtain rfl := Option.some.inj hu
          obtain rfl := Option.some.inj hv
          rw [Bool.or_eq_true] at hc
          rcases hc with hc | hc
          · exact commute_alloc rfl hc
          · obtain ⟨q1, q2, q3⟩ := hpr i (by simp [hi]) (hpre i hi) x hix
            simp only [latecom, Bool.and_eq_true] at hc
            simp only [commute, Bool.and_eq_true, Bool.or_eq_true]
            refine ⟨⟨⟨⟨⟨?_, hc.1.2⟩, hc.2⟩, ?_⟩, q2⟩, q3⟩
            · simp [AOper.looks, AOp.looks, notIn]
              cases x.dst <;> rfl
            · rcases q1 with q1 | q1
              · exact .inl q1
              · exact .inr ⟨q1, .inl (.inr rfl)⟩) hnd hP L h
      have hnd' : (pre ++ rest ++ R).Nodup := by
        rw [List.append_assoc]
        rw [List.nodup_append] at hnd ⊢
        obtain ⟨n1, n2, n3⟩ := hnd
        rw [List.nodup_cons] at n2
        exact ⟨n1, n2.2, fun a ha b hb => n3 a ha b (by simp at hb ⊢; rcases hb with hb | hb <;> simp [hb])⟩
      rw [← List.append_assoc] at hP' h' p2
      obtain ⟨A', D', E2, st2, f1, f2, f3, f4⟩ := settle hK hcl rest pre (D1 ++ D2) O E' st' a hpre (fun i hi => hpr i (by simp at hi ⊢; rcases hi with hi | hi <;> simp [hi])) hnd' p2 hP' L' h'
      refine ⟨A', D', E2, st2, f1.trans e1, fun i hi => ⟨(f2 i hi).1, ?_⟩, fun i hi hm => ?_, f4⟩
      · have := (f2 i hi).2
        simp at this ⊢; rcases this with h | h <;> simp [h]
      · refine f3 i ?_ hm
        simp at hi ⊢
        rcases hi with h | h | h
        · exact .inl h
        · subst h; exact absurd hm hx
        · exact .inr h

theorem late_inv {x : AOper} (h : x.late = true) : ∃ d zz po rs, x = ⟨some d, .alloc zz, none, po, rs⟩ := by
  unfold AOper.late at h
  split at h
  · exact ⟨_, _, _, _, rfl⟩
  · cases h

theorem late_apart {l : List AOper} (h : lateOK l = true) {i j : Nat} {a b : AOper} (hi : l[i]? = some a) (hj : l[j]? = some b) (hne : i ≠ j) (hl : a.late = true) :
    (match a.dst, b.dst with | some x, some y => x != y | _, _ => true) = true := by
  unfold lateOK at h
  rw [List.all_eq_true] at h
  have h1 := h i (List.mem_range.2 (List.getElem?_eq_some_iff.1 hi).1)
  rw [hi] at h1
  simp only [hl, Bool.not_true, Bool.false_or, List.all_eq_true] at h1
  have h2 := h1 j (List.mem_range.2 (List.getElem?_eq_some_iff.1 hj).1)
  rw [hj] at h2
  simp only [Bool.or_eq_true] at h2
  rcases h2 with h2 | h2
  · exact absurd (Nat.eq_of_beq_eq_true h2) hne
  · exact h2

theorem cOp_alloc {op : Op} {zz : List AV} (h : cOp P op = some (.alloc zz)) : ∃ t, op = .alloc t ∧ zeroB P t = some zz := by
  rcases cOp_inv h with ⟨f, args, ts, l, _, _, h⟩ | ⟨x, y, args, ts, l, _, _, _, h⟩ | ⟨hq, _⟩
  · cases h
  · cases h
  · cases op <;> simp only [cQ, Option.bind_eq_bind, Option.bind_eq_some_iff, Option.pure_def, Option.some.injEq, reduceCtorEq, and_false, exists_false] at hq
    case alloc t =>
      split at hq
      · simp only [Option.bind_eq_some_iff, Option.some.injEq, reduceCtorEq, and_false, exists_false] at hq
      · simp only [Option.bind_eq_some_iff, Option.some.injEq] at hq
        obtain ⟨z, hz, e⟩ := hq
        cases e
        exact ⟨t, rfl, hz⟩
    case binOp op t x y ty =>
      split at hq
      · rename_i p _
        simp only [Option.bind_eq_some_iff, Option.some.injEq] at hq
        obtain ⟨_, _, _, _, he⟩ := hq
        cases p <;> cases he
      · rename_i p _
        simp only [Option.bind_eq_some_iff, Option.some.injEq] at hq
        obtain ⟨_, _, _, _, he⟩ := hq
        cases p <;> cases he
      · simp only [Option.bind_eq_some_iff, Option.some.injEq] at hq
        obtain ⟨_, _, _, _, he⟩ := hq
        cases he
    all_goals (exfalso; (repeat' (first | (rename_i heq _; cases heq; done) | (rename_i heq _ _ _ _; cases heq; done) | (cases hq; done) | (obtain ⟨_, _, hq⟩ := hq) | (split at hq) | (simp only [Option.bind_eq_some_iff, Option.some.injEq, reduceCtorEq, and_false, exists_false] at hq))))

theorem least (rk : Nat → Nat) : ∀ (l : List Nat), l ≠ [] → ∃ i, i ∈ l ∧ ∀ k ∈ l, rk i ≤ rk k
  | [], h => absurd rfl h
  | [p], _ => ⟨p, by simp, by simp⟩
  | p :: q :: qs, _ => by
    obtain ⟨i, hi, hm⟩ := least rk (q :: qs) (by simp)
    by_cases hpi : rk p ≤ rk i
    · exact ⟨p, by simp, fun k hk => by
        rcases List.mem_cons.1 hk with rfl | hk
        · exact Nat.le_refl _
        · exact Nat.le_trans hpi (hm k hk)⟩
    · exact ⟨i, by simp only [List.mem_cons] at hi ⊢; exact .inr hi, fun k hk => by
        rcases List.mem_cons.1 hk with rfl | hk
        · omega
        · exact hm k hk⟩

theorem any_sound (C : Ctx P r K) {fz : Bool} {aops : List AOper} {Kn : St → Prop} (hK : Closed Kn) (hKQ : ∀ O E st a, Lf r S0 K N z O E st a → Kn st → Q .normal a E.w)
    (hlen : aops.length = ops.size) (hops : ∀ (i : Nat) ao, aops[i]? = some ao → ∃ o b c, ops[i]? = some o ∧ (cOper P N ops fz o).map (fun a => { a with po := b, rs := c }) = some ao) (rk : Nat → Nat) (hd : ∀ i, i < ops.size → ∀ k ∈ direct ops i, k < ops.size ∧ rk k < rk i) (hlate : lateOK aops = true) (hrel : relOK (befOf ops) aops = true)
    (hrs : ∀ (j : Nat) b, aops[j]? = some b → ∀ x ∈ b.rs, (aops[x.1]?).map (·.op) = some x.2) :
    ∀ (fuel : Nat) (L M : List Nat) (D : List Pend) (listed : Array Bool), M.length = fuel → M.Nodup → L.Nodup → listed.size = ops.size → (∀ i, i < ops.size → (listed.getD i true = false ↔ i ∈ M)) → (∀ i ∈ L, i < ops.size) → (∀ i ∈ M, i ∈ L) →
      (∀ q, q < ops.size → q ∉ M → ∀ m ∈ direct ops q, m ∉ M) → pairsOK (befOf ops) aops L = true →
      ∀ (O : Nat → Prop) (E : Env) (st : St) (a : Act), Pends N aops L M D O E a → Lf r S0 K N z O E ⟨mask D st.tm, st.hp, st.hn, st.n0⟩ a → wpD P (L.filterMap (aops[·]?)) st Kn → wpAnyIn (Fr r) n P .any ops Q fuel listed a E.w := by
  intro fuel
  have clos : ∀ M : List Nat, (∀ q, q < ops.size → q ∉ M → ∀ m ∈ direct ops q, m ∉ M) → ∀ q, q ∉ M → ∀ k, ((befOf ops).getD q 0).testBit k = true → k ∉ M := by
    intro M hcl
    have go : ∀ (n q : Nat), rk q < n → q < ops.size → (∀ m ∈ direct ops q, m ∉ M) → ∀ k, ((befOf ops).getD q 0).testBit k = true → k ∉ M := by
      intro n
      induction n with
      | zero => intro q hq; omega
      | succ n ihn =>
        intro q hqn hqs hdq k hk
        rcases befOf_spec ops q k hk with h2 | ⟨m, hm, h2⟩
        · exact hdq k h2
        · have hmq := hd q hqs m hm
          exact ihn m (by omega) hmq.1 (hcl m hmq.1 (hdq m hm)) k h2
    intro q hq k hk
    by_cases hqs : q < ops.size
    · exact go (rk q + 1) q (by omega) hqs (hcl q hqs hq) k hk
    · have hdn : direct ops q = [] := by simp [direct, Nat.le_of_not_lt hqs]
      rcases befOf_spec ops q k hk with h2 | ⟨m, hm, h2⟩
      · rw [hdn] at h2; simp at h2
      · rw [hdn] at hm; simp at hm
  have dir : ∀ {j : Nat} {o : Oper}, ops[j]? = some o → ∀ m, m ∈ direct ops j ↔ ∃ e ∈ o.after, Region.binds .any e = true ∧ e.on = m := by
    intro j o ho m
    simp only [direct, ho, List.mem_map, List.mem_filter, Array.mem_toList_iff]
    constructor
    · rintro ⟨e, ⟨h1, h2⟩, h3⟩; exact ⟨e, h1, h2, h3⟩
    · rintro ⟨e, h1, h2, h3⟩; exact ⟨e, ⟨h1, h2⟩, h3⟩
  induction fuel with
  | zero =>
    intro L M D listed hl hMn hnd hsz hli hlt hML hcl hp O E st a hP Lv h
    have hM : M = [] := List.eq_nil_of_length_eq_zero hl
    subst hM
    refine ⟨?_, ?_⟩
    · rw [List.eq_nil_iff_forall_not_mem]
      intro j hj
      obtain ⟨h1, o, ho, _⟩ := mem_ready.1 hj
      have hjs : j < ops.size := (Array.getElem?_eq_some_iff.1 ho).1
      have := (hli j hjs).1 h1
      simp at this
    · obtain ⟨A', D', E', st', e1, f1, _, _, _, g1, g2, g3⟩ := settle (R := []) hK (clos [] hcl) L [] D O E st a (by simp) (by simp) (by simpa using hnd) (by simpa using hp) (by simpa using hP) Lv (by simpa using h)
      have hA : A' = [] := List.eq_nil_iff_forall_not_mem.2 fun i hi => by have := (f1 i hi).1; simp at this
      subst hA
      have hD : D' = [] := List.eq_nil_iff_forall_not_mem.2 fun p hp => by have := (g1.not p hp).1; simp at this
      subst hD
      rw [← e1]
      exact hKQ _ _ _ _ g2 g3
  | succ fuel ih =>
    intro L M D listed hl hMn hnd hsz hli hlt hML hcl hp O E st a hP Lv h
    refine ⟨fun hnil => ?_, fun j hj => ?_⟩
    · exfalso
      have hne : M ≠ [] := by rintro rfl; simp at hl
      obtain ⟨i, hi, hmin⟩ := least rk M hne
      have his := hlt i (hML i hi)
      have hready : i ∈ Region.ready .any ops listed := by
        refine mem_ready.2 ⟨(hli i his).2 hi, ops[i], by simp [his], fun e he hb => ?_⟩
        have hmem : e.on ∈ direct ops i := (dir (by simp [his]) e.on).2 ⟨e, he, hb, rfl⟩
        have hlt' := hd i his e.on hmem
        have hno : e.on ∉ M := fun hh => by have := hmin e.on hh; omega
        have h3 := mt (hli e.on hlt'.1).1 hno
        have : e.on < listed.size := by omega
        simp [Array.getD, this] at h3 ⊢
        exact h3
      rw [hnil] at hready
      cases hready
    · obtain ⟨h1, o, ho, hall⟩ := mem_ready.1 hj
      have hjs : j < ops.size := (Array.getElem?_eq_some_iff.1 ho).1
      have hjM := (hli j hjs).1 h1
      have hjL := hML j hjM
      have hdj : ∀ m ∈ direct ops j, m ∉ M := by
        intro m hm hmM
        obtain ⟨e, he, hb, rfl⟩ := (dir ho m).1 hm
        have h2 := hall e he hb
        have hms := hlt _ (hML _ hmM)
        have h3 := (hli _ hms).2 hmM
        have : e.on < listed.size := by omega
        simp [Array.getD, this] at h2 h3
        rw [h2] at h3; cases h3
      have hbefj : ∀ k, ((befOf ops).getD j 0).testBit k = true → k ∉ M := by
        intro k hk
        rcases befOf_spec ops j k hk with h2 | ⟨m, hm, h2⟩
        · exact hdj k h2
        · exact clos M hcl m (hdj m hm) k h2
      have hjo : aops[j]? = some aops[j] := List.getElem?_eq_getElem (by omega)
      obtain ⟨o', bb, cc, ho', hco⟩ := hops j _ hjo
      rw [ho] at ho'
      obtain rfl := Option.some.inj ho'
      rw [Option.map_eq_some_iff] at hco
      obtain ⟨ao0, hco, hbb⟩ := hco
      -- what is left behind it
      have hM' : ∀ i, i ∈ M.erase j ↔ i ∈ M ∧ i ≠ j := fun i => by rw [hMn.mem_erase_iff]; exact and_comm
      have next : ∀ (L' : List Nat) (D' : List Pend) (O' : Nat → Prop) (E' : Env) (st' : St) (a' : Act), L'.Nodup → (∀ i ∈ L', i < ops.size) → (∀ i ∈ M, i ≠ j → i ∈ L') → pairsOK (befOf ops) aops L' = true → Pends N aops L' (M.erase j) D' O' E' a' →
          Lf r S0 K N z O' E' ⟨mask D' st'.tm, st'.hp, st'.hn, st'.n0⟩ a' → wpD P (L'.filterMap (aops[·]?)) st' Kn → wpAnyIn (Fr r) n P .any ops Q fuel (listed.setIfInBounds j true) a' E'.w := by
        intro L' D' O' E' st' a' q1 q2 q3 q4 q5 q6 q7
        refine ih L' (M.erase j) D' _ (by rw [List.length_erase_of_mem hjM]; omega) (hMn.erase j) q1 (by simpa using hsz) (fun i hi => ?_) q2 (fun i hi => q3 i ((hM' i).1 hi).1 ((hM' i).1 hi).2) (fun q hq hqm m hm hmm => ?_) q4 O' E' st' a' q5 q6 q7
        · rw [hM']
          by_cases hij : j = i
          · subst hij
            have : j < listed.size := by omega
            simp [Array.getD, this]
          · have : (listed.setIfInBounds j true).getD i true = listed.getD i true := by
              simp [Array.getD_eq_getD_getElem?, Array.getElem?_setIfInBounds_ne hij]
            rw [this, hli i hi]
            have : i ≠ j := fun h => hij h.symm
            simp [this]
        · rw [hM'] at hqm hmm
          by_cases hqj : q = j
          · subst hqj; exact hdj m hm hmm.1
          · exact hcl q hq (fun h => hqm ⟨h, hqj⟩) m hm hmm.1
      have hco0 := hco
      unfold cOper at hco0
      simp only [Option.bind_eq_bind, Option.bind_eq_some_iff] at hco0
      obtain ⟨aop', hop, g, hg, hco0⟩ := hco0
      split at hco0 <;> try (cases hco0; done)
      rename_i hdN
      have hao := Option.some.inj hco0
      cases hjl : aops[j].late with
      | true =>
        -- the block is made, and kept for later
        obtain ⟨d, zz, po, rs, hx⟩ := late_inv hjl
        rw [hx] at hbb
        have e1 : aop' = .alloc zz ∧ o.dst = some d ∧ g = none := by
          rw [← hao] at hbb
          injection hbb with b1 b2 b3 b4
          refine ⟨?_, b1, b3⟩
          cases fz <;> cases aop' <;> simp [AOp.frz] at b2 <;> simp [b2]
        obtain ⟨rfl, hdst, rfl⟩ := e1
        obtain ⟨t, hot, hz⟩ := cOp_alloc hop
        obtain ⟨ti, v, hi, hv, hb, _⟩ := zeroB_info hz
        have hgu : o.guard = none := by
          unfold cGuard at hg
          split at hg
          · assumption
          · simp only [Option.bind_eq_bind, Option.bind_eq_some_iff, Option.pure_def, Option.some.injEq] at hg
            obtain ⟨_, _, hg⟩ := hg
            cases hg
        have hrun : (execOp a.eval o).run P E.w = .ok (.value (.pointer (some ⟨E.w.heap.size, 0, none⟩))) (E.w.alloc (.cells v.cells t)) := by
          simp [execOp, hot, Instr.alloc, zeroValue, typeInfo, hi, hv, newVar, newRow]
        rw [hdst] at hdN
        have hdlt : d < N := by simpa using hdN
        have H := Lv.S.H
        have Y := H.ext_junk (.cells v.cells t)
        have hE : E.w.alloc (.cells v.cells t) = (E.junk (.cells v.cells t)).w := rfl
        have S1 : SRel (E.junk (.cells v.cells t)) N z ⟨putD (some d) .undef (mask D st.tm), st.hp, st.hn, st.n0⟩ (a.put (some d) (.pointer (some ⟨E.w.heap.size, 0, none⟩))) :=
          SRel.put (dst := some d) (tm := mask D st.tm) Lv.S Y (H.junk _) Lv.S.hn (.undef ..) (by simpa using hdlt)
        have L1 := Lv.ext C.step Y S1 (ghost_put (dst := some d) (by simpa using hdlt) Lv.S.NG) (put_defers ..)
        have Yst := Y.stp O
        simp only [wpOpIn, ho]
        rw [if_pos (by simp [Region.wanted, hgu])]
        refine ⟨fun _ _ => trivial, ?_⟩
        rw [semAt_eq hop, hrun, Oper.uponIn_value, hdst, hE]
        have hdiff : ∀ p ∈ D, p.d ≠ d ∧ p.j ≠ j := by
          intro p hp'
          have hpj : p.j ≠ j := fun he => (hP.not p hp').2 (by rw [he]; exact hjM)
          obtain ⟨po', rs', hop'⟩ := hP.op p hp'
          have := late_apart hlate hop' hjo hpj rfl
          rw [hx] at this
          exact ⟨by simpa using this, hpj⟩
        refine next L (⟨j, d, E.w.heap.size, zz⟩ :: D) _ _ st _ hnd hlt (fun i hi _ => hML i hi) hp ⟨fun i hi => ?_, fun p hp' => ?_, fun p hp' => ?_, fun p hp' => ?_, fun p hp' => ?_, ?_⟩ L1 h
        · by_cases hij : i = j
          · subst hij; exact .inr ⟨⟨i, d, E.w.heap.size, zz⟩, by simp, rfl⟩
          · rcases hP.all i hi with h | ⟨p, hp1, hp2⟩
            · exact .inl ((hM' i).2 ⟨h, hij⟩)
            · exact .inr ⟨p, by simp [hp1], hp2⟩
        · rcases List.mem_cons.1 hp' with rfl | hp'
          · exact ⟨hjL, fun h => ((hM' _).1 h).2 rfl⟩
          · exact ⟨(hP.not p hp').1, fun h => (hP.not p hp').2 ((hM' _).1 h).1⟩
        · rcases List.mem_cons.1 hp' with rfl | hp'
          · exact ⟨po, rs, by rw [← hx]; exact hjo⟩
          · exact hP.op p hp'
        · have hN := Lv.S.N
          rcases List.mem_cons.1 hp' with rfl | hp'
          · refine ⟨hdlt, ?_⟩
            simp [Act.put, Array.getD, show d < a.tmps.size by omega]
          · obtain ⟨v1, v2⟩ := hP.val p hp'
            refine ⟨v1, ?_⟩
            rw [← v2]
            have hne : d ≠ p.d := fun h => (hdiff p hp').1 h.symm
            simp [Act.put, Array.getElem?_setIfInBounds_ne hne, Array.getD_eq_getD_getElem?]
        · rcases List.mem_cons.1 hp' with rfl | hp'
          · refine ⟨⟨v.cells, t, ?_, hb⟩, fun hf => ?_, fun hown => ?_, .inr ⟨Nat.le_refl _, by simp [Env.junk]⟩⟩
            · exact World.alloc_heap_new E.w _
            · have := H.frz _ hf; simp at this
            · have := H.own_lt hown; simp at this
          · exact (hP.junk p hp').step Yst
        · rw [List.pairwise_cons]
          refine ⟨fun p hp' => ⟨?_, fun h => (hdiff p hp').1 h.symm, fun h => (hdiff p hp').2 h.symm⟩, hP.apart⟩
          have := (hP.junk p hp').lt
          simp; omega
      | false =>
        obtain ⟨A, B, hLe⟩ := List.append_of_mem hjL
        subst hLe
        obtain ⟨p1, p2, _⟩ := pairs_spec hp
        have hcomm : ∀ i ∈ A, i ∈ M → ∀ x, aops[i]? = some x → commute (tagged i aops[j]) x aops[j] = true := by
          intro i hi hiM x hix
          rcases p1 i hi with h2 | ⟨u, v, hu, hv, hc⟩
          · exact absurd hiM (hbefj i h2)
          · rw [hix] at hu
            rw [hjo] at hv
            obtain rfl := Option.some.inj hu
            obtain rfl := Option.some.inj hv
            rw [Bool.or_eq_true] at hc
            rcases hc with hc | hc
            · exact hc
            · simp [latecom, hjl] at hc
        obtain ⟨A', D', E', st', e1, f1, f2, f3, f4, g1, g2, g3⟩ := settle (R := j :: B) hK (clos M hcl) A [] D O E st a (by simp) (fun i hi hiM x hix => by
            have := hcomm i (by simpa using hi) hiM x hix
            simp only [commute, Bool.and_eq_true, Bool.or_eq_true] at this
            exact ⟨this.1.1.2.imp id And.left, this.1.2, this.2⟩) (by simpa using hnd) (by simpa using hp) (by simpa using hP) Lv (by simpa using h)
        rw [← e1]
        have hjA : j ∉ A' ∧ j ∉ B := by
          rw [List.nodup_append] at f3
          obtain ⟨n1, n2, n3⟩ := f3
          rw [List.nodup_cons] at n2
          exact ⟨fun hh => n3 j hh j (by simp) rfl, n2.1⟩
        obtain ⟨p1', p2', p3'⟩ := pairs_spec f4
        have hL : (A' ++ j :: B).filterMap (aops[·]?) = A'.filterMap (aops[·]?) ++ aops[j] :: B.filterMap (aops[·]?) := by
          rw [List.filterMap_append, List.filterMap_cons, hjo]
        rw [hL] at g3
        have htag : ∀ i x, aops[i]? = some x → tagged i aops[j] = true → ∃ y ∈ aops[j].rs, y.1 = i ∧ y.2 = x.op := by
          intro i x hix ht
          obtain ⟨y, hy, rfl⟩ := tagged_spec ht
          have := hrs j _ hjo y hy
          rw [hix] at this
          exact ⟨y, hy, rfl, (Option.some.inj this).symm⟩
        have hpw := (List.pairwise_append.1 (pairs_pw f4)).1
        have hb := bubble hK (A'.filterMap (aops[·]?)) [] st' (fun x hx => by
          obtain ⟨i, hi, hix⟩ := List.mem_filterMap.1 hx
          refine ⟨_, hcomm i (by simpa using (f1 i hi).2) (f1 i hi).1 x hix, fun ht => ?_⟩
          obtain ⟨y, hy, hy1, hy2⟩ := htag i x hix ht
          exact ⟨y, hy, hy2, by rw [← hy2]; exact rel_spec hrel hjo hix hy (.inl hy1.symm) (p3' i hi)⟩) (by
          rw [List.pairwise_filterMap]
          refine hpw.imp_of_mem fun {a b} ha hb hab x hx y hy => ?_
          cases ht : tagged a aops[j] with
          | false =>
            have := hcomm a (by simpa using (f1 a ha).2) (f1 a ha).1 x hx
            rw [ht] at this
            exact .inl this
          | true =>
            obtain ⟨z, hz, hz1, hz2⟩ := htag a x hx ht
            exact .inr (by rw [← hz2]; exact rel_spec hrel hjo hy hz (.inr (by rw [hz1]; exact hab)) (p3' b hb))) (by simp) g3
        have hb' : stepD P { aops[j] with rs := [] } st' fun st => wpD P ((A' ++ B).filterMap (aops[·]?)) st Kn := by rw [List.filterMap_append]; exact hb
        -- those that are still pending stand behind it
        have hpB : ∀ p ∈ D', p.d ∉ aops[j].looks ∧ aops[j].dst ≠ some p.d := by
          intro p hp'
          obtain ⟨q1, q2⟩ := g1.not p hp'
          have hpj : p.j ≠ j := fun he => q2 (by rw [he]; exact hjM)
          have hin : p.j ∈ B := by
            rcases List.mem_append.1 q1 with h | h
            · exact absurd (f1 _ h).1 q2
            · rcases List.mem_cons.1 h with h | h
              · exact absurd h hpj
              · exact h
          obtain ⟨B1, B2, hBe⟩ := List.append_of_mem hin
          have f4' : pairsOK (befOf ops) aops ((A' ++ j :: B1) ++ p.j :: B2) = true := by
            rw [hBe] at f4
            simpa using f4
          obtain ⟨p3, _, _⟩ := pairs_spec f4'
          obtain ⟨po', rs', hop'⟩ := g1.op p hp'
          rcases p3 j (by simp) with h2 | ⟨u, v, hu, hv, hc⟩
          · exact absurd hjM (clos M hcl p.j q2 j h2)
          · rw [hjo] at hu
            rw [hop'] at hv
            obtain rfl := Option.some.inj hu
            obtain rfl := Option.some.inj hv
            have hh : notIn (some p.d) aops[j].looks = true ∧ (match aops[j].dst, some p.d with | some a, some b => a != b | _, _ => true) = true := by
              rw [Bool.or_eq_true] at hc
              rcases hc with hc | hc
              · simp only [commute, Bool.and_eq_true] at hc
                exact ⟨hc.1.1.1.1.2, hc.1.1.1.2⟩
              · simp only [latecom, Bool.and_eq_true] at hc
                exact ⟨hc.1.2, hc.2⟩
            refine ⟨fun hm => by have := hh.1; simp [notIn, hm] at this, fun he => ?_⟩
            have := hh.2
            rw [he] at this
            simp at this
        have hGD : ∀ p ∈ D', p.d ≠ G := fun p hp' => by have := (g1.val p hp').1; have := Lv.S.NG; omega
        have hm := stepD_mask (o := { aops[j] with rs := [] }) (wpD_closed hK _) (fun p hp' => (hpB p hp').1) (fun p hp' => (hpB p hp').2) hGD rfl hb'
        have hmG := stepD_G hm
        have hdst : o.dst = aops[j].dst := by rw [← hbb, ← hao]
        refine oper_sound' C (next := fun st2 => ∃ st0, wpD P ((A' ++ B).filterMap (aops[·]?)) st0 Kn ∧ StEq ⟨mask D' st0.tm, st0.hp, st0.hn, st0.n0⟩ st2) ho hco g2 (by rw [← hbb] at hmG; exact hmG) fun O2 E2 st2 a2 L2 hn2 hput Y2 => ?_
        obtain ⟨st0, w0, heq⟩ := hn2
        obtain ⟨u, rfl⟩ := hput
        have hnd' : (A' ++ B).Nodup := by
          rw [List.nodup_append] at f3 ⊢
          obtain ⟨n1, n2, n3⟩ := f3
          rw [List.nodup_cons] at n2
          exact ⟨n1, n2.2, fun a ha b hb => n3 a ha b (by simp [hb])⟩
        refine next (A' ++ B) D' O2 E2 st0 _ hnd' (fun i hi => ?_) (fun i hi hij => ?_) p2' ⟨fun i hi => ?_, fun p hp' => ?_, g1.op, fun p hp' => ?_, fun p hp' => (g1.junk p hp').step Y2, g1.apart⟩ (L2.eq heq.symm) w0
        · rcases List.mem_append.1 hi with h | h
          · exact hlt i (by have := (f1 i h).2; simp at this; simp [this])
          · exact hlt i (by simp [h])
        · have := hML i hi
          simp only [List.mem_append, List.mem_cons] at this ⊢
          rcases this with h | h | h
          · exact .inl (f2 i (by simpa using h) hi)
          · exact absurd h hij
          · exact .inr h
        · have hij : i ≠ j := by
            rintro rfl
            rcases List.mem_append.1 hi with h | h
            · exact hjA.1 h
            · exact hjA.2 h
          rcases g1.all i (by simp at hi ⊢; rcases hi with h | h <;> simp [h]) with h | h
          · exact .inl ((hM' i).2 ⟨h, hij⟩)
          · exact .inr h
        · obtain ⟨q1, q2⟩ := g1.not p hp'
          have hpj : p.j ≠ j := fun he => q2 (by rw [he]; exact hjM)
          refine ⟨?_, fun h => q2 ((hM' _).1 h).1⟩
          simp only [List.mem_append, List.mem_cons] at q1 ⊢
          rcases q1 with h | h | h
          · exact .inl h
          · exact absurd h hpj
          · exact .inr h
        · obtain ⟨v1, v2⟩ := g1.val p hp'
          refine ⟨v1, ?_⟩
          rw [← v2]
          have hne : o.dst ≠ some p.d := by rw [hdst]; exact (hpB p hp').2
          cases hod : o.dst with
          | none => rfl
          | some d =>
            rw [hod] at hne
            have hne : d ≠ p.d := fun h => hne (by rw [h])
            simp [Act.put, Array.getElem?_setIfInBounds_ne hne, Array.getD_eq_getD_getElem?]

end

end Go.AL
