/- Slices that grow. Seat-independent. -/
import Derived.Test.YtdjnndcdplgojaaAL4
import Derived.Laws.AppendOwn
import Derived.Laws.NewFold
namespace Go.AL
variable {E : Env} {h : AHeap}

def Env.drew (E : Env) : Env := { E with w := E.w.drew }
def Env.kill (E : Env) (k : Nat) : Env := { E with S := ⟨E.S.ρ, E.S.sh.set k none⟩ }

theorem HRel.ext_drew (H : HRel E h) : Ext E E.drew :=
  ⟨rfl, rfl, rfl, Nat.le_refl _, fun _ h => h, fun _ _ _ => rfl, fun _ _ h => h, fun _ _ _ h => h, H.rlen, fun _ h => .inl h, fun _ h => .inl h, fun _ c e f h => ⟨c, e, f, h, rfl, rfl⟩, fun _ es q h => ⟨es, q, h⟩, H.off⟩

theorem HRel.drew (H : HRel E h) : HRel E.drew h := by
  refine ⟨H.sh, H.len, fun k b hk => ?_, H.inj, H.frz⟩
  obtain ⟨h0, cb, base, c, e, h1, h2, h3, h4, h5⟩ := H.blk k b hk
  refine ⟨h0, cb, base, c, e, h1, h2, h3, h4, fun i j x hx => ?_⟩
  obtain ⟨v, hv1, hv2⟩ := h5 i j x hx
  exact ⟨v, hv1, inner_mono H.ext_drew H.frz b hv2⟩

theorem HRel.ext_kill (H : HRel E h) (k : Nat) : Ext E (E.kill k) := by
  have live : ∀ (q : Nat) p, (E.S.sh.set k none)[q]? = some (some p) → E.S.sh[q]? = some (some p) := by
    intro q p hq
    rw [List.getElem?_set] at hq
    split at hq
    · split at hq <;> simp at hq
    · exact hq
  exact ⟨rfl, rfl, rfl, Nat.le_refl _, fun _ h => h, fun _ _ _ => rfl, fun _ _ h => h, fun q p _ hq => live q p hq, H.rlen,
    fun b ⟨q, base, p, h1, h2⟩ => .inl ⟨q, base, p, h1, live q p h2⟩, fun _ h => .inl h, fun _ c e f h => ⟨c, e, f, h, rfl, rfl⟩, fun _ es q h => ⟨es, q, h⟩, H.off⟩

theorem HRel.kill (H : HRel E h) (k : Nat) : HRel (E.kill k) (lset h k none) := by
  have live : ∀ (q : Nat) b, (lset h k none)[q]? = some (some b) → h[q]? = some (some b) := by
    intro q p hq
    rw [lset_eq, List.getElem?_set] at hq
    split at hq
    · split at hq <;> simp at hq
    · exact hq
  refine ⟨?_, ?_, fun q b hq => ?_, fun q q' b b' cb ba ba' h1 h2 h3 h4 => H.inj q q' b b' cb ba ba' (live q b h1) (live q' b' h2) h3 h4, H.frz⟩
  · show E.S.sh.set k none = _
    rw [H.sh, lset_eq]
    apply List.ext_getElem?
    intro i
    rw [List.getElem?_map, List.getElem?_set, List.getElem?_set, List.getElem?_map, List.length_map]
    split
    · split <;> rfl
    · rfl
  · show E.S.ρ.length = _
    rw [H.len, lset_eq, List.length_set]
  · obtain ⟨h0, cb, base, c, e, h1, h2, h3, h4, h5⟩ := H.blk q b (live q b hq)
    refine ⟨h0, cb, base, c, e, h1, h2, h3, h4, fun i j x hx => ?_⟩
    obtain ⟨v, hv1, hv2⟩ := h5 i j x hx
    exact ⟨v, hv1, inner_mono (H.ext_kill k) H.frz b hv2⟩

/-- What a slice's receiver and what is appended come to, cell by cell. -/
structure Grows (E : Env) (b b' : ABlk) (i n m : Nat) (ys : List Value) : Prop where
  shape : b'.shape = (b.shape.1, n + m)
  fits : b'.fits
  inb : b.inner E.S = .nil
  inb' : ∀ S, b'.inner S = .nil
  len : ys.length = m * b.shape.1
  one : ∀ v ∈ ys, v.oneCell' = true
  fin : i + n ≤ b.shape.2
  cell : ∀ i' j' x, b'.cell i' j' = some x → j' < b.shape.1 ∧ ((i' < n ∧ b.cell (i + i') j' = some x) ∨
    (n ≤ i' ∧ i' < n + m ∧ ∃ v, ys[(i' - n) * b.shape.1 + j']? = some v ∧ Go.AL.Rel E.w E.F .nil x v))
  cb : b.isM = false := by first | rfl | assumption
  cb' : b'.isM = false := by first | rfl | assumption

/-- In place. -/
theorem grow_in (P : Program) (H : HRel E h) {k : Nat} {b b' : ABlk} (hk : h[k]? = some (some b)) {cb base : Nat} (hr : E.S.ρ[k]? = some (cb, base)) {i n m : Nat} {ys : List Value}
    (G : Grows E b b' i n m ys) {cap : Nat} (hcap : ∃ c e f, E.w.heap[cb]? = some (Obj.cells c e f) ∧ base + (i + cap) * b.shape.1 ≤ c.size) (hfit : n + m ≤ cap) {off : Nat}
    (hoff : cap = 0 ∨ off = base + i * b.shape.1) :
    ∃ E', (storeCells ⟨cb, off + n * b.shape.1, none⟩ ys 0).run P E.w = .ok () E'.w ∧ Ext E E' ∧ HRel E' (lset h k none ++ [some b']) ∧
      E'.R (.sl h.length 0 (n + m)) (.slice (some ⟨cb, off, none⟩) (n + m) cap) := by
  obtain ⟨h0, cb₁, base₁, c, e, h1, h2, h3, h4, h5⟩ := H.cblk k b hk G.cb
  rw [hr] at h1
  obtain ⟨rfl, rfl⟩ := Prod.mk.inj (Option.some.inj h1)
  obtain ⟨c₁, e₁, f₁, hc1, hc2⟩ := hcap
  rw [h2] at hc1
  obtain ⟨rfl, rfl, -⟩ := Obj.cells.inj (Option.some.inj hc1)
  generalize hs : b.shape.1 = s at *
  have hns : (n + m) * s ≤ cap * s := Nat.mul_le_mul_right _ hfit
  rw [Nat.add_mul] at hns hc2
  have hfitc : base + i * s + n * s + ys.length ≤ c.size := by rw [G.len, hs]; omega
  have hst := run_storeCells_at P cb (base + i * s + n * s) e ys 0 c E.w h2 (by simpa using hfitc) G.one
  simp only [Nat.add_zero] at hst
  generalize hc' : (c.toList.take (base + i * s + n * s) ++ ys ++ c.toList.drop (base + i * s + n * s + ys.length)).toArray = c' at hst
  have hsz : c'.size = c.size := by rw [← hc']; simp; omega
  have hget : ∀ p : Nat, c'[p]? = if base + i * s + n * s ≤ p ∧ p < base + i * s + n * s + ys.length then ys[p - (base + i * s + n * s)]? else c[p]? := by
    intro p
    rw [← hc', List.getElem?_toArray, List.getElem?_append, List.getElem?_append]
    generalize ho : base + i * s + n * s = o at *
    have ht : (c.toList.take o).length = o := by simp; omega
    simp only [List.length_append, ht]
    by_cases hp1 : p < o
    · rw [if_pos (by omega), if_pos hp1, if_neg (by omega)]
      rw [List.getElem?_take, if_pos hp1]; simp
    · by_cases hp2 : p < o + ys.length
      · rw [if_pos hp2, if_neg hp1, if_pos ⟨by omega, hp2⟩]
      · rw [if_neg hp2, if_neg (by omega), List.getElem?_drop, show o + ys.length + (p - (o + ys.length)) = p by omega]; simp
  have hown := H.own_of hk hr
  have hklt : k < h.length := (List.getElem?_eq_some_iff.1 hk).1
  have X1 := H.ext_setRow hown h2 hsz
  have H1 : HRel (E.kill k) (lset h k none) := H.kill k
  let E' : Env := { w := E.w.setRow cb c', F := E.F, S := ⟨E.S.ρ ++ [(cb, base + i * s)], E.S.sh.set k none ++ [some b'.shape]⟩ }
  have live : ∀ (q : Nat) p, q < E.S.sh.length → E'.S.sh[q]? = some (some p) → E.S.sh[q]? = some (some p) ∧ q ≠ k := by
    intro q p hq hp
    simp only [E'] at hp
    rw [List.getElem?_append_left (by simpa using hq), List.getElem?_set] at hp
    split at hp
    · split at hp <;> simp at hp
    · rename_i hne; exact ⟨hp, fun e => hne e.symm⟩
  have hlen : E.S.ρ.length = h.length := H.len
  have hslen : E.S.sh.length = h.length := by rw [← H.rlen]; exact H.len
  have X : Ext E E' := by
    refine ⟨rfl, rfl, rfl, by simp [E'], fun _ h => h, X1.same, fun q p hq => ?_, fun q p hq hp => (live q p hq hp).1, H.rlen, fun q hq => ?_, fun _ h => .inl h, X1.cap, X1.mcap, H.off⟩
    · simp only [E']; rw [List.getElem?_append_left (List.getElem?_eq_some_iff.1 hq).1]; exact hq
    · obtain ⟨q', ba, p, r1, r2⟩ := hq
      left
      by_cases hlt : q' < h.length
      · simp only [E'] at r1
        rw [List.getElem?_append_left (by omega)] at r1
        exact ⟨q', ba, p, r1, (live q' p (by omega) r2).1⟩
      · simp only [E'] at r1
        rw [List.getElem?_append_right (by omega)] at r1
        have : q' - E.S.ρ.length = 0 := by
          rcases Nat.eq_zero_or_pos (q' - E.S.ρ.length) with h | h
          · exact h
          · rw [List.getElem?_eq_none (by simp; omega)] at r1; cases r1
        rw [this] at r1
        simp at r1
        rw [← r1.1]; exact hown
  have lowcell : ∀ (q : Nat) bq, q ≠ k → h[q]? = some (some bq) → ∀ cbq baq, E.S.ρ[q]? = some (cbq, baq) → cbq ≠ cb := by
    intro q bq hne hq cbq baq hrq he
    subst he
    exact hne (H.inj q k bq b _ _ _ hq hk hrq hr)
  have hst' : (storeCells ⟨cb, off + n * s, none⟩ ys 0).run P E.w = .ok () E'.w := by
    rcases hoff with h0' | h0'
    · have : ys = [] := by
        apply List.eq_nil_of_length_eq_zero
        rw [G.len, show m = 0 by omega, Nat.zero_mul]
      subst this
      rw [show (storeCells ⟨cb, off + n * s, none⟩ [] 0) = storeCells ⟨cb, base + i * s + n * s, none⟩ [] 0 from rfl]
      exact hst
    · rw [h0']; exact hst
  refine ⟨E', hst', X, ?_, ?_⟩
  · refine ⟨?_, ?_, fun q bq hq => ?_, ?_, fun b hb => by simp only [E', setRow_size]; exact H.frz b hb⟩
    · simp only [E', List.map_append, List.map_cons, List.map_nil, Option.map_some]
      congr 1
      exact H1.sh
    · simp [E', lset_eq, hlen]
    · by_cases hlt : q < h.length
      · rw [List.getElem?_append_left (by simpa [lset_eq] using hlt), lset_eq, List.getElem?_set] at hq
        by_cases hkq : k = q
        · rw [if_pos hkq] at hq; split at hq <;> simp at hq
        · rw [if_neg hkq] at hq
          obtain ⟨g0, cbq, baq, cq, eq, g1, g2, g3, g4, g5⟩ := H.blk q bq hq
          refine ⟨g0, cbq, baq, cq, eq, X.rho _ _ g1, ?_, g3, g4, fun i j x hx => ?_⟩
          · rw [← g2]; exact setRow_other _ _ _ (lowcell q bq (Ne.symm hkq) hq _ _ g1)
          · obtain ⟨v, hv1, hv2⟩ := g5 i j x hx
            exact ⟨v, hv1, inner_mono X H.frz bq hv2⟩
      · rw [List.getElem?_append_right (by simpa [lset_eq] using hlt)] at hq
        have hq0 : q - (lset h k none).length = 0 := by
          rcases Nat.eq_zero_or_pos (q - (lset h k none).length) with h | h
          · exact h
          · rw [List.getElem?_eq_none (by simp; omega)] at hq; cases hq
        have hqe : q = h.length := by simp [lset_eq] at hq0; omega
        rw [hq0] at hq
        simp at hq
        subst hq
        refine ⟨G.fits, cb, base + i * s, c', e, ?_, by rw [ABlk.obj_of G.cb']; exact setRow_heap _ _ _ _ _ _ h2, h3, ?_, fun i' j' x hx => ?_⟩
        · simp only [E']; rw [hqe, List.getElem?_append_right (by omega)]; simp [hlen]
        · rw [ABlk.room_of G.cb', G.shape, hsz]
          simp only [hs]
          rw [Nat.add_mul]
          omega
        · rw [G.inb', G.shape]
          simp only [hs]
          obtain ⟨hj, hcase⟩ := G.cell i' j' x hx
          rw [hs] at hj hcase
          have mono0 : ∀ {x v}, Go.AL.Rel E.w E.F .nil x v → Go.AL.Rel E'.w E'.F .nil x v := fun {x v} hx =>
            Rel.mono X.frz (fun b o hb => cell_of_heap (X.same b (H.frz b hb) (X.off b hb)) _ _) hx _ (fun _ _ h => h) (fun _ _ _ _ h => h) X.cap
          rcases hcase with ⟨hlt', hcell⟩ | ⟨hge, hlt', v, hv, hR⟩
          · obtain ⟨v, hv1, hv2⟩ := h5 (i + i') j' x hcell
            rw [G.inb] at hv2
            refine ⟨v, ?_, mono0 hv2⟩
            have : i' * s + s ≤ n * s := by rw [← Nat.succ_mul]; exact Nat.mul_le_mul_right _ hlt'
            rw [hget, if_neg (by omega), ← hv1, Nat.add_mul]
            congr 1; omega
          · refine ⟨v, ?_, mono0 hR⟩
            have e1 : i' * s = n * s + (i' - n) * s := by rw [← Nat.add_mul, show n + (i' - n) = i' by omega]
            have e2 : (i' - n) * s + s ≤ m * s := by rw [← Nat.succ_mul]; exact Nat.mul_le_mul_right _ (by omega)
            rw [hget, if_pos (by rw [G.len, hs]; omega), ← hv]
            congr 1; omega
    · intro q q' bq bq' cb₁ ba ba' r1 r2 r3 r4
      have key : ∀ (j : Nat) bj base', (lset h k none ++ [some b'])[j]? = some (some bj) → E'.S.ρ[j]? = some (cb₁, base') →
          (h[j]? = some (some bj) ∧ j ≠ k ∧ E.S.ρ[j]? = some (cb₁, base')) ∨ (j = h.length ∧ cb₁ = cb) := by
        intro j bj base' hj hrj
        simp only [E'] at hrj
        by_cases hlt : j < h.length
        · rw [List.getElem?_append_left (by simpa [lset_eq] using hlt), lset_eq, List.getElem?_set] at hj
          rw [List.getElem?_append_left (by omega)] at hrj
          by_cases hkj : k = j
          · rw [if_pos hkj] at hj; split at hj <;> simp at hj
          · rw [if_neg hkj] at hj; exact .inl ⟨hj, Ne.symm hkj, hrj⟩
        · have hj' : j = h.length := by
            rcases Nat.lt_or_ge h.length j with h' | h'
            · rw [List.getElem?_eq_none (by simp [lset_eq]; omega)] at hj; cases hj
            · omega
          subst hj'
          rw [List.getElem?_append_right (by omega), hlen] at hrj
          simp at hrj
          exact .inr ⟨rfl, hrj.1.symm⟩
      rcases key q bq ba r1 r3 with ⟨a1, a2, a3⟩ | ⟨a1, a2⟩ <;> rcases key q' bq' ba' r2 r4 with ⟨b1, b2, b3⟩ | ⟨b1, b2⟩
      · exact H.inj _ _ _ _ _ _ _ a1 b1 a3 b3
      · exact absurd b2 (lowcell q bq a2 a1 _ _ a3)
      · exact absurd a2 (lowcell q' bq' b2 b1 _ _ b3)
      · omega
  · refine .sl _ _ _ _ cb (base + i * s) _ _ ?_ (fun s' N hN => ?_) hfit
    rotate_left
    · simp only [E'] at hN
      rw [List.getElem?_append_right (by simp; omega)] at hN
      have : h.length - (E.S.sh.set k none).length = 0 := by simp; omega
      rw [this] at hN
      simp only [List.getElem?_cons_zero, Option.some.injEq] at hN
      rw [G.shape] at hN
      obtain ⟨rfl, rfl⟩ := Prod.mk.inj hN
      rw [hs]
      exact ⟨by omega, by omega, by omega, c', e, (0, 0), setRow_heap _ _ _ _ _ _ h2, by rw [hsz]; simp only [Nat.zero_add]; omega⟩
    · simp only [E']; rw [List.getElem?_append_right (by omega)]; simp [hlen]

/-- Into a new block. -/
theorem grow_new (_P : Program) (H : HRel E h) {k : Nat} {b b' : ABlk} (hk : h[k]? = some (some b)) {cb base : Nat} (hr : E.S.ρ[k]? = some (cb, base)) {i n m : Nat} {ys : List Value}
    (G : Grows E b b' i n m ys) (rest : List Value) (elem : TypeId) {cap : Nat} (hcap : cap * b.shape.1 = (n + m) * b.shape.1 + rest.length) (hcap2 : n + m ≤ cap) :
    ∃ os : List Value, os.length = n * b.shape.1 ∧ At E.w ⟨cb, base + i * b.shape.1, none⟩ os ∧ ∃ E', E'.w = E.w.drew.alloc (.cells (os ++ ys ++ rest).toArray elem) ∧ Ext E E' ∧
      HRel E' (lset h k none ++ [some b']) ∧ E'.R (.sl h.length 0 (n + m)) (.slice (some ⟨E.w.heap.size, 0, none⟩) (n + m) cap) := by
  obtain ⟨h0, cb₁, base₁, c, e, h1, h2, h3, h4, h5⟩ := H.cblk k b hk G.cb
  rw [hr] at h1
  obtain ⟨rfl, rfl⟩ := Prod.mk.inj (Option.some.inj h1)
  generalize hs : b.shape.1 = s at *
  have hklt : k < h.length := (List.getElem?_eq_some_iff.1 hk).1
  have hfin := G.fin
  have hN : (i + n) * s ≤ b.shape.2 * s := Nat.mul_le_mul_right _ hfin
  rw [Nat.add_mul] at hN
  refine ⟨(c.toList.drop (base + i * s)).take (n * s), by simp; omega, ?_, ?_⟩
  · intro q v hq
    rw [add_plain]
    rw [List.getElem?_take] at hq
    split at hq
    · rw [List.getElem?_drop] at hq
      simp [World.cell?, h2]
      simpa using hq
    · cases hq
  · generalize hos : (c.toList.drop (base + i * s)).take (n * s) = os
    have hol : os.length = n * s := by rw [← hos]; simp; omega
    have hoget : ∀ q, q < n * s → os[q]? = c[base + i * s + q]? := by
      intro q hq
      rw [← hos, List.getElem?_take, if_pos hq, List.getElem?_drop]
      simp
    have Hd := H.drew
    have Hp := Hd.push b' (os ++ ys ++ rest).toArray elem G.fits (by
        rw [G.shape]; simp only [hs, List.size_toArray, List.length_append, hol, G.len]; rw [Nat.add_mul]; omega) (fun i' j' x hx => by
      rw [G.inb', G.shape]
      simp only [hs]
      obtain ⟨hj, hcase⟩ := G.cell i' j' x hx
      rw [hs] at hj hcase
      have mono0 : ∀ {x v}, Go.AL.Rel E.w E.F .nil x v → Go.AL.Rel E.drew.w E.drew.F .nil x v := fun {x v} hx =>
        Rel.mono (w := E.w) (F := E.F) (w' := E.drew.w) (F' := E.drew.F) (fun _ h => h) (fun b o hb => rfl) hx _ (fun _ _ h => h) (fun _ _ _ _ h => h) fun b c e f h => ⟨c, e, f, h, rfl, rfl⟩
      rcases hcase with ⟨hlt', hcell⟩ | ⟨hge, hlt', v, hv, hR⟩
      · obtain ⟨v, hv1, hv2⟩ := h5 (i + i') j' x hcell
        rw [G.inb] at hv2
        refine ⟨v, ?_, mono0 hv2⟩
        have : i' * s + s ≤ n * s := by rw [← Nat.succ_mul]; exact Nat.mul_le_mul_right _ hlt'
        rw [List.getElem?_toArray, List.getElem?_append_left (by simp; omega), List.getElem?_append_left (by omega), hoget _ (by omega), ← hv1, Nat.add_mul]
        congr 1; omega
      · refine ⟨v, ?_, mono0 hR⟩
        have e1 : i' * s = n * s + (i' - n) * s := by rw [← Nat.add_mul, show n + (i' - n) = i' by omega]
        have e2 : (i' - n) * s + s ≤ m * s := by rw [← Nat.succ_mul]; exact Nat.mul_le_mul_right _ (by omega)
        have hyl := G.len
        rw [hs] at hyl
        rw [List.getElem?_toArray, List.getElem?_append_left (by simp; omega), List.getElem?_append_right (by omega), ← hv]
        congr 1; omega) G.cb'
    have Hk := Hp.kill k
    have hl : lset (h ++ [some b']) k none = lset h k none ++ [some b'] := by
      rw [lset_eq, lset_eq, List.set_append, if_pos hklt]
    rw [hl] at Hk
    refine ⟨_, rfl, (H.ext_drew.trans (Hd.ext_push _ _)).trans (Hp.ext_kill k), Hk, ?_⟩
    refine .sl _ _ _ _ E.w.heap.size 0 _ _ ?_ (fun s' N hN => ?_) hcap2
    · show (E.S.ρ ++ [(E.w.heap.size, 0)])[h.length]? = _
      rw [← H.len]; simp
    · have hN' : ((E.S.sh ++ [some b'.shape]).set k none)[h.length]? = some (some (s', N)) := hN
      have hsl : E.S.sh.length = h.length := by rw [← H.rlen, H.len]
      rw [List.getElem?_set, if_neg (by omega), ← hsl] at hN'
      simp at hN'
      rw [G.shape] at hN'
      obtain ⟨rfl, rfl⟩ := Prod.mk.inj hN'
      rw [hs]
      refine ⟨by omega, by omega, by omega, (os ++ ys ++ rest).toArray, elem, (0, 0), ?_, ?_⟩
      · show (E.w.heap.push _)[E.w.heap.size]? = _
        simp
      · simp only [Nat.zero_add, List.size_toArray, List.length_append, hol, G.len, hs]
        rw [hcap, Nat.add_mul]
        omega

end Go.AL

/-! Operations that call nothing. Seat-independent. -/

namespace Go.AL
variable {E : Env} {h : AHeap} {P : Program}

theorem mapM_get {α β : Type} {f : α → Option β} : ∀ {l : List α} {r : List β}, l.mapM f = some r →
    r.length = l.length ∧ ∀ (i : Nat) x y, l[i]? = some x → r[i]? = some y → f x = some y
  | [], r, h => by simp at h; subst h; simp
  | x :: l, r, h => by
    simp only [List.mapM_cons, Option.bind_eq_bind, Option.bind_eq_some_iff, Option.pure_def, Option.some.injEq] at h
    obtain ⟨y, hy, ys, hys, rfl⟩ := h
    obtain ⟨h1, h2⟩ := mapM_get hys
    refine ⟨by simp [h1], fun i a b ha hb => ?_⟩
    cases i with
    | zero => simp at ha hb; subst ha hb; exact hy
    | succ i => exact h2 i a b (by simpa using ha) (by simpa using hb)

theorem cLeaf_rel {v : Value} {x : AV} (hc : cLeaf v = some x) (w F S) : Rel w F S x v := by
  unfold cLeaf at hc
  split at hc <;> simp at hc <;> subst hc
  · exact .int ..
  · exact .bool ..
  · exact .str ..
  · exact .pnil ..
  · exact .snil ..
  · exact .fnil ..
  · exact .inil ..
  · exact .mnil ..

theorem cLeaf_leaf {v : Value} {x : AV} (hc : cLeaf v = some x) : leaf x = true ∧ closed x = true := by
  unfold cLeaf at hc
  split at hc <;> simp at hc <;> subst hc <;> exact ⟨rfl, rfl⟩

theorem cVal_rel {v : Value} {x : AV} (hc : cVal v = some x) (w F S) : Rel w F S x v := by
  unfold cVal at hc
  split at hc
  · rename_i cs
    simp only [Option.map_eq_some_iff] at hc
    obtain ⟨l, hl, rfl⟩ := hc
    obtain ⟨h1, h2⟩ := mapM_get hl
    refine .agg _ _ _ (by simpa using h1) fun i c v hc hv => ?_
    exact cLeaf_rel (h2 i v c (by simpa using hv) hc) w F S
  · split at hc
    · obtain rfl := Option.some.inj hc; exact .undef ..
    · cases hc
  · exact cLeaf_rel hc w F S

def TRel (E : Env) (tm : List (Nat × AV)) (a : Act) : Prop := ∀ t : Nat, E.R (look tm t) (a.tmps.getD t undef)

theorem cOpd_rel {tm : List (Nat × AV)} {a : Act} (T : TRel E tm a) {x : Operand} {y : Opd} (hc : cOpd x = some y) : E.R (ev tm y) (a.eval x) := by
  unfold cOpd at hc
  split at hc
  · obtain rfl := Option.some.inj hc; exact T _
  · simp only [Option.map_eq_some_iff] at hc
    obtain ⟨v, hv, rfl⟩ := hc
    exact cVal_rel hv ..
  · obtain rfl := Option.some.inj hc
    exact .fn _ _ _ _ rfl (by simp)
  · cases hc

theorem TRel.ext {E E' : Env} {tm : List (Nat × AV)} {a : Act} (T : TRel E tm a) (X : Ext E E') (hz : ∀ b, E.F b → b < E.w.heap.size) : TRel E' tm a :=
  fun t => Rel.ext X hz (T t)

/-- What an operation comes to. -/
def Runs (P : Program) (s : Sem Next) (E : Env) (hp : AHeap) (v : AV) (e : Eff) : Prop :=
  ∃ E' u, (s.run P E.w = .ok (.value u) E'.w ∨ (s.run P E.w = .ok .skip E'.w ∧ u = undef)) ∧ Ext E E' ∧ HRel E' (e.app hp) ∧ E'.R v u

theorem Runs.keep (H : HRel E h) {s : Sem Next} {v : AV} {u : Value} (hr : s.run P E.w = .ok (.value u) E.w) (hv : E.R v u) : Runs P s E h v .keep :=
  ⟨E, u, .inl hr, H.ext_refl, H, hv⟩

theorem run_sizeOf' {t : TypeId} {s : Nat} (h : sizeB P t = some s) (w : World) : (sizeOf t).run P w = .ok s w := by
  unfold sizeB at h
  cases hi : P.info? t with
  | none => simp [hi] at h
  | some i => simp [hi] at h; simp [sizeOf, typeInfo, hi, h]

theorem run_isAgg' {t : TypeId} {g : Bool} (h : isAggB P t = some g) (w : World) : (isAgg t).run P w = .ok g w := by
  unfold isAggB at h
  unfold isAgg
  cases hd : P.underlying t with
  | none => simp [hd] at h
  | some d =>
    rw [hd] at h
    cases d <;> simp at h <;> subst h <;> simp [run_underlying hd]

theorem bes_one {x : AV} {v : Value} (h : E.R x v) : Bes E [x] [v] :=
  ⟨rfl, fun q y u hy hu => by
    match q, hy, hu with
    | 0, hy, hu =>
      simp only [List.getElem?_cons_zero, Option.some.injEq] at hy hu
      subst hy hu
      exact h⟩

/-- The cells of a value. -/
theorem cells_bes {x : AV} {v : Value} (hr : E.R x v) (hl : x ≠ .undef) : Bes E x.cells v.cells.toList := by
  have h0 := hr
  cases hr with
  | undef => exact absurd rfl hl
  | agg _ cs vs h1 h2 => exact ⟨by simpa [AV.cells, Value.cells] using h1, fun q x v hx hv => h2 q x v hx (by simpa [Value.cells] using hv)⟩
  | _ => exact bes_one h0

theorem rel_bool {b : Bool} {v : Value} (h : E.R (.bool b) v) : v = .bool b := by cases h; rfl
theorem rel_int {k : IntKind} {n : Int} {v : Value} (h : E.R (.int k n) v) : v = .int k n := by cases h; rfl
theorem rel_str {s : ByteArray} {v : Value} (h : E.R (.str s) v) : v = .string s := by cases h; rfl
theorem rel_agg {cs : List AV} {v : Value} (h : E.R (.agg cs) v) : ∃ vs : Array Value, v = .agg vs ∧ Bes E cs vs.toList := by
  cases h with
  | agg _ _ vs h1 h2 => exact ⟨vs, rfl, by simpa using h1, fun q x v hx hv => h2 q x v hx (by simpa using hv)⟩
theorem rel_tup {cs : List AV} {v : Value} (h : E.R (.tup cs) v) : ∃ vs : Array Value, v = .tuple vs ∧ Bes E cs vs.toList := by
  cases h with
  | tup _ _ vs h1 h2 => exact ⟨vs, rfl, by simpa using h1, fun q x v hx hv => h2 q x v hx (by simpa using hv)⟩
theorem agg_rel {cs : List AV} {vs : Array Value} (h : Bes E cs vs.toList) : E.R (.agg cs) (.agg vs) :=
  .agg _ _ _ (by simpa using h.1) fun i c v hc hv => h.2 i c v hc (by simpa using hv)

theorem Bes.get {xs : List AV} {vs : List Value} (h : Bes E xs vs) {q : Nat} {x : AV} (hx : xs[q]? = some x) : ∃ v, vs[q]? = some v ∧ E.R x v := by
  have hlt : q < vs.length := by rw [← h.1]; exact (List.getElem?_eq_some_iff.1 hx).1
  exact ⟨vs[q], List.getElem?_eq_getElem hlt, h.2 q x _ hx (List.getElem?_eq_getElem hlt)⟩

/-- A box is made. -/
theorem push_box (H : HRel E h) {xs : List AV} {c : Array Value} (hb : Bes E xs c.toList) (e : TypeId) :
    Ext E (E.push (.cells c e) (xs.length, 1)) ∧ HRel (E.push (.cells c e) (xs.length, 1)) (h ++ [some (.box xs)]) ∧
      (E.push (.cells c e) (xs.length, 1)).R (.bp h.length 0) (.pointer (some ⟨E.w.heap.size, 0, none⟩)) := by
  refine ⟨H.ext_push _ _, H.push (.box xs) c e trivial (by have := hb.1; simp [ABlk.shape]; simp at this; omega) fun i j x hx => ?_, ?_⟩
  · simp only [ABlk.cell] at hx
    split at hx
    · rename_i hi
      subst hi
      obtain ⟨v, hv, hR⟩ := hb.get hx
      exact ⟨v, by simpa using hv, hR⟩
    · cases hx
  · refine .bp _ _ _ E.w.heap.size 0 _ ?_ rfl
    simp [Env.push, ← H.len]

theorem zeroB_info {t : TypeId} {z : List AV} (hz : zeroB P t = some z) : ∃ i v, P.info? t = some i ∧ i.zero = some v ∧ (∀ E : Env, Bes E z v.cells.toList) ∧
    (∀ x ∈ z, leaf x = true ∧ closed x = true) := by
  unfold zeroB at hz
  simp only [Option.bind_eq_bind, Option.bind_eq_some_iff] at hz
  obtain ⟨i, hi, v, hv, hm⟩ := hz
  obtain ⟨h1, h2⟩ := mapM_get hm
  refine ⟨i, v, hi, hv, fun E => ⟨h1, fun q x u hx hu => cLeaf_rel (h2 q u x hu hx) ..⟩, fun x hx => ?_⟩
  obtain ⟨q, hq, rfl⟩ := List.getElem_of_mem hx
  exact cLeaf_leaf (h2 q _ _ (List.getElem?_eq_getElem (by omega)) (List.getElem?_eq_getElem hq))

theorem op_alloc (H : HRel E h) {t : TypeId} {z : List AV} (hz : zeroB P t = some z) :
    Runs P (do pure (.value (← Instr.alloc t true (.tuple #[])))) E h (.bp h.length 0) (.push (.box z)) := by
  obtain ⟨i, v, hi, hv, hb, _⟩ := zeroB_info hz
  obtain ⟨x1, x2, x3⟩ := push_box H (hb E) t
  refine ⟨_, _, .inl ?_, x1, x2, x3⟩
  simp [Instr.alloc, zeroValue, typeInfo, hi, hv, newVar, newRow, Env.push]

theorem op_allocT (H : HRel E h) {t : TypeId} {z : List AV} (hz : zeroB P t = some z) :
    Runs P (do pure (.value (← Instr.alloc t true (.tuple #[])))) E h (.bt h.length t z.length) (.push (.box z)) := by
  obtain ⟨i, v, hi, hv, hb, _⟩ := zeroB_info hz
  obtain ⟨x1, x2, x3⟩ := push_box H (hb E) t
  refine ⟨_, .pointer (some ⟨E.w.heap.size, 0, none⟩), .inl ?_, x1, x2, ?_⟩
  · simp [Instr.alloc, zeroValue, typeInfo, hi, hv, newVar, newRow, Env.push]
  · refine .bt _ _ _ _ E.w.heap.size v.cells (0, 0) ?_ (World.alloc_heap_new E.w _) ?_
    · simp [Env.push, ← H.len]
    · have := (hb E).1; simp at this; omega

theorem op_box (H : HRel E h) (t : TypeId) {x : AV} {v : Value} (hr : E.R x v) :
    Runs P (do pure (.value (← Instr.box t v))) E h (.bp h.length 0) (.push (.box x.cells)) := by
  by_cases hx : x = .undef
  · subst hx
    have X := H.ext_push (.cells v.cells t) (0, 1)
    refine ⟨E.push (.cells v.cells t) (0, 1), .pointer (some ⟨E.w.heap.size, 0, none⟩), .inl ?_, X, H.push (.box []) v.cells t trivial (by simp [ABlk.shape]) (fun i j x hx => ?_), ?_⟩
    · simp [Instr.box, newVar, newRow, Env.push]
    · simp [ABlk.cell] at hx
    · refine .bp _ _ _ E.w.heap.size 0 _ ?_ rfl
      simp [Env.push, ← H.len]
  · obtain ⟨x1, x2, x3⟩ := push_box H (cells_bes hr hx) t
    refine ⟨_, _, .inl ?_, x1, x2, x3⟩
    simp [Instr.box, newVar, newRow, Env.push]

theorem op_load1 (H : HRel E h) {t : TypeId} (ht : isAggB P t = some false) {a : AV} {va : Value} (ha : E.R a va) {v : AV} (hr : readAt h a 1 = some (true, [v])) :
    Runs P (do pure (.value (← Instr.loadAt t va))) E h v .keep := by
  obtain ⟨ad, vs, rfl, h1, _, h2, h3⟩ := readAt_sound H ha hr
  match vs, h1 with
  | [u], _ =>
    refine .keep H (u := u) ?_ (h3 0 v u rfl rfl)
    have := h2 0 u rfl
    have hz : ad.add 0 = ad := by simp [Addr.add]
    rw [hz] at this
    simp [Instr.loadAt, Instr.sureAddr, loadVar, run_isAgg' ht, this]

theorem op_loadN (H : HRel E h) {t : TypeId} (ht : isAggB P t = some true) {n : Nat} (hs : sizeB P t = some n) {a : AV} {va : Value} (ha : E.R a va) {l : List AV}
    (hr : readAt h a n = some (true, l)) : Runs P (do pure (.value (← Instr.loadAt t va))) E h (.agg l) .keep := by
  obtain ⟨ad, vs, rfl, h1, h0, h2, h3⟩ := readAt_sound H ha hr
  refine .keep H (u := .agg vs.toArray) ?_ (agg_rel ⟨by simp [h0, h1], by simpa using h3⟩)
  have := run_loadCells_list (P := P) E.w ad vs h2
  rw [h1] at this
  simp [Instr.loadAt, Instr.sureAddr, loadVar, run_isAgg' ht, run_sizeOf' hs, this]

theorem op_store (H : HRel E h) {t : TypeId} {n : Nat} (hn : n ≠ 0) (hs : sizeB P t = some n) {a x : AV} {va vx : Value} (ha : E.R a va) (hx : E.R x vx) (hl : x.cells.length = n) {e : Eff}
    (hw : writeAt h a x.cells = some (true, e)) : Runs P (do Instr.storeAt t va vx; pure .skip) E h .undef e := by
  have hxu : x ≠ .undef := by rintro rfl; simp [AV.cells] at hl; omega
  have hb := cells_bes hx hxu
  obtain ⟨ad, E', rfl, h1, h2, h3⟩ := writeAt_sound P H ha hb hw
  refine ⟨E', undef, .inr ⟨?_, rfl⟩, h2, h3, .undef ..⟩
  have hsz : vx.cells.size = n := by have := hb.1; simp at this; omega
  simp [Instr.storeAt, Instr.sureAddr, storeVar, run_sizeOf' hs, hsz, h1]

end Go.AL
