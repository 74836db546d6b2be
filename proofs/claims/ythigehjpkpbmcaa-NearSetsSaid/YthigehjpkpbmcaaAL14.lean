/- What isn't needed is dropped. Seat-independent. -/
import Derived.Test.YthigehjpkpbmcaaAL13
namespace Go.AL
variable {E : Env} {h : AHeap} {P : Program}

theorem idx_get : ∀ {keep : List Nat} {b i : Nat}, idx keep b = some i → keep[i]? = some b
  | [], _, _, h => by simp [idx] at h
  | k :: ks, b, i, h => by
    simp only [idx] at h
    split at h
    · rename_i hb
      obtain rfl := Option.some.inj h
      simp [Nat.eq_of_beq_eq_true hb]
    · rw [Option.map_eq_some_iff] at h
      obtain ⟨j, hj, rfl⟩ := h
      simpa using idx_get hj

theorem okKeep_mem : ∀ {keep : List Nat} {n0 hn : Nat}, okKeep n0 hn keep = true → ∀ k ∈ keep, n0 ≤ k ∧ k < hn
  | [], _, _, _, k, hk => by simp at hk
  | x :: xs, n0, hn, h, k, hk => by
    simp only [okKeep, Bool.and_eq_true] at h
    rcases List.mem_cons.1 hk with rfl | hk
    · exact ⟨Nat.le_of_ble_eq_true h.1.1.1, by have := h.1.1.2; simp [Nat.blt_eq] at this; exact this⟩
    · exact okKeep_mem h.2 k hk

theorem okKeep_inj : ∀ {keep : List Nat} {n0 hn : Nat}, okKeep n0 hn keep = true → ∀ (i j : Nat) k, keep[i]? = some k → keep[j]? = some k → i = j
  | [], _, _, _, i, j, k, hi, _ => by simp at hi
  | x :: xs, n0, hn, h, i, j, k, hi, hj => by
    simp only [okKeep, Bool.and_eq_true, Bool.not_eq_true', List.any_eq_false] at h
    have key : ∀ q : Nat, xs[q]? = some x → False := fun q hq => h.1.2 x (List.mem_of_getElem? hq) (by simp)
    cases i with
    | zero =>
      simp only [List.getElem?_cons_zero, Option.some.injEq] at hi
      subst hi
      cases j with
      | zero => rfl
      | succ j => exact (key j (by simpa using hj)).elim
    | succ i =>
      cases j with
      | zero =>
        simp only [List.getElem?_cons_zero, Option.some.injEq] at hj
        subst hj
        exact (key i (by simpa using hi)).elim
      | succ j => rw [okKeep_inj h.2 i j k (by simpa using hi) (by simpa using hj)]

/-- The places behind the dropping. -/
def Shp.gc (S : Shp) (n0 : Nat) (keep : List Nat) : Shp :=
  ⟨S.ρ.take n0 ++ keep.map fun k => (S.ρ[k]?).getD (0, 0), S.sh.take n0 ++ keep.map fun k => (S.sh[k]?).getD none⟩

def Env.gc (E : Env) (n0 : Nat) (keep : List Nat) : Env := { E with S := E.S.gc n0 keep }

/-- New number's place, old number's place. -/
theorem gc_get {S : Shp} {n0 : Nat} {keep : List Nat} (hl : S.ρ.length = S.sh.length) (h0 : n0 ≤ S.ρ.length) (hk : ∀ k ∈ keep, n0 ≤ k ∧ k < S.ρ.length) {b b' : Nat} (hb : newNo n0 keep b = some b') :
    (S.gc n0 keep).ρ[b']? = S.ρ[b]? ∧ (S.gc n0 keep).sh[b']? = S.sh[b]? := by
  unfold newNo at hb
  have t1 : (S.ρ.take n0).length = n0 := by simp; omega
  have t2 : (S.sh.take n0).length = n0 := by simp; omega
  split at hb
  · rw [Option.map_eq_some_iff] at hb
    obtain ⟨i, hi, rfl⟩ := hb
    have hg := idx_get hi
    have hm := hk b (List.mem_of_getElem? hg)
    simp only [Shp.gc]
    rw [List.getElem?_append_right (by omega), List.getElem?_append_right (by omega), t1, t2, show n0 + i - n0 = i by omega, List.getElem?_map, List.getElem?_map, hg]
    simp only [Option.map_some]
    rw [List.getElem?_eq_getElem (show b < S.ρ.length by omega), List.getElem?_eq_getElem (show b < S.sh.length by omega)]
    exact ⟨rfl, rfl⟩
  · rename_i hlt
    obtain rfl := Option.some.inj hb
    have hlt : b < n0 := by
      rcases Nat.lt_or_ge b n0 with h | h
      · exact h
      · rw [Nat.ble_eq_true_of_le h] at hlt; cases hlt
    simp only [Shp.gc]
    rw [List.getElem?_append_left (by omega), List.getElem?_append_left (by omega), List.getElem?_take, List.getElem?_take, if_pos hlt, if_pos hlt]
    exact ⟨rfl, rfl⟩

section
variable {w : World} {F : Nat → Prop} {S S' : Shp} {σ : Nat → Option Nat}

theorem ren0_rel (hσ : ∀ b b', σ b = some b' → S'.ρ[b']? = S.ρ[b]? ∧ S'.sh[b']? = S.sh[b]?) {x : AV} {v : Value} (hr : Rel w F S x v) : Rel w F S' (ren0 σ x) v := by
  cases hr <;> simp only [ren0]
  case int => exact .int ..
  case bool => exact .bool ..
  case str => exact .str ..
  case pnil => exact .pnil ..
  case snil => exact .snil ..
  case semp => exact .semp ..
  case fnil => exact .fnil ..
  case inil => exact .inil ..
  case undef => exact .undef ..
  case bp b j cb base off h1 h2 =>
    cases hs : σ b with
    | none => exact .undef ..
    | some b' => exact .bp _ _ _ cb base _ (by rw [(hσ b b' hs).1]; assumption) ‹_›
  case ep b i j cb base off h1 h2 =>
    cases hs : σ b with
    | none => exact .undef ..
    | some b' => exact .ep _ _ _ _ cb base _ (by rw [(hσ b b' hs).1]; assumption) (by rw [(hσ b b' hs).2]; assumption)
  case rp row j cb base off vs h0 h1 h2 h3 => exact .rp _ _ _ _ _ _ vs h0 h1 h2 h3
  case sl b i n cb base off cap h1 h2 h3 =>
    cases hs : σ b with
    | none => exact .undef ..
    | some b' => exact .sl _ _ _ _ cb base _ _ (by rw [(hσ b b' hs).1]; assumption) (by rw [(hσ b b' hs).2]; assumption) ‹_›
  case ri k xs n cap a h1 h2 h3 h4 => exact .ri _ _ _ _ _ _ h1 h2 h3 h4
  case ro s rows n cap a vs h1 h2 h3 h4 h5 => exact .ro _ _ _ _ _ _ vs h1 h2 h3 h4 h5
  case agg => exact .undef ..
  case tup => exact .undef ..
  case fn => exact .undef ..

theorem ren_list {f : AV → AV} (hf : ∀ x v, Rel w F S x v → Rel w F S' (f x) v) {cs : List AV} {vs : Array Value} (h2 : ∀ (i : Nat) c v, cs[i]? = some c → vs[i]? = some v → Rel w F S c v) :
    ∀ (i : Nat) c v, (cs.map f)[i]? = some c → vs[i]? = some v → Rel w F S' c v := by
  intro i c v hc hv
  rw [List.getElem?_map, Option.map_eq_some_iff] at hc
  obtain ⟨c0, hc0, rfl⟩ := hc
  exact hf _ _ (h2 i c0 v hc0 hv)

theorem ren1_rel (hσ : ∀ b b', σ b = some b' → S'.ρ[b']? = S.ρ[b]? ∧ S'.sh[b']? = S.sh[b]?) {x : AV} {v : Value} (hr : Rel w F S x v) : Rel w F S' (ren1 σ x) v := by
  cases x with
  | agg cs =>
    cases hr with
    | agg _ _ vs h1 h2 => exact .agg _ _ _ (by simpa using h1) (ren_list (fun x v h => ren0_rel hσ h) h2)
  | fn f cs =>
    cases hr with
    | fn _ _ _ vs h1 h2 => exact .fn _ _ _ _ (by simpa using h1) (ren_list (fun x v h => ren0_rel hσ h) h2)
  | _ => exact ren0_rel hσ hr

theorem ren2_rel (hσ : ∀ b b', σ b = some b' → S'.ρ[b']? = S.ρ[b]? ∧ S'.sh[b']? = S.sh[b]?) {x : AV} {v : Value} (hr : Rel w F S x v) : Rel w F S' (ren2 σ x) v := by
  cases x with
  | tup cs =>
    cases hr with
    | tup _ _ vs h1 h2 => exact .tup _ _ _ (by simpa using h1) (ren_list (fun x v h => ren1_rel hσ h) h2)
  | _ => exact ren1_rel hσ hr
end

theorem renB_shape (σ : Nat → Option Nat) (b : ABlk) : (renB σ b).shape = b.shape := by cases b <;> simp [renB, ABlk.shape]

theorem renB_cell (σ : Nat → Option Nat) (b : ABlk) (i j : Nat) (x : AV) (hx : (renB σ b).cell i j = some x) :
    ∃ y, b.cell i j = some y ∧ ((∃ cs, b = .box cs ∧ x = ren1 σ y) ∨ ((∀ cs, b ≠ .box cs) ∧ x = y)) := by
  cases b with
  | box cs =>
    simp only [renB, ABlk.cell] at hx ⊢
    split at hx <;> try (cases hx; done)
    rename_i hi
    rw [List.getElem?_map, Option.map_eq_some_iff] at hx
    obtain ⟨y, hy, rfl⟩ := hx
    exact ⟨y, by rw [if_pos hi]; exact hy, .inl ⟨cs, rfl, rfl⟩⟩
  | ia k xs => exact ⟨x, hx, .inr ⟨fun _ => by simp, rfl⟩⟩
  | arr s rows => exact ⟨x, hx, .inr ⟨fun _ => by simp, rfl⟩⟩

theorem newNo_back {n0 : Nat} {keep : List Nat} {b b' : Nat} (h : newNo n0 keep b = some b') : (b < n0 ∧ b' = b) ∨ (n0 ≤ b ∧ ∃ i, b' = n0 + i ∧ keep[i]? = some b) := by
  unfold newNo at h
  split at h
  · rename_i hle
    rw [Option.map_eq_some_iff] at h
    obtain ⟨i, hi, rfl⟩ := h
    exact .inr ⟨Nat.le_of_ble_eq_true hle, i, rfl, idx_get hi⟩
  · rename_i hlt
    obtain rfl := Option.some.inj h
    left
    refine ⟨?_, rfl⟩
    rcases Nat.lt_or_ge b n0 with h | h
    · exact h
    · rw [Nat.ble_eq_true_of_le h] at hlt; cases hlt

theorem gcH_get {n0 : Nat} {keep : List Nat} (h0 : n0 ≤ h.length) (_hk : ∀ k ∈ keep, n0 ≤ k ∧ k < h.length) {q : Nat} {b : ABlk} (hq : (gcH n0 keep h)[q]? = some (some b)) :
    ∃ k b0, h[k]? = some (some b0) ∧ b = renB (newNo n0 keep) b0 ∧ ((q < n0 ∧ k = q) ∨ (n0 ≤ q ∧ keep[q - n0]? = some k)) := by
  unfold gcH at hq
  have t1 : ((h.take n0).map (·.map (renB (newNo n0 keep)))).length = n0 := by simp; omega
  by_cases hlt : q < n0
  · rw [List.getElem?_append_left (by omega), List.getElem?_map, List.getElem?_take, if_pos hlt, Option.map_eq_some_iff] at hq
    obtain ⟨o, ho, hm⟩ := hq
    cases o with
    | none => cases hm
    | some b0 => exact ⟨q, b0, ho, (Option.some.inj hm).symm, .inl ⟨hlt, rfl⟩⟩
  · rw [List.getElem?_append_right (by omega), t1, List.getElem?_map, Option.map_eq_some_iff] at hq
    obtain ⟨k, hkq, hm⟩ := hq
    rw [nth_eq] at hm
    split at hm
    · rename_i b0 hb0
      exact ⟨k, b0, hb0, (Option.some.inj hm).symm, .inr ⟨by omega, hkq⟩⟩
    · cases hm

theorem HRel.gc (H : HRel E h) {n0 : Nat} {keep : List Nat} (h0 : n0 ≤ h.length) (hok : okKeep n0 h.length keep = true) : HRel (E.gc n0 keep) (gcH n0 keep h) := by
  have hk := okKeep_mem hok
  have hl := H.rlen
  have hlen := H.len
  have hσ : ∀ b b', newNo n0 keep b = some b' → (E.S.gc n0 keep).ρ[b']? = E.S.ρ[b]? ∧ (E.S.gc n0 keep).sh[b']? = E.S.sh[b]? :=
    fun b b' hb => gc_get hl (by omega) (by rw [hlen]; exact hk) hb
  have place : ∀ {q : Nat} {k : Nat}, ((q < n0 ∧ k = q) ∨ (n0 ≤ q ∧ keep[q - n0]? = some k)) → (E.S.gc n0 keep).ρ[q]? = E.S.ρ[k]? := by
    intro q k hq
    have t1 : (E.S.ρ.take n0).length = n0 := by simp; omega
    simp only [Shp.gc]
    rcases hq with ⟨hlt, rfl⟩ | ⟨hge, hkq⟩
    · rw [List.getElem?_append_left (by omega), List.getElem?_take, if_pos hlt]
    · have hm := hk k (List.mem_of_getElem? hkq)
      rw [List.getElem?_append_right (by omega), t1, List.getElem?_map, hkq]
      simp only [Option.map_some]
      rw [List.getElem?_eq_getElem (show k < E.S.ρ.length by omega)]; rfl
  refine ⟨?_, ?_, fun q b hq => ?_, fun q q' b b' cb ba ba' h1 h2 h3 h4 => ?_, H.frz⟩
  · show (E.S.gc n0 keep).sh = _
    simp only [Shp.gc, gcH, List.map_append, List.map_map]
    congr 1
    · rw [H.sh, ← List.map_take]
      apply List.map_congr_left
      intro o _
      cases o with
      | none => rfl
      | some b => simp [renB_shape]
    · apply List.map_congr_left
      intro k hkm
      simp only [Function.comp]
      rw [H.sh, List.getElem?_map, nth_eq]
      cases hh : h[k]? with
      | none => rfl
      | some o => cases o <;> simp [renB_shape]
  · simp only [Env.gc, Shp.gc, gcH, List.length_append, List.length_take, List.length_map]
    omega
  · obtain ⟨k, b0, hb0, rfl, hcase⟩ := gcH_get h0 hk hq
    obtain ⟨f0, cb, base, c, e, r1, r2, r3, r4, r5⟩ := H.blk k b0 hb0
    refine ⟨by cases b0 <;> exact f0, cb, base, c, e, by rw [← r1]; exact place hcase, r2, r3, by rw [renB_shape]; exact r4, fun i j x hx => ?_⟩
    obtain ⟨y, hy, hxy⟩ := renB_cell _ _ _ _ _ hx
    obtain ⟨v, hv1, hv2⟩ := r5 i j y hy
    refine ⟨v, by rw [renB_shape]; exact hv1, ?_⟩
    rcases hxy with ⟨cs, rfl, rfl⟩ | ⟨hne, rfl⟩
    · exact ren1_rel hσ hv2
    · cases b0 with
      | box cs => exact absurd rfl (hne cs)
      | ia => exact hv2
      | arr => exact hv2
  · obtain ⟨k, b0, hb0, rfl, hc⟩ := gcH_get h0 hk h1
    obtain ⟨k', b0', hb0', rfl, hc'⟩ := gcH_get h0 hk h2
    have h3 : (E.S.gc n0 keep).ρ[q]? = some (cb, ba) := h3
    have h4 : (E.S.gc n0 keep).ρ[q']? = some (cb, ba') := h4
    rw [place hc] at h3
    rw [place hc'] at h4
    have hkk := H.inj k k' b0 b0' cb ba ba' hb0 hb0' h3 h4
    subst hkk
    rcases hc with ⟨a1, rfl⟩ | ⟨a1, a2⟩ <;> rcases hc' with ⟨b1, b2⟩ | ⟨b1, b2⟩
    · exact b2
    · have := (hk _ (List.mem_of_getElem? b2)).1; omega
    · subst b2; have := (hk _ (List.mem_of_getElem? a2)).1; omega
    · have := okKeep_inj hok _ _ _ a2 b2; omega

theorem Ext.gc {E0 : Env} (X : Ext E0 E) (H : HRel E h) {n0 : Nat} {keep : List Nat} (hn : E0.S.ρ.length = n0) (hok : okKeep n0 h.length keep = true) : Ext E0 (E.gc n0 keep) := by
  have hk := okKeep_mem hok
  have hl := H.rlen
  have hlen := H.len
  have h0 : n0 ≤ E.S.ρ.length := by
    rcases Nat.eq_zero_or_pos n0 with h | h
    · omega
    · have hlt : n0 - 1 < E0.S.ρ.length := by omega
      have := X.rho _ _ (List.getElem?_eq_getElem hlt)
      have := (List.getElem?_eq_some_iff.1 this).1
      omega
  have low : ∀ q, q < n0 → (E.S.gc n0 keep).ρ[q]? = E.S.ρ[q]? ∧ (E.S.gc n0 keep).sh[q]? = E.S.sh[q]? := by
    intro q hq
    have t1 : (E.S.ρ.take n0).length = n0 := by simp; omega
    have t2 : (E.S.sh.take n0).length = n0 := by simp; omega
    simp only [Shp.gc]
    rw [List.getElem?_append_left (by omega), List.getElem?_append_left (by omega), List.getElem?_take, List.getElem?_take, if_pos hq, if_pos hq]
    exact ⟨rfl, rfl⟩
  refine ⟨X.os, X.tape, X.output, X.size, X.frz, X.same, fun k p hp => ?_, fun k p hk' hp => ?_, X.rlen, fun b hb => ?_, X.nfrz, X.cap, X.off⟩
  · have hlt := (List.getElem?_eq_some_iff.1 hp).1
    show (E.S.gc n0 keep).ρ[k]? = _
    rw [(low k (by omega)).1]
    exact X.rho k p hp
  · rw [← X.rlen] at hk'
    have hp : (E.S.gc n0 keep).sh[k]? = some (some p) := hp
    rw [(low k (by omega)).2] at hp
    exact X.sh k p (by rw [← X.rlen]; exact hk') hp
  · apply X.own b
    obtain ⟨q, base, p, h1, h2⟩ := hb
    have h1 : (E.S.gc n0 keep).ρ[q]? = some (b, base) := h1
    have h2 : (E.S.gc n0 keep).sh[q]? = some (some p) := h2
    by_cases hq : q < n0
    · rw [(low q hq).1] at h1
      rw [(low q hq).2] at h2
      exact ⟨q, base, p, h1, h2⟩
    · have t1 : (E.S.ρ.take n0).length = n0 := by simp; omega
      have t2 : (E.S.sh.take n0).length = n0 := by simp; omega
      simp only [Shp.gc] at h1 h2
      rw [List.getElem?_append_right (by omega), t1, List.getElem?_map, Option.map_eq_some_iff] at h1
      obtain ⟨k, hk1, hk2⟩ := h1
      have hm := hk k (List.mem_of_getElem? hk1)
      rw [List.getElem?_append_right (by omega), t2, List.getElem?_map, hk1] at h2
      rw [List.getElem?_eq_getElem (show k < E.S.ρ.length by omega)] at hk2
      rw [Option.map_some, List.getElem?_eq_getElem (show k < E.S.sh.length by omega)] at h2
      simp only [Option.getD_some, Option.some.injEq] at hk2 h2
      exact ⟨k, base, p, by rw [List.getElem?_eq_getElem (by omega), hk2], by rw [List.getElem?_eq_getElem (by omega), h2]⟩

end Go.AL
