/- What isn't needed is dropped. Seat-independent. -/
import Derived.Test.YtamgmfinkgdkjaaDoorAL13
namespace Go.AL
variable {E : Env} {h : AHeap} {P : Program}

theorem idx_get : ∀ {keep : List Nat} {b i : Nat}, idx keep b = some i → keep[i]? = some b
  | [], _, _, h => by simp [idx] at h
  | k :: ks, b, i, h => by
    simp only [idx] at h
    split at h
    · rename_i hb
      obtain rfl := Option.some.inj h
      simp [Nat.eq_of_beq_eq_true hb]
    · rw [Option.map_eq_some_iff] at h
      obtain ⟨j, hj, rfl⟩ := h
      simpa using idx_get hj

theorem okKeep_mem : ∀ {keep : List Nat} {n0 hn : Nat}, okKeep n0 hn keep = true → ∀ k ∈ keep, n0 ≤ k ∧ k < hn
  | [], _, _, _, k, hk => by simp at hk
  | x :: xs, n0, hn, h, k, hk => by
    simp only [okKeep, Bool.and_eq_true] at h
    rcases List.mem_cons.1 hk with rfl | hk
    · exact ⟨Nat.le_of_ble_eq_true h.1.1.1, by have := h.1.1.2; simp [Nat.blt_eq] at this; exact this⟩
    · exact okKeep_mem h.2 k hk

theorem okKeep_inj : ∀ {keep : List Nat} {n0 hn : Nat}, okKeep n0 hn keep = true → ∀ (i j : Nat) k, keep[i]? = some k → keep[j]? = some k → i = j
  | [], _, _, _, i, j, k, hi, _ => by simp at hi
  | x :: xs, n0, hn, h, i, j, k, hi, hj => by
    simp only [okKeep, Bool.and_eq_true, Bool.not_eq_true', List.any_eq_false] at h
    have key : ∀ q : Nat, xs[q]? = some x → False := fun q hq => h.1.2 x (List.mem_of_getElem? hq) (by simp)
    cases i with
    | zero =>
      simp only [List.getElem?_cons_zero, Option.some.injEq] at hi
      subst hi
      cases j with
      | zero => rfl
      | succ j => exact (key j (by simpa using hj)).elim
    | succ i =>
      cases j with
      | zero =>
        simp only [List.getElem?_cons_zero, Option.some.injEq] at hj
        subst hj
        exact (key i (by simpa using hi)).elim
      | succ j => rw [okKeep_inj h.2 i j k (by simpa using hi) (by simpa using hj)]

/-- The places behind the dropping. -/
def Shp.gc (S : Shp) (n0 : Nat) (keep : List Nat) : Shp :=
  ⟨S.ρ.take n0 ++ keep.map fun k => (S.ρ[k]?).getD (0, 0), S.sh.take n0 ++ keep.map fun k => (S.sh[k]?).getD none⟩

/-- What is frozen joins what stays as it is. -/
def Env.gc (E : Env) (n0 : Nat) (keep fz : List Nat) (h : AHeap) : Env :=
  { w := E.w, F := fun b => E.F b ∨ ∃ k base bk, k ∈ fz ∧ E.S.ρ[k]? = some (b, base) ∧ h[k]? = some (some bk), S := E.S.gc n0 keep }

/-- New number's place, old number's place. -/
theorem gc_get {S : Shp} {n0 : Nat} {keep : List Nat} (hl : S.ρ.length = S.sh.length) (h0 : n0 ≤ S.ρ.length) (hk : ∀ k ∈ keep, n0 ≤ k ∧ k < S.ρ.length) {b b' : Nat} (hb : newNo n0 keep b = some b') :
    (S.gc n0 keep).ρ[b']? = S.ρ[b]? ∧ (S.gc n0 keep).sh[b']? = S.sh[b]? := by
  unfold newNo at hb
  have t1 : (S.ρ.take n0).length = n0 := by simp; omega
  have t2 : (S.sh.take n0).length = n0 := by simp; omega
  split at hb
  · rw [Option.map_eq_some_iff] at hb
    obtain ⟨i, hi, rfl⟩ := hb
    have hg := idx_get hi
    have hm := hk b (List.mem_of_getElem? hg)
    simp only [Shp.gc]
    rw [List.getElem?_append_right (by omega), List.getElem?_append_right (by omega), t1, t2, show n0 + i - n0 = i by omega, List.getElem?_map, List.getElem?_map, hg]
    simp only [Option.map_some]
    rw [List.getElem?_eq_getElem (show b < S.ρ.length by omega), List.getElem?_eq_getElem (show b < S.sh.length by omega)]
    exact ⟨rfl, rfl⟩
  · rename_i hlt
    obtain rfl := Option.some.inj hb
    have hlt : b < n0 := by
      rcases Nat.lt_or_ge b n0 with h | h
      · exact h
      · rw [Nat.ble_eq_true_of_le h] at hlt; cases hlt
    simp only [Shp.gc]
    rw [List.getElem?_append_left (by omega), List.getElem?_append_left (by omega), List.getElem?_take, List.getElem?_take, if_pos hlt, if_pos hlt]
    exact ⟨rfl, rfl⟩


/-- What frozen blocks hold. -/
def Fz (w : World) (F : Nat → Prop) (S : Shp) (φ : Nat → Option ABlk) : Prop := ∀ k b, φ k = some b → b.fits ∧ ∃ cb base c e f, S.ρ[k]? = some (cb, base) ∧ S.sh[k]? = some (some b.shape) ∧
  w.heap[cb]? = some (Obj.cells c e f) ∧ F cb ∧ ∀ i j x, b.cell i j = some x → ∃ v, c[base + i * b.shape.1 + j]? = some v ∧ Rel w F .nil x v

theorem Fz.nil (w : World) (F : Nat → Prop) (S : Shp) : Fz w F S (fzOf []) := fun k b h => by simp [fzOf] at h

section
variable {w : World} {F : Nat → Prop} {S S' : Shp} {σ : Nat → Option Nat} {φ : Nat → Option ABlk}

theorem fz_bp (hφ : Fz w F S φ) {b j : Nat} {v : Value} (hr : Rel w F S (.bp b j) v) {cs : List AV} (h : φ b = some (.box cs)) : Rel w F S' (.rp cs j) v := by
  obtain ⟨_, cb, base, c, e, f, g1, g2, g3, g4, g5⟩ := hφ _ _ h
  cases hr with
  | bp _ _ _ cb' base' off h1 h2 =>
    rw [g1] at h1
    obtain ⟨rfl, rfl⟩ := Prod.mk.inj (Option.some.inj h1)
    have cell : ∀ (q : Nat) x, cs[q]? = some x → ∃ v, c[base + q]? = some v ∧ Rel w F .nil x v := fun q x hx => by
      have := g5 0 q x (by simp [ABlk.cell, hx])
      simpa [ABlk.shape] using this
    refine .rp _ _ _ _ _ _ (fun q => (c[base + q]?).getD undef) g4 h2 (fun q x hx => ?_) fun q x hx => ?_
    · obtain ⟨v, hv, _⟩ := cell q x hx
      simp [World.cell?, g3, hv]
    · obtain ⟨v, hv, hR⟩ := cell q x hx
      simpa [hv] using hR

theorem fz_sl (hφ : Fz w F S φ) {b i n : Nat} {v : Value} (hr : Rel w F S (.sl b i n) v) :
    Rel w F S' (match φ b with | some (.ia k xs) => .ri k ((xs.drop i).take n) | some (.arr s rows) => .ro s ((rows.drop i).take n) | _ => .len n) v := by
  cases hr with
  | sl _ _ _ _ cb base off cap h1 h2 h3 =>
    split
    · rename_i k xs h
      obtain ⟨_, cb', base', c, e, f, g1, g2, g3, g4, g5⟩ := hφ _ _ h
      rw [h1] at g1
      obtain ⟨rfl, rfl⟩ := Prod.mk.inj (Option.some.inj g1)
      obtain ⟨k1, k2, k3, c', e', f', k4, k5⟩ := h2 _ _ g2
      have hlen : ((xs.drop i).take n).length = n := by simp; omega
      refine .ri _ _ _ _ _ _ hlen.symm h3 (fun q x hx => ?_) (by simp)
      rw [List.getElem?_take] at hx
      split at hx <;> try (cases hx; done)
      rw [List.getElem?_drop] at hx
      obtain ⟨u, hu1, hu2⟩ := g5 (i + q) 0 (.int k x) (by simp [ABlk.cell, hx])
      cases hu2
      refine ⟨cb, off, rfl, g4, ?_⟩
      simp only [ABlk.shape] at hu1
      rw [k1.resolve_left (by omega)]
      simp only [World.cell?, g3, Option.isSome_none, Bool.false_eq_true, if_false]
      rw [← hu1]; congr 1; omega
    · rename_i s rows h
      obtain ⟨g0, cb', base', c, e, f, g1, g2, g3, g4, g5⟩ := hφ _ _ h
      rw [h1] at g1
      obtain ⟨rfl, rfl⟩ := Prod.mk.inj (Option.some.inj g1)
      obtain ⟨k1, k2, k3, c', e', f', k4, k5⟩ := h2 _ _ g2
      try simp only [ABlk.shape] at k1 k2 k3 k5 g5
      have hlen : ((rows.drop i).take n).length = n := by simp; omega
      have cell : ∀ q j row x, ((rows.drop i).take n)[q]? = some row → row[j]? = some x → rows[i + q]? = some row ∧ ∃ u, c[base + (i + q) * s + j]? = some u ∧ Rel w F .nil x u := by
        intro q j row x hq hx
        rw [List.getElem?_take] at hq
        split at hq <;> try (cases hq; done)
        rw [List.getElem?_drop] at hq
        exact ⟨hq, g5 (i + q) j x (by simp [ABlk.cell, hq, hx])⟩
      refine .ro _ _ _ _ _ _ (fun q j => (c[base + (i + q) * s + j]?).getD undef) hlen.symm h3 (fun q row hq => ?_) (fun q j row x hq hx => ?_) (by simp)
      · have hq0 := hq
        rw [List.getElem?_take] at hq
        split at hq <;> try (cases hq; done)
        rw [List.getElem?_drop] at hq
        refine ⟨g0 _ row hq, cb, off, rfl, g4, fun j x hx => ?_⟩
        obtain ⟨_, u, hu, _⟩ := cell q j row x hq0 hx
        simp only [hu, Option.getD_some]
        rw [k1.resolve_left (by omega)]
        simp only [World.cell?, g3, Option.isSome_none, Bool.false_eq_true, if_false]
        rw [← hu]; congr 1; rw [Nat.add_mul]; omega
      · obtain ⟨_, u, hu, hR⟩ := cell q j row x hq hx
        simp only [hu, Option.getD_some]
        exact hR
    · exact .len _ _ _ _ h3 (by simp)

theorem ren0_rel (hσ : ∀ b b', σ b = some b' → S'.ρ[b']? = S.ρ[b]? ∧ S'.sh[b']? = S.sh[b]?) (hφ : Fz w F S φ) {x : AV} {v : Value} (hr : Rel w F S x v) : Rel w F S' (ren0 σ φ x) v := by
  have hr0 := hr
  cases hr <;> simp only [ren0]
  case int => exact .int ..
  case bool => exact .bool ..
  case str => exact .str ..
  case pnil => exact .pnil ..
  case snil => exact .snil ..
  case semp => exact .semp ..
  case fnil => exact .fnil ..
  case inil => exact .inil ..
  case undef => exact .undef ..
  case yld => exact .yld ..
  case gh => exact .gh ..
  case len n cap a h1 h2 => exact .len _ _ _ _ h1 h2
  case bp b j cb base off h1 h2 =>
    cases hs : σ b with
    | none =>
      show Rel w F S' (match φ b with | some (.box cs) => .rp cs j | _ => .undef) _
      split
      · rename_i cs h; exact fz_bp hφ hr0 h
      · exact .undef ..
    | some b' => exact .bp _ _ _ cb base _ (by rw [(hσ b b' hs).1]; assumption) ‹_›
  case ep b i j cb base off h1 h2 =>
    cases hs : σ b with
    | none => exact .undef ..
    | some b' => exact .ep _ _ _ _ cb base _ (by rw [(hσ b b' hs).1]; assumption) (by rw [(hσ b b' hs).2]; assumption)
  case rp row j cb base off vs h0 h1 h2 h3 => exact .rp _ _ _ _ _ _ vs h0 h1 h2 h3
  case sl b i n cb base off cap h1 h2 h3 =>
    cases hs : σ b with
    | none => exact fz_sl hφ hr0
    | some b' => exact .sl _ _ _ _ cb base _ _ (by rw [(hσ b b' hs).1]; assumption) (by rw [(hσ b b' hs).2]; assumption) ‹_›
  case ri k xs n cap a h1 h2 h3 h4 => exact .ri _ _ _ _ _ _ h1 h2 h3 h4
  case ro s rows n cap a vs h1 h2 h3 h4 h5 => exact .ro _ _ _ _ _ _ vs h1 h2 h3 h4 h5
  case agg => exact .undef ..
  case tup => exact .undef ..
  case fn => exact .undef ..

theorem ren_list {f : AV → AV} (hf : ∀ x v, Rel w F S x v → Rel w F S' (f x) v) {cs : List AV} {vs : Array Value} (h2 : ∀ (i : Nat) c v, cs[i]? = some c → vs[i]? = some v → Rel w F S c v) :
    ∀ (i : Nat) c v, (cs.map f)[i]? = some c → vs[i]? = some v → Rel w F S' c v := by
  intro i c v hc hv
  rw [List.getElem?_map, Option.map_eq_some_iff] at hc
  obtain ⟨c0, hc0, rfl⟩ := hc
  exact hf _ _ (h2 i c0 v hc0 hv)

theorem ren1_rel (hσ : ∀ b b', σ b = some b' → S'.ρ[b']? = S.ρ[b]? ∧ S'.sh[b']? = S.sh[b]?) (hφ : Fz w F S φ) {x : AV} {v : Value} (hr : Rel w F S x v) : Rel w F S' (ren1 σ φ x) v := by
  cases x with
  | agg cs =>
    cases hr with
    | agg _ _ vs h1 h2 => exact .agg _ _ _ (by simpa using h1) (ren_list (fun x v h => ren0_rel hσ hφ h) h2)
  | fn f cs =>
    cases hr with
    | fn _ _ _ vs h1 h2 => exact .fn _ _ _ _ (by simpa using h1) (ren_list (fun x v h => ren0_rel hσ hφ h) h2)
  | _ => exact ren0_rel hσ hφ hr

theorem ren2_rel (hσ : ∀ b b', σ b = some b' → S'.ρ[b']? = S.ρ[b]? ∧ S'.sh[b']? = S.sh[b]?) (hφ : Fz w F S φ) {x : AV} {v : Value} (hr : Rel w F S x v) : Rel w F S' (ren2 σ φ x) v := by
  cases x with
  | tup cs =>
    cases hr with
    | tup _ _ vs h1 h2 => exact .tup _ _ _ (by simpa using h1) (ren_list (fun x v h => ren1_rel hσ hφ h) h2)
  | _ => exact ren1_rel hσ hφ hr
end

theorem renB_shape (σ : Nat → Option Nat) (φ : Nat → Option ABlk) (b : ABlk) : (renB σ φ b).shape = b.shape := by cases b <;> simp [renB, ABlk.shape]

theorem renB_cell (σ : Nat → Option Nat) (φ : Nat → Option ABlk) (b : ABlk) (i j : Nat) (x : AV) (hx : (renB σ φ b).cell i j = some x) :
    ∃ y, b.cell i j = some y ∧ ((∃ cs, b = .box cs ∧ x = ren1 σ φ y) ∨ ((∀ cs, b ≠ .box cs) ∧ x = y)) := by
  cases b with
  | box cs =>
    simp only [renB, ABlk.cell] at hx ⊢
    split at hx <;> try (cases hx; done)
    rename_i hi
    rw [List.getElem?_map, Option.map_eq_some_iff] at hx
    obtain ⟨y, hy, rfl⟩ := hx
    exact ⟨y, by rw [if_pos hi]; exact hy, .inl ⟨cs, rfl, rfl⟩⟩
  | ia k xs => exact ⟨x, hx, .inr ⟨fun _ => by simp, rfl⟩⟩
  | arr s rows => exact ⟨x, hx, .inr ⟨fun _ => by simp, rfl⟩⟩

/-- More stays as it is. -/
theorem Rel.more {w : World} {F F' : Nat → Prop} {S : Shp} {x : AV} {v : Value} (hF : ∀ b, F b → F' b) (h : Rel w F S x v) : Rel w F' S x v :=
  Rel.mono (w := w) (F := F) (w' := w) (F' := F') hF (fun _ _ _ => rfl) h S (fun _ _ h => h) (fun _ _ _ _ h => h) fun _b c e f h => ⟨c, e, f, h, rfl⟩

theorem fzAll_ok (H : HRel E h) {F' : Nat → Prop} (hF : ∀ b, E.F b → F' b) {fz : List Nat} (hin : ∀ k ∈ fz, ∀ cb base bk, E.S.ρ[k]? = some (cb, base) → h[k]? = some (some bk) → F' cb) :
    ∀ (ks : List Nat) (acc : List (Nat × ABlk)), (∀ k ∈ ks, k ∈ fz) → Fz E.w F' E.S (fzOf acc) → Fz E.w F' E.S (fzOf (fzAll h ks acc))
  | [], acc, _, ha => ha
  | k :: ks, acc, hk, ha => by
    have put : ∀ {b b0 : ABlk}, h[k]? = some (some b0) → b.shape = b0.shape → b.fits → (∀ i j x, b.cell i j = some x → ∃ y, b0.cell i j = some y ∧ ((∀ v, Rel E.w F' E.S y v → Rel E.w F' .nil x v) ∨ ((∀ cs, b0 ≠ .box cs) ∧ x = y))) → Fz E.w F' E.S (fzOf ((k, b) :: acc)) := by
      intro b b0 hb hsh hfit hcell q bq hq
      simp only [fzOf] at hq
      split at hq
      · rename_i hkq
        obtain rfl := Nat.eq_of_beq_eq_true hkq
        obtain rfl := Option.some.inj hq
        obtain ⟨f0, cb, base, c, e, g1, g2, g3, g4, g5⟩ := H.blk k b0 hb
        refine ⟨hfit, cb, base, c, e, (0, 0), g1, ?_, g2, hin k (hk k (by simp)) _ _ _ g1 hb, fun i j x hx => ?_⟩
        · rw [hsh]; exact H.live.2 ⟨b0, hb, rfl⟩
        · obtain ⟨y, hy, hxy⟩ := hcell i j x hx
          obtain ⟨v, hv1, hv2⟩ := g5 i j y hy
          refine ⟨v, by rw [hsh]; exact hv1, ?_⟩
          rcases hxy with hxy | ⟨hne, rfl⟩
          · exact hxy v ((inner_to b0 hv2).more hF)
          · cases b0 with
            | box cs => exact absurd rfl (hne cs)
            | ia => exact hv2.more hF
            | arr => exact hv2.more hF
      · exact ha q bq hq
    simp only [fzAll, nth_eq]
    split
    · rename_i cs hb
      refine fzAll_ok H hF hin ks _ (fun q hq => hk q (by simp [hq])) (put hb (by simp [ABlk.shape]) trivial fun i j x hx => ?_)
      simp only [ABlk.cell] at hx ⊢
      split at hx <;> try (cases hx; done)
      rename_i hi
      rw [List.getElem?_map, Option.map_eq_some_iff] at hx
      obtain ⟨y, hy, rfl⟩ := hx
      exact ⟨y, by rw [if_pos hi]; exact hy, .inl fun v hv => ren0_rel (S' := .nil) (fun b b' hb => by cases hb) ha hv⟩
    · rename_i b hnb hb
      refine fzAll_ok H hF hin ks _ (fun q hq => hk q (by simp [hq])) (put hb rfl (H.blk k b hb).1 fun i j x hx => ⟨x, hx, .inr ⟨fun cs hc => hnb cs (by rw [hc]), rfl⟩⟩)
    · exact fzAll_ok H hF hin ks _ (fun q hq => hk q (by simp [hq])) ha

theorem newNo_back {n0 : Nat} {keep : List Nat} {b b' : Nat} (h : newNo n0 keep b = some b') : (b < n0 ∧ b' = b) ∨ (n0 ≤ b ∧ ∃ i, b' = n0 + i ∧ keep[i]? = some b) := by
  unfold newNo at h
  split at h
  · rename_i hle
    rw [Option.map_eq_some_iff] at h
    obtain ⟨i, hi, rfl⟩ := h
    exact .inr ⟨Nat.le_of_ble_eq_true hle, i, rfl, idx_get hi⟩
  · rename_i hlt
    obtain rfl := Option.some.inj h
    left
    refine ⟨?_, rfl⟩
    rcases Nat.lt_or_ge b n0 with h | h
    · exact h
    · rw [Nat.ble_eq_true_of_le h] at hlt; cases hlt

theorem gcH_get {n0 : Nat} {keep fz : List Nat} (h0 : n0 ≤ h.length) {q : Nat} {b : ABlk} (hq : (gcH n0 keep fz h)[q]? = some (some b)) :
    ∃ k b0, h[k]? = some (some b0) ∧ b = renB (newNo n0 keep) (fzOf (fzAll h fz [])) b0 ∧ ((q < n0 ∧ k = q) ∨ (n0 ≤ q ∧ keep[q - n0]? = some k)) := by
  unfold gcH at hq
  have t1 : ((h.take n0).map (·.map (renB (newNo n0 keep) (fzOf (fzAll h fz []))))).length = n0 := by simp; omega
  by_cases hlt : q < n0
  · rw [List.getElem?_append_left (by omega), List.getElem?_map, List.getElem?_take, if_pos hlt, Option.map_eq_some_iff] at hq
    obtain ⟨o, ho, hm⟩ := hq
    cases o with
    | none => cases hm
    | some b0 => exact ⟨q, b0, ho, (Option.some.inj hm).symm, .inl ⟨hlt, rfl⟩⟩
  · rw [List.getElem?_append_right (by omega), t1, List.getElem?_map, Option.map_eq_some_iff] at hq
    obtain ⟨k, hkq, hm⟩ := hq
    rw [nth_eq] at hm
    split at hm
    · rename_i b0 hb0
      exact ⟨k, b0, hb0, (Option.some.inj hm).symm, .inr ⟨by omega, hkq⟩⟩
    · cases hm

theorem okKeep_parts {n0 hn : Nat} : ∀ {keep fz : List Nat}, okKeep n0 hn (keep ++ fz) = true → okKeep n0 hn keep = true ∧ (∀ k ∈ fz, n0 ≤ k ∧ k < hn) ∧ ∀ k ∈ keep, k ∉ fz
  | [], fz, h => ⟨rfl, okKeep_mem h, by simp⟩
  | x :: xs, fz, h => by
    simp only [List.cons_append, okKeep, Bool.and_eq_true, Bool.not_eq_true', List.any_eq_false] at h ⊢
    obtain ⟨h1, h2, h3⟩ := okKeep_parts h.2
    refine ⟨⟨⟨h.1.1, fun y hy => h.1.2 y (List.mem_append_left _ hy)⟩, h1⟩, h2, fun k hk hf => ?_⟩
    rcases List.mem_cons.1 hk with rfl | hk
    · exact h.1.2 k (List.mem_append_right _ hf) (by simp)
    · exact h3 k hk hf

/-- The kinds of the moment behind the dropping. -/
theorem gc_kinds (H : HRel E h) {n0 : Nat} {keep fz : List Nat} (h0 : n0 ≤ h.length) (hok : okKeep n0 h.length (keep ++ fz) = true) :
    (∀ b b', newNo n0 keep b = some b' → (E.S.gc n0 keep).ρ[b']? = E.S.ρ[b]? ∧ (E.S.gc n0 keep).sh[b']? = E.S.sh[b]?) ∧ Fz E.w (E.gc n0 keep fz h).F E.S (fzOf (fzAll h fz [])) ∧ ∀ b, E.F b → (E.gc n0 keep fz h).F b := by
  obtain ⟨o1, o2, o3⟩ := okKeep_parts hok
  have hl := H.len
  refine ⟨fun b b' hb => gc_get H.rlen (by omega) (by rw [hl]; exact okKeep_mem o1) hb, ?_, fun b hb => .inl hb⟩
  exact fzAll_ok H (fun b hb => .inl hb) (fun k hk cb base bk g1 g2 => .inr ⟨k, base, bk, hk, g1, g2⟩) fz [] (fun _ h => h) (Fz.nil _ _ _)

/-- A value behind the dropping. -/
theorem gc_rel (H : HRel E h) {n0 : Nat} {keep fz : List Nat} (h0 : n0 ≤ h.length) (hok : okKeep n0 h.length (keep ++ fz) = true) {x : AV} {v : Value} (hx : E.R x v) :
    (E.gc n0 keep fz h).R (ren2 (newNo n0 keep) (fzOf (fzAll h fz [])) x) v := by
  obtain ⟨k1, k2, k3⟩ := gc_kinds H h0 hok
  exact ren2_rel k1 k2 (hx.more k3)

theorem HRel.gc (H : HRel E h) {n0 : Nat} {keep fz : List Nat} (h0 : n0 ≤ h.length) (hok : okKeep n0 h.length (keep ++ fz) = true) : HRel (E.gc n0 keep fz h) (gcH n0 keep fz h) := by
  obtain ⟨hσ, hφ, hF⟩ := gc_kinds H h0 hok
  obtain ⟨o1, o2, o3⟩ := okKeep_parts hok
  have hk := okKeep_mem o1
  have hl := H.rlen
  have hlen := H.len
  have place : ∀ {q : Nat} {k : Nat}, ((q < n0 ∧ k = q) ∨ (n0 ≤ q ∧ keep[q - n0]? = some k)) → (E.S.gc n0 keep).ρ[q]? = E.S.ρ[k]? := by
    intro q k hq
    have t1 : (E.S.ρ.take n0).length = n0 := by simp; omega
    simp only [Shp.gc]
    rcases hq with ⟨hlt, rfl⟩ | ⟨hge, hkq⟩
    · rw [List.getElem?_append_left (by omega), List.getElem?_take, if_pos hlt]
    · have hm := hk k (List.mem_of_getElem? hkq)
      rw [List.getElem?_append_right (by omega), t1, List.getElem?_map, hkq]
      simp only [Option.map_some]
      rw [List.getElem?_eq_getElem (show k < E.S.ρ.length by omega)]; rfl
  refine ⟨?_, ?_, fun q b hq => ?_, fun q q' b b' cb ba ba' h1 h2 h3 h4 => ?_, fun b hb => ?_⟩
  · show (E.S.gc n0 keep).sh = _
    simp only [Shp.gc, gcH, List.map_append, List.map_map]
    congr 1
    · rw [H.sh, ← List.map_take]
      apply List.map_congr_left
      intro o _
      cases o with
      | none => rfl
      | some b => simp [renB_shape]
    · apply List.map_congr_left
      intro k hkm
      simp only [Function.comp]
      rw [H.sh, List.getElem?_map, nth_eq]
      cases hh : h[k]? with
      | none => rfl
      | some o => cases o <;> simp [renB_shape]
  · simp only [Env.gc, Shp.gc, gcH, List.length_append, List.length_take, List.length_map]
    omega
  · obtain ⟨k, b0, hb0, rfl, hcase⟩ := gcH_get h0 hq
    obtain ⟨f0, cb, base, c, e, r1, r2, r3, r4, r5⟩ := H.blk k b0 hb0
    refine ⟨by cases b0 <;> exact f0, cb, base, c, e, by rw [← r1]; exact place hcase, r2, ?_, by rw [renB_shape]; exact r4, fun i j x hx => ?_⟩
    · rintro (hf | ⟨k', base', bk, m1, m2, m3⟩)
      · exact r3 hf
      · have := H.inj _ _ _ _ _ _ _ hb0 m3 r1 m2
        subst this
        rcases hcase with ⟨a1, rfl⟩ | ⟨a1, a2⟩
        · have := (o2 _ m1).1; omega
        · exact o3 _ (List.mem_of_getElem? a2) m1
    · obtain ⟨y, hy, hxy⟩ := renB_cell _ _ _ _ _ _ hx
      obtain ⟨v, hv1, hv2⟩ := r5 i j y hy
      refine ⟨v, by rw [renB_shape]; exact hv1, ?_⟩
      rcases hxy with ⟨cs, rfl, rfl⟩ | ⟨hne, rfl⟩
      · exact ren1_rel hσ hφ (hv2.more hF)
      · cases b0 with
        | box cs => exact absurd rfl (hne cs)
        | ia => exact hv2.more hF
        | arr => exact hv2.more hF
  · obtain ⟨k, b0, hb0, rfl, hc⟩ := gcH_get h0 h1
    obtain ⟨k', b0', hb0', rfl, hc'⟩ := gcH_get h0 h2
    have h3 : (E.S.gc n0 keep).ρ[q]? = some (cb, ba) := h3
    have h4 : (E.S.gc n0 keep).ρ[q']? = some (cb, ba') := h4
    rw [place hc] at h3
    rw [place hc'] at h4
    have hkk := H.inj k k' b0 b0' cb ba ba' hb0 hb0' h3 h4
    subst hkk
    rcases hc with ⟨a1, rfl⟩ | ⟨a1, a2⟩ <;> rcases hc' with ⟨b1, b2⟩ | ⟨b1, b2⟩
    · exact b2
    · have := (hk _ (List.mem_of_getElem? b2)).1; omega
    · subst b2; have := (hk _ (List.mem_of_getElem? a2)).1; omega
    · have := okKeep_inj o1 _ _ _ a2 b2; omega
  · rcases hb with hb | ⟨k, base, bk, m1, m2, m3⟩
    · exact H.frz b hb
    · exact H.own_lt (H.own_of m3 m2)

/-- The places of a prefix. -/
structure ShpExt (S0 S : Shp) : Prop where
  rho : ∀ (k : Nat) p, S0.ρ[k]? = some p → S.ρ[k]? = some p
  sh : ∀ (k : Nat) p, k < S0.sh.length → S.sh[k]? = some (some p) → S0.sh[k]? = some (some p)
  rlen : S0.ρ.length = S0.sh.length

theorem ShpExt.ext {S0 : Shp} {E E' : Env} (X : ShpExt S0 E.S) (Y : Ext E E') : ShpExt S0 E'.S where
  rho k p hp := Y.rho k p (X.rho k p hp)
  sh k p hk hp := by
    have h1 := X.rho k _ (List.getElem?_eq_getElem (by rw [X.rlen]; exact hk))
    have h2 := (List.getElem?_eq_some_iff.1 h1).1
    exact X.sh k p hk (Y.sh k p (by rw [← Y.rlen]; exact h2) hp)
  rlen := X.rlen

theorem ShpExt.le {S0 S : Shp} (X : ShpExt S0 S) : S0.ρ.length ≤ S.ρ.length := by
  rcases Nat.eq_zero_or_pos S0.ρ.length with h | h
  · omega
  · have := X.rho (S0.ρ.length - 1) _ (List.getElem?_eq_getElem (by omega))
    have := (List.getElem?_eq_some_iff.1 this).1
    omega

theorem ShpExt.gc {S0 : Shp} (H : HRel E h) (X : ShpExt S0 E.S) {n0 : Nat} {keep : List Nat} (hn : S0.ρ.length ≤ n0) (h0 : n0 ≤ h.length) : ShpExt S0 (E.S.gc n0 keep) := by
  have hl := H.rlen
  have hlen := H.len
  have low : ∀ q, q < n0 → (E.S.gc n0 keep).ρ[q]? = E.S.ρ[q]? ∧ (E.S.gc n0 keep).sh[q]? = E.S.sh[q]? := by
    intro q hq
    have t1 : (E.S.ρ.take n0).length = n0 := by simp; omega
    have t2 : (E.S.sh.take n0).length = n0 := by simp; omega
    simp only [Shp.gc]
    rw [List.getElem?_append_left (by omega), List.getElem?_append_left (by omega), List.getElem?_take, List.getElem?_take, if_pos hq, if_pos hq]
    exact ⟨rfl, rfl⟩
  refine ⟨fun k p hp => ?_, fun k p hk' hp => ?_, X.rlen⟩
  · have hlt := (List.getElem?_eq_some_iff.1 hp).1
    rw [(low k (by omega)).1]
    exact X.rho k p hp
  · have := X.rlen
    rw [(low k (by omega)).2] at hp
    exact X.sh k p hk' hp

/-- What is own behind the dropping was own. -/
theorem gc_own (H : HRel E h) {n0 : Nat} {keep : List Nat} (h0 : n0 ≤ h.length) (hok : okKeep n0 h.length keep = true) {b : Nat} (hb : (E.S.gc n0 keep).own b) : E.S.own b := by
  have hk := okKeep_mem hok
  have hl := H.rlen
  have hlen := H.len
  have low : ∀ q, q < n0 → (E.S.gc n0 keep).ρ[q]? = E.S.ρ[q]? ∧ (E.S.gc n0 keep).sh[q]? = E.S.sh[q]? := by
    intro q hq
    have t1 : (E.S.ρ.take n0).length = n0 := by simp; omega
    have t2 : (E.S.sh.take n0).length = n0 := by simp; omega
    simp only [Shp.gc]
    rw [List.getElem?_append_left (by omega), List.getElem?_append_left (by omega), List.getElem?_take, List.getElem?_take, if_pos hq, if_pos hq]
    exact ⟨rfl, rfl⟩
  obtain ⟨q, base, p, h1, h2⟩ := hb
  by_cases hq : q < n0
  · rw [(low q hq).1] at h1
    rw [(low q hq).2] at h2
    exact ⟨q, base, p, h1, h2⟩
  · have t1 : (E.S.ρ.take n0).length = n0 := by simp; omega
    have t2 : (E.S.sh.take n0).length = n0 := by simp; omega
    simp only [Shp.gc] at h1 h2
    rw [List.getElem?_append_right (by omega), t1, List.getElem?_map, Option.map_eq_some_iff] at h1
    obtain ⟨k, hk1, hk2⟩ := h1
    have hm := hk k (List.mem_of_getElem? hk1)
    rw [List.getElem?_append_right (by omega), t2, List.getElem?_map, hk1] at h2
    rw [List.getElem?_eq_getElem (show k < E.S.ρ.length by omega)] at hk2
    rw [Option.map_some, List.getElem?_eq_getElem (show k < E.S.sh.length by omega)] at h2
    simp only [Option.getD_some, Option.some.injEq] at hk2 h2
    exact ⟨k, base, p, by rw [List.getElem?_eq_getElem (by omega), hk2], by rw [List.getElem?_eq_getElem (by omega), h2]⟩

end Go.AL
