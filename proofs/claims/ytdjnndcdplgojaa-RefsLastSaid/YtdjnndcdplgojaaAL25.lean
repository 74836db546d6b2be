/- Blocks that are lent to an iterator, and are back. Seat-independent. -/
import Derived.Test.YtdjnndcdplgojaaAL21
namespace Go.AL
variable {P : Program}

/-! ### Blocks that are lent to an iterator -/

/-- The shapes while some blocks are lent. -/
def Shp.kill (S : Shp) (own : List Nat) : Shp := ⟨S.ρ, (List.range S.sh.length).map fun k => match idx own k with | some _ => none | none => (S.sh[k]?).getD none⟩

theorem okKeep_more : ∀ {own : List Nat} {n m : Nat}, okKeep 0 n own = true → n ≤ m → okKeep 0 m own = true
  | [], _, _, _, _ => rfl
  | k :: ks, n, m, h, hl => by
    simp only [okKeep, Bool.and_eq_true] at h ⊢
    refine ⟨⟨⟨h.1.1.1, ?_⟩, h.1.2⟩, okKeep_more h.2 hl⟩
    have := h.1.1.2
    simp only [Nat.blt_eq] at this ⊢
    omega

theorem kill_sh {S : Shp} {own : List Nat} {k : Nat} {p : Nat × Nat} (h : (S.kill own).sh[k]? = some (some p)) : k ∉ own ∧ S.sh[k]? = some (some p) := by
  simp only [Shp.kill, List.getElem?_map, Option.map_eq_some_iff] at h
  obtain ⟨q, hq, he⟩ := h
  have hk := (List.getElem?_eq_some_iff.1 hq).1
  rw [List.length_range] at hk
  rw [List.getElem?_range hk] at hq
  obtain rfl := Option.some.inj hq
  cases hx : idx own k with
  | some i => rw [hx] at he; cases he
  | none =>
    rw [hx] at he
    simp only at he
    refine ⟨idx_none hx, ?_⟩
    rw [List.getElem?_eq_getElem hk] at he ⊢
    exact congrArg some he

theorem kill_own {S : Shp} {own : List Nat} {b : Nat} (h : (S.kill own).own b) : ∃ (k base : Nat) (p : Nat × Nat), k ∉ own ∧ S.ρ[k]? = some (b, base) ∧ S.sh[k]? = some (some p) := by
  obtain ⟨k, base, p, h1, h2⟩ := h
  obtain ⟨h3, h4⟩ := kill_sh h2
  exact ⟨k, base, p, h3, h1, h4⟩

theorem kill_ext {S : Shp} {own : List Nat} (hr : S.ρ.length = S.sh.length) : ShpExt S (S.kill own) := ⟨fun _ _ h => h, fun _ _ _ h => (kill_sh h).2, hr⟩

theorem killH_get {own : List Nat} {h : AHeap} (hok : okKeep 0 h.length own = true) : (killH own h).length = h.length ∧ (∀ k, k ∈ own → (killH own h)[k]? = some none) ∧ ∀ k, k ∉ own → (killH own h)[k]? = h[k]? := by
  obtain ⟨s1, s2, s3⟩ := setAll_get own h (own.map fun _ => none) (okKeep_lt hok) (okKeep_inj hok) (by simp)
  refine ⟨s1, fun k hk => ?_, s3⟩
  obtain ⟨i, hi, he⟩ := List.getElem_of_mem hk
  have := s2 i k (by rw [List.getElem?_eq_getElem hi, he])
  rw [killH, this, List.getElem?_map, List.getElem?_eq_getElem hi]; rfl

theorem HRel.lend {E : Env} {h : AHeap} {own : List Nat} (H : HRel E h) (hok : okKeep 0 h.length own = true) : HRel { E with S := E.S.kill own } (killH own h) := by
  obtain ⟨s1, s2, s3⟩ := killH_get hok
  have old : ∀ {k : Nat} {b : ABlk}, (killH own h)[k]? = some (some b) → k ∉ own ∧ h[k]? = some (some b) := fun {k b} hk => by
    by_cases ho : k ∈ own
    · rw [s2 k ho] at hk; cases hk
    · exact ⟨ho, by rw [← s3 k ho]; exact hk⟩
  have hl := H.len
  have hrl := H.rlen
  refine ⟨?_, by rw [s1]; exact H.len, fun k b hk => ?_, fun k k' b b' cb ba ba' h1 h2 h3 h4 => H.inj k k' b b' cb ba ba' (old h1).2 (old h2).2 h3 h4, H.frz⟩
  · apply List.ext_getElem?
    intro k
    simp only [Shp.kill, List.getElem?_map]
    by_cases hk : k < h.length
    · rw [List.getElem?_range (by omega)]
      simp only [Option.map_some]
      cases hx : idx own k with
      | some i => rw [s2 k (List.mem_of_getElem? (idx_get hx))]; rfl
      | none =>
        rw [s3 k (idx_none hx), H.sh, List.getElem?_map, List.getElem?_eq_getElem hk]
        rfl
    · rw [List.getElem?_eq_none (by simp; omega), List.getElem?_eq_none (by omega)]; rfl
  · obtain ⟨f0, cb, base, c, e, r1, r2, r3, r4, r5⟩ := H.blk k b (old hk).2
    refine ⟨f0, cb, base, c, e, r1, r2, r3, r4, fun i j x hx => ?_⟩
    obtain ⟨v, hv1, hv2⟩ := r5 i j x hx
    refine ⟨v, hv1, ?_⟩
    cases b with
    | box cs => exact Rel.mono (w := E.w) (F := E.F) (w' := E.w) (F' := E.F) (fun _ h => h) (fun _ _ _ => rfl) hv2 (E.S.kill own) (fun _ _ h => h) (fun _ _ _ _ h => (kill_sh h).2) fun _ c e f h => ⟨c, e, f, h, rfl, rfl⟩
    | ia => exact hv2
    | arr => exact hv2
    | mp => exact hv2

/-- The shapes when they are back. -/
def Shp.merge (S Si : Shp) (own : List Nat) : Shp := ⟨S.ρ, (List.range S.sh.length).map fun k => match idx own k with | some i => (Si.sh[i]?).getD none | none => (S.sh[k]?).getD none⟩

theorem merge_sh {S Si : Shp} {own : List Nat} {k : Nat} {p : Nat × Nat} (h : (S.merge Si own).sh[k]? = some (some p)) : (∃ i, idx own k = some i ∧ Si.sh[i]? = some (some p)) ∨ (k ∉ own ∧ S.sh[k]? = some (some p)) := by
  simp only [Shp.merge, List.getElem?_map, Option.map_eq_some_iff] at h
  obtain ⟨q, hq, he⟩ := h
  have hk := (List.getElem?_eq_some_iff.1 hq).1
  rw [List.length_range] at hk
  rw [List.getElem?_range hk] at hq
  obtain rfl := Option.some.inj hq
  cases hx : idx own k with
  | some i =>
    rw [hx] at he
    simp only at he
    refine .inl ⟨i, rfl, ?_⟩
    cases hs : Si.sh[i]? with
    | none => rw [hs] at he; cases he
    | some y => rw [hs] at he; simp only [Option.getD_some] at he; rw [he]
  | none =>
    rw [hx] at he
    simp only at he
    refine .inr ⟨idx_none hx, ?_⟩
    rw [List.getElem?_eq_getElem hk] at he ⊢
    exact congrArg some he

theorem clear0_rel {w : World} {F F' : Nat → Prop} {S S' : Shp} {own : List Nat} (hF : ∀ b, F b → F' b) (hρ : S'.ρ = S.ρ) (hs : ∀ k p, k ∉ own → S'.sh[k]? = some (some p) → S.sh[k]? = some (some p)) {x : AV} {v : Value} (hc : clear0 own x = true) (h : Rel w F S x v) : Rel w F' S' x v := by
  have h := h.more hF
  have nin : ∀ {b : Nat}, (!own.any (Nat.beq b)) = true → b ∉ own := fun {b} hb hm => by
    rw [Bool.not_eq_true', List.any_eq_false] at hb
    exact hb b hm (by simp)
  cases h with
  | int => exact .int ..
  | bool => exact .bool ..
  | str => exact .str ..
  | pnil => exact .pnil ..
  | snil => exact .snil ..
  | semp => exact .semp ..
  | emp => exact .emp ..
  | fnil => exact .fnil ..
  | inil => exact .inil ..
  | undef => exact .undef ..
  | bp _ _ _ cb base off g1 g2 => exact .bp _ _ _ cb base off (by rw [hρ]; exact g1) g2
  | ep _ _ _ _ cb base off g1 g2 => exact .ep _ _ _ _ cb base off (by rw [hρ]; exact g1) fun s N hh => g2 s N (hs _ _ (nin hc) hh)
  | rp _ _ _ cb base off vs g1 g2 g3 g4 => exact .rp _ _ _ cb base off vs g1 g2 g3 g4
  | sl _ _ _ _ cb base off cap g1 g2 g3 => exact .sl _ _ _ _ cb base off cap (by rw [hρ]; exact g1) (fun s N hh => g2 s N (hs _ _ (nin hc) hh)) g3
  | ri _ _ _ _ _ _ g1 g2 g3 g4 => exact .ri _ _ _ _ _ _ g1 g2 g3 g4
  | ro _ _ _ _ _ _ vs g1 g2 g3 g4 g5 => exact .ro _ _ _ _ _ _ vs g1 g2 g3 g4 g5
  | agg => cases hc
  | tup => cases hc
  | fn => cases hc
  | yld => exact .yld ..
  | bt _ _ _ _ cb c f g1 g2 g3 => exact .bt _ _ _ _ cb c f (by rw [hρ]; exact g1) g2 g3
  | map _ _ cb base g1 => exact .map _ _ cb base (by rw [hρ]; exact g1)
  | ifv => exact .ifv ..
  | mnil => exact .mnil ..
  | gh => exact .gh ..
  | len _ _ _ _ g1 g2 => exact .len _ _ _ _ g1 g2
  | slc _ _ _ _ cap cb base off g1 g2 g3 => exact .slc _ _ _ _ cap cb base off (by rw [hρ]; exact g1) (fun s N hh => g2 s N (hs _ _ (nin hc) hh)) g3

theorem HRel.merge {Ec Ei : Env} {hp hi : AHeap} {own : List Nat} (H : HRel Ec hp) (Hi : HRel Ei hi) (hw : Ei.w = Ec.w) (hok : okKeep 0 hp.length own = true) (hlen : hi.length = own.length) (hrho : ∀ (i k : Nat), own[i]? = some k → Ei.S.ρ[i]? = Ec.S.ρ[k]?)
    (hc : clearH own hp = true) (d1 : ∀ b, Ei.S.own b → ¬ Ec.S.own b) (d2 : ∀ b, Ei.F b → ¬ Ec.S.own b) (d3 : ∀ b, Ei.S.own b → ¬ Ec.F b) :
    HRel ⟨Ec.w, fun b => Ec.F b ∨ Ei.F b, Ec.S.merge Ei.S own⟩ (setAll hp own (hi.map (·.map (renB (nth own) fun _ => none)))) := by
  have hlt := okKeep_lt hok
  have hinj := okKeep_inj hok
  have hl := H.len
  have hrl := H.rlen
  have hrl' := Hi.rlen
  have hl' := Hi.len
  obtain ⟨s1, s2, s3⟩ := setAll_get own hp (hi.map (·.map (renB (nth own) fun _ => none))) hlt hinj (by simp [hlen])
  have from_ : ∀ {q : Nat} {b : ABlk}, (setAll hp own (hi.map (·.map (renB (nth own) fun _ => none))))[q]? = some (some b) → (∃ (i : Nat) (b0 : ABlk), own[i]? = some q ∧ hi[i]? = some (some b0) ∧ b = renB (nth own) (fun _ => none) b0) ∨ (q ∉ own ∧ hp[q]? = some (some b)) := by
    intro q b hq
    by_cases hqo : q ∈ own
    · obtain ⟨i, hi', he⟩ := List.getElem_of_mem hqo
      have hik : own[i]? = some q := by rw [List.getElem?_eq_getElem hi', he]
      rw [s2 i q hik, List.getElem?_map, Option.map_eq_some_iff] at hq
      obtain ⟨o, ho, hm⟩ := hq
      cases o with
      | none => cases hm
      | some b0 => exact .inl ⟨i, b0, hik, ho, (Option.some.inj hm).symm⟩
    · rw [s3 q hqo] at hq
      exact .inr ⟨hqo, hq⟩
  have hσ : ∀ b b', nth own b = some b' → (Ec.S.merge Ei.S own).ρ[b']? = Ei.S.ρ[b]? ∧ (Ec.S.merge Ei.S own).sh[b']? = Ei.S.sh[b]? := by
    intro b b' hb
    rw [nth_eq] at hb
    have hk := hlt b' (List.mem_of_getElem? hb)
    have hbl := (List.getElem?_eq_some_iff.1 hb).1
    refine ⟨(hrho b b' hb).symm, ?_⟩
    simp only [Shp.merge, List.getElem?_map]
    rw [List.getElem?_range (by omega)]
    simp only [Option.map_some]
    rw [idx_of hinj hb]
    simp only
    rw [List.getElem?_eq_getElem (show b < Ei.S.sh.length by omega)]; rfl
  refine ⟨?_, by rw [s1]; exact H.len, fun q b hq => ?_, fun q q' b b' cb ba ba' h1 h2 h3 h4 => ?_, fun b hb => hb.elim (H.frz b) fun h => hw ▸ Hi.frz b h⟩
  · apply List.ext_getElem?
    intro k
    simp only [Shp.merge, List.getElem?_map]
    by_cases hk : k < hp.length
    · rw [List.getElem?_range (by omega)]
      simp only [Option.map_some]
      cases hx : idx own k with
      | some i =>
        have hik := idx_get hx
        rw [s2 i k hik, List.getElem?_map, Hi.sh]
        have hi' : i < hi.length := by have := (List.getElem?_eq_some_iff.1 hik).1; omega
        simp only [List.getElem?_map]
        rw [List.getElem?_eq_getElem hi']
        cases hi[i] <;> simp [renB_shape]
      | none =>
        rw [s3 k (idx_none hx), H.sh, List.getElem?_map, List.getElem?_eq_getElem hk]
        rfl
    · rw [List.getElem?_eq_none (by simp; omega), List.getElem?_eq_none (by omega)]; rfl
  · rcases from_ hq with ⟨i, b0, hio, hb0, rfl⟩ | ⟨hqo, hb⟩
    · obtain ⟨f0, cb, base, c, e, r1, r2, r3, r4, r5⟩ := Hi.blk i b0 hb0
      refine ⟨by cases b0 <;> exact f0, cb, base, c, e, by rw [(hσ i q (by rw [nth_eq]; exact hio)).1]; exact r1, by rw [renB_obj, ← hw]; exact r2, fun hf => hf.elim (d3 cb (Hi.own_of hb0 r1)) r3, by rw [renB_room]; exact r4, fun p j x hx => ?_⟩
      obtain ⟨y, hy, hxy⟩ := renB_cell _ _ _ _ _ _ hx
      obtain ⟨v, hv1, hv2⟩ := r5 p j y hy
      refine ⟨v, by rw [renB_shape]; exact hv1, ?_⟩
      rw [hw] at hv2
      have hv2 := hv2.more (F' := fun b => Ec.F b ∨ Ei.F b) fun _ h => .inr h
      rcases hxy with ⟨cs, rfl, rfl⟩ | ⟨hne, rfl⟩
      · exact ren1_rel hσ (fun k b h => by cases h) hv2
      · cases b0 with
        | box cs => exact absurd rfl (hne cs)
        | ia k xs => exact hv2
        | arr s rows => exact hv2
        | mp es => exact hv2
    · obtain ⟨f0, cb, base, c, e, r1, r2, r3, r4, r5⟩ := H.blk q b hb
      refine ⟨f0, cb, base, c, e, r1, r2, fun hf => hf.elim r3 fun h => d2 cb h (H.own_of hb r1), r4, fun p j x hx => ?_⟩
      obtain ⟨v, hv1, hv2⟩ := r5 p j x hx
      refine ⟨v, hv1, ?_⟩
      cases b with
      | box cs =>
        have hcb := List.all_eq_true.1 hc _ (List.mem_of_getElem? hb)
        simp only [ABlk.cell] at hx
        split at hx <;> try (cases hx; done)
        refine clear0_rel (w := Ec.w) (F := Ec.F) (F' := fun b => Ec.F b ∨ Ei.F b) (S := Ec.S) (S' := Ec.S.merge Ei.S own) (own := own) (fun _ h => .inl h) rfl (fun k p hk h => ?_) (List.all_eq_true.1 hcb x (List.mem_of_getElem? hx)) hv2
        rcases merge_sh h with ⟨i, hi', _⟩ | ⟨_, h⟩
        · exact absurd (List.mem_of_getElem? (idx_get hi')) hk
        · exact h
      | ia => exact hv2.more fun _ h => .inl h
      | arr => exact hv2.more fun _ h => .inl h
      | mp => exact hv2.more fun _ h => .inl h
  · rcases from_ h1 with ⟨i, b0, hio, hb0, rfl⟩ | ⟨hqo, hb⟩ <;> rcases from_ h2 with ⟨i', b0', hio', hb0', rfl⟩ | ⟨hqo', hb'⟩
    · rw [(hσ i q (by rw [nth_eq]; exact hio)).1] at h3
      rw [(hσ i' q' (by rw [nth_eq]; exact hio')).1] at h4
      have := Hi.inj i i' b0 b0' cb ba ba' hb0 hb0' h3 h4
      subst this
      rw [hio] at hio'
      exact Option.some.inj hio'
    · rw [(hσ i q (by rw [nth_eq]; exact hio)).1] at h3
      exact absurd (H.own_of hb' h4) (d1 cb (Hi.own_of hb0 h3))
    · rw [(hσ i' q' (by rw [nth_eq]; exact hio')).1] at h4
      exact absurd (H.own_of hb h3) (d1 cb (Hi.own_of hb0' h4))
    · exact H.inj q q' b b' cb ba ba' hb hb' h3 h4

end Go.AL
