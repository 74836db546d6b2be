/- Blocks that are given up ahead of a call: from then on they stay as they are. Seat-independent. -/
import Derived.Test.YtamgmfinkgdkjaaDoorAL19
namespace Go.AL
variable {P : Program} {E : Env} {h : AHeap}

def frzN (fz : List Nat) (b : Nat) : Option Nat :=
  match fz.any (Nat.beq b) with
  | true => none
  | false => some b

def frzH (fz : List Nat) (φ : Nat → Option ABlk) : Nat → AHeap → AHeap
  | _, [] => []
  | i, b :: bs => (match fz.any (Nat.beq i) with
    | true => none
    | false => match b with
      | some b => some (renB (frzN fz) φ b)
      | none => none) :: frzH fz φ (i + 1) bs

def Env.frz (E : Env) (fz : List Nat) (h : AHeap) : Env :=
  { w := E.w, F := fun b => E.F b ∨ ∃ k base bk, k ∈ fz ∧ E.S.ρ[k]? = some (b, base) ∧ h[k]? = some (some bk), S := ⟨E.S.ρ, (List.range E.S.sh.length).map fun k => if k ∈ fz then none else (E.S.sh[k]?).getD none⟩ }

theorem any_beq {fz : List Nat} {b : Nat} : fz.any (Nat.beq b) = true ↔ b ∈ fz := by
  rw [List.any_eq_true]
  exact ⟨fun ⟨x, h1, h2⟩ => by rw [Nat.eq_of_beq_eq_true h2]; exact h1, fun h => ⟨b, h, by simp⟩⟩

theorem frzH_get {fz : List Nat} {φ : Nat → Option ABlk} : ∀ (h : AHeap) (i q : Nat), (frzH fz φ i h)[q]? = (h[q]?).map fun o => if i + q ∈ fz then none else o.map (renB (frzN fz) φ)
  | [], i, q => by simp [frzH]
  | b :: bs, i, q => by
    simp only [frzH]
    cases q with
    | zero =>
      simp only [List.getElem?_cons_zero, Option.map_some, Nat.add_zero]
      split
      · rename_i hh; rw [if_pos (any_beq.1 hh)]
      · rename_i hh
        rw [if_neg (fun hm => by rw [any_beq.2 hm] at hh; cases hh)]
        cases b <;> rfl
    | succ q =>
      simp only [List.getElem?_cons_succ]
      rw [frzH_get bs (i + 1) q, show i + 1 + q = i + (q + 1) by omega]

theorem frzH_len {fz : List Nat} {φ : Nat → Option ABlk} : ∀ (h : AHeap) (i : Nat), (frzH fz φ i h).length = h.length
  | [], _ => rfl
  | _ :: bs, i => by simp [frzH, frzH_len bs]

theorem frz_sh {fz : List Nat} (k : Nat) : (E.frz fz h).S.sh[k]? = (E.S.sh[k]?).map fun o => if k ∈ fz then none else o := by
  simp only [Env.frz, List.getElem?_map]
  by_cases hk : k < E.S.sh.length
  · rw [List.getElem?_range hk]; simp [hk]
  · rw [List.getElem?_eq_none (by simp; omega), List.getElem?_eq_none (by omega)]; rfl

theorem frz_kinds (H : HRel E h) {fz : List Nat} : (∀ b b', frzN fz b = some b' → (E.frz fz h).S.ρ[b']? = E.S.ρ[b]? ∧ (E.frz fz h).S.sh[b']? = E.S.sh[b]?) ∧ Fz E.w (E.frz fz h).F E.S (fzOf (fzAll h fz [])) ∧ ∀ b, E.F b → (E.frz fz h).F b := by
  refine ⟨fun b b' hb => ?_, fzAll_ok H (fun b hb => .inl hb) (fun k hk cb base bk g1 g2 => .inr ⟨k, base, bk, hk, g1, g2⟩) fz [] (fun _ h => h) (Fz.nil _ _ _), fun b hb => .inl hb⟩
  unfold frzN at hb
  split at hb
  · cases hb
  · rename_i hh
    obtain rfl := Option.some.inj hb
    refine ⟨rfl, ?_⟩
    have hn : b ∉ fz := fun hm => by rw [any_beq.2 hm] at hh; cases hh
    rw [frz_sh]
    simp [hn]

theorem HRel.frzz (H : HRel E h) {fz : List Nat} : HRel (E.frz fz h) (frzH fz (fzOf (fzAll h fz [])) 0 h) := by
  obtain ⟨hσ, hφ, hF⟩ := frz_kinds H (fz := fz)
  have from_ : ∀ (q : Nat) b, (frzH fz (fzOf (fzAll h fz [])) 0 h)[q]? = some (some b) → q ∉ fz ∧ ∃ b0, h[q]? = some (some b0) ∧ b = renB (frzN fz) (fzOf (fzAll h fz [])) b0 := by
    intro q b hq
    rw [frzH_get, Option.map_eq_some_iff] at hq
    obtain ⟨o, ho, hm⟩ := hq
    rw [Nat.zero_add] at hm
    split at hm
    · cases hm
    · rename_i hn
      cases o with
      | none => cases hm
      | some b0 => exact ⟨hn, b0, ho, (Option.some.inj hm).symm⟩
  refine ⟨?_, by rw [frzH_len]; exact H.len, fun q b hq => ?_, fun q q' b b' cb ba ba' h1 h2 h3 h4 => ?_, fun b hb => ?_⟩
  · apply List.ext_getElem?
    intro k
    rw [frz_sh, List.getElem?_map, frzH_get, H.sh, List.getElem?_map, Nat.zero_add]
    cases h[k]? with
    | none => rfl
    | some o =>
      simp only [Option.map_some]
      split
      · rfl
      · cases o <;> simp [renB_shape]
  · obtain ⟨hn, b0, hb0, rfl⟩ := from_ q b hq
    obtain ⟨f0, cb, base, c, e, r1, r2, r3, r4, r5⟩ := H.blk q b0 hb0
    refine ⟨by cases b0 <;> exact f0, cb, base, c, e, r1, r2, ?_, by rw [renB_shape]; exact r4, fun i j x hx => ?_⟩
    · rintro (hf | ⟨k', base', bk, m1, m2, m3⟩)
      · exact r3 hf
      · have := H.inj _ _ _ _ _ _ _ hb0 m3 r1 m2
        subst this
        exact hn m1
    · obtain ⟨y, hy, hxy⟩ := renB_cell _ _ _ _ _ _ hx
      obtain ⟨v, hv1, hv2⟩ := r5 i j y hy
      refine ⟨v, by rw [renB_shape]; exact hv1, ?_⟩
      rcases hxy with ⟨cs, rfl, rfl⟩ | ⟨hne, rfl⟩
      · exact ren1_rel hσ hφ (hv2.more hF)
      · cases b0 with
        | box cs => exact absurd rfl (hne cs)
        | ia => exact hv2.more hF
        | arr => exact hv2.more hF
  · obtain ⟨_, b0, hb0, _⟩ := from_ q b h1
    obtain ⟨_, b1, hb1, _⟩ := from_ q' b' h2
    exact H.inj _ _ _ _ _ _ _ hb0 hb1 h3 h4
  · rcases hb with hb | ⟨k, base, bk, m1, m2, m3⟩
    · exact H.frz b hb
    · exact H.own_lt (H.own_of m3 m2)

theorem HRel.ext_frz (H : HRel E h) {fz : List Nat} : Ext E (E.frz fz h) := by
  refine ⟨rfl, rfl, rfl, Nat.le_refl _, fun b hb => .inl hb, fun _ _ _ => rfl, fun _ _ h => h, fun k p _ hp => ?_, H.rlen, fun b hb => ?_, fun b hb => ?_, fun _ c e f h => ⟨c, e, f, h, rfl⟩, H.off⟩
  · rw [frz_sh, Option.map_eq_some_iff] at hp
    obtain ⟨o, ho, hm⟩ := hp
    split at hm
    · cases hm
    · rw [ho, hm]
  · obtain ⟨k, base, p, h1, h2⟩ := hb
    rw [frz_sh, Option.map_eq_some_iff] at h2
    obtain ⟨o, ho, hm⟩ := h2
    split at hm
    · cases hm
    · exact .inl ⟨k, base, p, h1, by rw [ho, hm]⟩
  · rcases hb with hb | ⟨k, base, bk, m1, m2, m3⟩
    · exact .inl hb
    · exact .inr (.inl (H.own_of m3 m2))

/-- **BLOCKS ARE GIVEN UP AHEAD OF A CALL.** -/
theorem CallsA.frz {f : FuncId} {args : List AV} {hp : AHeap} {K : AV → AHeap → Prop} (fz : List Nat)
    (hc : fLg f1n (args.map (ren1 (frzN fz) (fzOf (fzAll hp fz [])))) fun args => fLg fBn (frzH fz (fzOf (fzAll hp fz [])) 0 hp) fun hp => CallsA P f args hp K) : CallsA P f args hp K := by
  rw [fLg_iff (g := id) f1n_iff, List.map_id, fLg_iff (g := id) fBn_iff, List.map_id] at hc
  refine ⟨hc.1, fun E cs H hlen ha => ?_⟩
  obtain ⟨hσ, hφ, hF⟩ := frz_kinds H (fz := fz)
  refine (hc.2 (E.frz fz hp) cs H.frzz (by simpa using hlen) (fun i x v hx hv => ?_)).mono ?_
  · rw [List.getElem?_map, Option.map_eq_some_iff] at hx
    obtain ⟨y, hy, rfl⟩ := hx
    exact ren1_rel hσ hφ ((ha i y v hy hv).more hF)
  · rintro e w' ⟨v, r, h', E', h1, h2, h3, X, h4⟩
    exact ⟨v, r, h', E', h1, h2, h3, H.ext_frz.trans X, h4⟩

end Go.AL
