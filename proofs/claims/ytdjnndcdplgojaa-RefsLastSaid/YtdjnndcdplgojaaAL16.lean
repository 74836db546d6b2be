/- Calls by their contracts: what a caller hands over, lends, and gets back. Seat-independent. -/
import Derived.Test.YtdjnndcdplgojaaAL15
namespace Go.AL
variable {P : Program}

/-- The number at the caller's. -/
def back (own : List Nat) (n : Nat) (i : Nat) : Option Nat :=
  match nth own i with
  | some k => some k
  | none => some (n + (i - own.length))

def backH (own : List Nat) (hp h' : AHeap) : AHeap :=
  setAll hp own (h'.map (·.map (renB (back own hp.length) (fun _ => none)))) ++ (h'.drop own.length).map (·.map (renB (back own hp.length) (fun _ => none)))

/-- Nothing frozen within. -/
def noF0 : AV → Bool
  | .rp .. | .ri .. | .ro .. | .agg _ | .tup _ | .fn _ _ => false
  | _ => true
def noF1 : AV → Bool
  | .agg cs => cs.all noF0
  | .fn _ cs => cs.all noF0
  | x => noF0 x
def noF2 : AV → Bool
  | .tup vs => vs.all noF1
  | x => noF1 x
def noFB : ABlk → Bool
  | .box cs => cs.all noF1
  | .ia _ _ => true
  | .arr _ rows => rows.all fun r => r.all noF0
  | .mp es => es.all fun p => noF1 p.2
def noFH (h : AHeap) : Bool := h.all fun b => match b with | some b => noFB b | none => true

/-! ### Back at the caller -/

section
variable {E : Env} {hp : AHeap} {own bor : List Nat}

/-- The caller's moment behind the call. -/
def Env.backE (E E' : Env) (own bor : List Nat) (hn : Nat) : Env :=
  { w := E'.w,
    F := fun b => E'.F b ∧ ¬ ∃ k base, k ∈ bor ∧ E.S.ρ[k]? = some (b, base),
    S := ⟨E.S.ρ ++ E'.S.ρ.drop own.length,
      (List.range hn).map (fun k => match idx own k with | some i => (E'.S.sh[i]?).getD none | none => (E.S.sh[k]?).getD none) ++ E'.S.sh.drop own.length⟩ }

theorem noF0_any {w : World} {F F' : Nat → Prop} {S : Shp} {x : AV} {v : Value} (hx : noF0 x = true) (hr : Rel w F S x v) : Rel w F' S x v := by
  cases hr <;> simp [noF0] at hx
  case int => exact .int ..
  case bool => exact .bool ..
  case str => exact .str ..
  case pnil => exact .pnil ..
  case snil => exact .snil ..
  case semp => exact .semp ..
  case emp => exact .emp ..
  case fnil => exact .fnil ..
  case inil => exact .inil ..
  case undef => exact .undef ..
  case bp h1 h2 => exact .bp _ _ _ _ _ _ ‹_› ‹_›
  case ep h1 h2 => exact .ep _ _ _ _ _ _ _ ‹_› ‹_›
  case sl h1 h2 h3 => exact .sl _ _ _ _ _ _ _ _ ‹_› ‹_› ‹_›
  case yld => exact .yld ..
  case gh => exact .gh ..
  case len h1 h2 => exact .len _ _ _ _ h1 h2
  case slc => exact .slc _ _ _ _ _ _ _ _ ‹_› ‹_› ‹_›
  case bt => exact .bt _ _ _ _ _ _ _ ‹_› ‹_› ‹_›
  case ifv => exact .ifv ..
  case mnil => exact .mnil ..
  case map => exact .map _ _ _ _ ‹_›

theorem noF_list {w : World} {F F' : Nat → Prop} {S : Shp} {f : AV → Bool} (hf : ∀ x v, f x = true → Rel w F S x v → Rel w F' S x v) {cs : List AV} (hc : cs.all f = true) {vs : Array Value}
    (h : ∀ (i : Nat) c v, cs[i]? = some c → vs[i]? = some v → Rel w F S c v) : ∀ (i : Nat) c v, cs[i]? = some c → vs[i]? = some v → Rel w F' S c v :=
  fun i c v h1 h2 => hf c v (List.all_eq_true.1 hc c (List.mem_of_getElem? h1)) (h i c v h1 h2)

theorem noF1_any {w : World} {F F' : Nat → Prop} {S : Shp} {x : AV} {v : Value} (hx : noF1 x = true) (hr : Rel w F S x v) : Rel w F' S x v := by
  cases x with
  | agg cs =>
    cases hr with
    | agg _ _ vs h1 h2 => exact .agg _ _ _ h1 (noF_list (fun _ _ => noF0_any) hx h2)
  | fn f cs =>
    cases hr with
    | fn _ _ _ vs h1 h2 => exact .fn _ _ _ _ h1 (noF_list (fun _ _ => noF0_any) hx h2)
  | _ => exact noF0_any hx hr

theorem noF2_any {w : World} {F F' : Nat → Prop} {S : Shp} {x : AV} {v : Value} (hx : noF2 x = true) (hr : Rel w F S x v) : Rel w F' S x v := by
  cases x with
  | tup cs =>
    cases hr with
    | tup _ _ vs h1 h2 => exact .tup _ _ _ h1 (noF_list (fun _ _ => noF1_any) hx h2)
  | _ => exact noF1_any hx hr

theorem CallsA.call {f : FuncId} {args args' : List AV} {hp h0 : AHeap} {R K : AV → AHeap → Prop} (own bor : List Nat) (h : CallsA P f args' h0 R) (hok : okKeep 0 hp.length own = true) (hbl : liveAll hp bor = true)
    (hap : apartAll own bor = true) (hv : viewH hp own own = some h0) (hargs : mapO (view1 hp own bor) args = some args')
    (hK : ∀ r h', R r h' → (bor = [] ∨ (noF2 r && noFH h') = true) ∧ K (ren2 (back own hp.length) (fun _ => none) r) (backH own hp h')) : CallsA P f args hp K := by
  refine fun E cs H hT hlen ha => ?_
  obtain ⟨m1, m2⟩ := mapO_get hargs
  have hlt := okKeep_lt hok
  have hinj := okKeep_inj hok
  have Hs := H.sub hok hbl hap hv
  obtain ⟨v1, v2⟩ := viewH_get hv
  refine (h (E.sub own bor) cs Hs (hT.mono (fun _ h => .inl h) fun _ _ _ => rfl) (by omega) (fun i x v hx hvv => ?_)).mono ?_
  · have hi : i < args.length := by rw [m1]; exact (List.getElem?_eq_some_iff.1 hx).1
    exact view1_rel H hlt (ha i _ v (List.getElem?_eq_getElem hi) hvv) (m2 i _ x (List.getElem?_eq_getElem hi) hx)
  rintro e w' ⟨v, r, h', E', rfl, hr, rfl, X, H', hvr⟩
  obtain ⟨hno, hk⟩ := hK r h' hr
  have hol : own.length ≤ E'.S.ρ.length := by
    rcases Nat.eq_zero_or_pos own.length with h | h
    · omega
    · have := X.rho (own.length - 1) _ (List.getElem?_eq_getElem (by simp [Env.sub]; omega))
      have := (List.getElem?_eq_some_iff.1 this).1
      omega
  have hol' : own.length ≤ h'.length := by rw [← H'.len]; exact hol
  have hl := H.len
  have hrl := H.rlen
  have hrl' := H'.rlen
  let E2 := E.backE E' own bor hp.length
  have rho1 : ∀ k, k < hp.length → E2.S.ρ[k]? = E.S.ρ[k]? := fun k hk => by
    simp only [E2, Env.backE]; rw [List.getElem?_append_left (by omega)]
  have sh1 : ∀ k, k < hp.length → E2.S.sh[k]? = some (match idx own k with | some i => (E'.S.sh[i]?).getD none | none => (E.S.sh[k]?).getD none) := fun k hk => by
    simp only [E2, Env.backE]; rw [List.getElem?_append_left (by simpa using hk), List.getElem?_map, List.getElem?_range hk]; rfl
  have rho2 : ∀ i, E2.S.ρ[hp.length + i]? = E'.S.ρ[own.length + i]? := fun i => by
    simp only [E2, Env.backE]; rw [List.getElem?_append_right (by omega), List.getElem?_drop]; congr 1; omega
  have sh2 : ∀ i, E2.S.sh[hp.length + i]? = E'.S.sh[own.length + i]? := fun i => by
    simp only [E2, Env.backE]; rw [List.getElem?_append_right (by simp), List.getElem?_drop]; congr 1; simp
  have rhoOwn : ∀ (i k : Nat), own[i]? = some k → E'.S.ρ[i]? = E.S.ρ[k]? := by
    intro i k hi
    have hk := hlt k (List.mem_of_getElem? hi)
    have := (sub_get (bor := bor) H hlt hi).1
    rw [List.getElem?_eq_getElem (show k < E.S.ρ.length by omega)] at this ⊢
    exact X.rho i _ this
  have hσ : ∀ b b', back own hp.length b = some b' → E2.S.ρ[b']? = E'.S.ρ[b]? ∧ E2.S.sh[b']? = E'.S.sh[b]? := by
    intro b b' hb
    unfold back at hb
    rw [nth_eq] at hb
    split at hb
    · rename_i k hbk
      obtain rfl := Option.some.inj hb
      have hk := hlt k (List.mem_of_getElem? hbk)
      have hi : b < own.length := (List.getElem?_eq_some_iff.1 hbk).1
      refine ⟨by rw [rho1 k hk, rhoOwn b k hbk], ?_⟩
      rw [sh1 k hk, idx_of hinj hbk]
      simp only
      rw [List.getElem?_eq_getElem (show b < E'.S.sh.length by omega)]; rfl
    · rename_i hbn
      obtain rfl := Option.some.inj hb
      have hge : own.length ≤ b := by
        rcases Nat.lt_or_ge b own.length with h | h
        · rw [List.getElem?_eq_getElem h] at hbn; cases hbn
        · exact h
      rw [rho2, sh2, show own.length + (b - own.length) = b by omega]
      exact ⟨rfl, rfl⟩
  have borown : ∀ b, (∃ k base, k ∈ bor ∧ E.S.ρ[k]? = some (b, base)) → E.S.own b := by
    rintro b ⟨k, base, hk, hrk⟩
    unfold liveAll at hbl
    rw [List.all_eq_true] at hbl
    have := hbl k hk
    rw [nth_eq] at this
    split at this
    · rename_i bb hbb; exact H.own_of hbb hrk
    · cases this
  have subown : ∀ b, (E.sub own bor).S.own b → E.S.own b := by
    rintro b ⟨i, base, p, h1, h2⟩
    have hi : i < own.length := by have := (List.getElem?_eq_some_iff.1 h1).1; simpa [Env.sub] using this
    obtain ⟨e1, e2⟩ := sub_get (bor := bor) H hlt (List.getElem?_eq_getElem hi)
    rw [e1] at h1
    rw [e2] at h2
    exact ⟨_, base, p, h1, h2⟩
  have shlive : ∀ (k : Nat) p, k < hp.length → E2.S.sh[k]? = some (some p) → E.S.sh[k]? = some (some p) ∧ (∀ i : Nat, own[i]? = some k → E'.S.sh[i]? = some (some p)) := by
    intro k p hk hp'
    rw [sh1 k hk] at hp'
    cases hx : idx own k with
    | some i =>
      rw [hx] at hp'
      have hik := idx_get hx
      have hi : i < own.length := (List.getElem?_eq_some_iff.1 hik).1
      simp only [Option.some.injEq] at hp'
      rw [List.getElem?_eq_getElem (show i < E'.S.sh.length by omega)] at hp'
      have h3 : E'.S.sh[i]? = some (some p) := by rw [List.getElem?_eq_getElem (show i < E'.S.sh.length by omega)]; exact congrArg some hp'
      have h4 := X.sh i p (by simp [Env.sub]; exact hi) h3
      rw [(sub_get (bor := bor) H hlt hik).2] at h4
      exact ⟨h4, fun j hj => by rw [hinj j i k hj hik]; exact h3⟩
    | none =>
      rw [hx] at hp'
      simp only [Option.some.injEq] at hp'
      rw [List.getElem?_eq_getElem (show k < E.S.sh.length by omega)] at hp'
      refine ⟨by rw [List.getElem?_eq_getElem (show k < E.S.sh.length by omega)]; exact congrArg some hp', fun i hi => absurd (List.mem_of_getElem? hi) (idx_none hx)⟩
  have XE : Ext E E2 := by
    refine ⟨X.os, X.tape, X.output, X.size, fun b hb => ⟨X.frz b (.inl hb), fun hbb => H.off b hb (borown b hbb)⟩, fun b hb hn => X.same b hb (fun ho => hn (subown b ho)), fun k p hp' => ?_, fun k p hk hp' => ?_, hrl, fun b hb => ?_, fun b hb => ?_, X.cap, X.mcap, H.off⟩
    · rw [rho1 k (by have := (List.getElem?_eq_some_iff.1 hp').1; omega)]; exact hp'
    · exact (shlive k p (by omega) hp').1
    · obtain ⟨q, base, p, h1, h2⟩ := hb
      by_cases hq : q < hp.length
      · rw [rho1 q hq] at h1
        exact .inl ⟨q, base, p, h1, (shlive q p hq h2).1⟩
      · rw [show q = hp.length + (q - hp.length) by omega, rho2] at h1
        rw [show q = hp.length + (q - hp.length) by omega, sh2] at h2
        rcases X.own b ⟨_, base, p, h1, h2⟩ with h | h
        · exact .inl (subown b h)
        · exact .inr h
    · rcases X.nfrz b hb.1 with h | h | h
      · rcases h with h | h
        · exact .inl h
        · exact absurd h hb.2
      · exact .inr (.inl (subown b h))
      · exact .inr (.inr h)
  have Fmono : bor = [] → ∀ b, E'.F b → E2.F b := by
    rintro rfl b hb
    exact ⟨hb, by rintro ⟨k, base, hk, _⟩; simp at hk⟩
  have chF : ∀ {S x v}, Rel E'.w E'.F S x v → bor = [] → Rel E'.w E2.F S x v := fun {S x v} hR hb =>
    Rel.mono (w := E'.w) (F := E'.F) (w' := E'.w) (F' := E2.F) (Fmono hb) (fun _ _ _ => rfl) hR S (fun _ _ h => h) (fun _ _ _ _ h => h) fun b c e f h => ⟨c, e, f, h, rfl, rfl⟩
  have hlb : (h'.map (·.map (renB (back own hp.length) (fun _ => none)))).length = h'.length := by simp
  obtain ⟨s1, s2, s3⟩ := setAll_get own hp (h'.map (·.map (renB (back own hp.length) (fun _ => none)))) hlt hinj (by rw [hlb]; exact hol')
  -- where a block comes from
  have from_ : ∀ (q : Nat) b, (backH own hp h')[q]? = some (some b) → (∃ i b0, h'[i]? = some (some b0) ∧ b = renB (back own hp.length) (fun _ => none) b0 ∧ back own hp.length i = some q) ∨ (q < hp.length ∧ q ∉ own ∧ hp[q]? = some (some b)) := by
    intro q b hq
    unfold backH at hq
    by_cases hql : q < hp.length
    · rw [List.getElem?_append_left (by omega)] at hq
      by_cases hqo : q ∈ own
      · obtain ⟨i, hi, he⟩ := List.getElem_of_mem hqo
        have hik : own[i]? = some q := by rw [List.getElem?_eq_getElem hi, he]
        rw [s2 i q hik, List.getElem?_map, Option.map_eq_some_iff] at hq
        obtain ⟨o, ho, hm⟩ := hq
        cases o with
        | none => cases hm
        | some b0 => exact .inl ⟨i, b0, ho, (Option.some.inj hm).symm, by simp [back, nth_eq, hik]⟩
      · rw [s3 q hqo] at hq
        exact .inr ⟨hql, hqo, hq⟩
    · rw [List.getElem?_append_right (by omega), s1, List.getElem?_map, List.getElem?_drop, Option.map_eq_some_iff] at hq
      obtain ⟨o, ho, hm⟩ := hq
      cases o with
      | none => cases hm
      | some b0 =>
        refine .inl ⟨_, b0, ho, (Option.some.inj hm).symm, ?_⟩
        simp only [back, nth_eq]
        rw [List.getElem?_eq_none (by omega)]
        simp only [Option.some.injEq]; omega
  have H2 : HRel E2 (backH own hp h') := by
    refine ⟨?_, ?_, fun q b hq => ?_, fun q q' b b' cb ba ba' h1 h2 h3 h4 => ?_, fun b hb => H'.frz b hb.1⟩
    · simp only [E2, Env.backE, backH, List.map_append]
      congr 1
      · apply List.ext_getElem?
        intro k
        rw [List.getElem?_map, List.getElem?_map]
        by_cases hk : k < hp.length
        · rw [List.getElem?_range hk]
          simp only [Option.map_some]
          cases hx : idx own k with
          | some i =>
            have hik := idx_get hx
            rw [s2 i k hik, List.getElem?_map, H'.sh]
            have hi : i < h'.length := by have := (List.getElem?_eq_some_iff.1 hik).1; omega
            simp only [List.getElem?_map]
            rw [List.getElem?_eq_getElem hi]
            cases h'[i] <;> simp [renB_shape]
          | none =>
            rw [s3 k (idx_none hx), H.sh, List.getElem?_map, List.getElem?_eq_getElem hk]
            rfl
        · rw [List.getElem?_eq_none (by simp; omega), List.getElem?_eq_none (by omega)]; rfl
      · rw [H'.sh, List.map_map, ← List.map_drop]
        apply List.map_congr_left
        intro o _
        cases o <;> simp [renB_shape]
    · simp only [E2, Env.backE, backH, List.length_append, s1, List.length_map, List.length_drop]
      rw [H'.len]; omega
    · rcases from_ q b hq with ⟨i, b0, hb0, rfl, hback⟩ | ⟨hql, hqo, hb⟩
      · obtain ⟨f0, cb, base, c, e, r1, r2, r3, r4, r5⟩ := H'.blk i b0 hb0
        refine ⟨by cases b0 <;> exact f0, cb, base, c, e, by rw [(hσ i q hback).1]; exact r1, by rw [renB_obj]; exact r2, fun hf => r3 hf.1, by rw [renB_room]; exact r4, fun p j x hx => ?_⟩
        obtain ⟨y, hy, hxy⟩ := renB_cell _ _ _ _ _ _ hx
        obtain ⟨v, hv1, hv2⟩ := r5 p j y hy
        refine ⟨v, by rw [renB_shape]; exact hv1, ?_⟩
        have hnb : bor = [] ∨ noFB b0 = true := hno.imp id fun hh => by
          rw [Bool.and_eq_true] at hh
          have := List.all_eq_true.1 hh.2 _ (List.mem_of_getElem? hb0)
          exact this
        rcases hxy with ⟨cs, rfl, rfl⟩ | ⟨hne, rfl⟩
        · refine ren1_rel hσ (fun k b h => by cases h) ?_
          rcases hnb with hnb | hnb
          · exact chF hv2 hnb
          · simp only [ABlk.cell] at hy
            split at hy <;> try (cases hy; done)
            exact noF1_any (List.all_eq_true.1 hnb y (List.mem_of_getElem? hy)) hv2
        · cases b0 with
          | box cs => exact absurd rfl (hne cs)
          | ia k xs =>
            simp only [ABlk.cell] at hy
            split at hy <;> try (cases hy; done)
            rw [Option.map_eq_some_iff] at hy
            obtain ⟨m, _, rfl⟩ := hy
            exact noF0_any rfl hv2
          | arr s rows =>
            rcases hnb with hnb | hnb
            · exact chF hv2 hnb
            · simp only [ABlk.cell, Option.bind_eq_some_iff] at hy
              obtain ⟨row, hrow, hy⟩ := hy
              have h1 := List.all_eq_true.1 hnb row (List.mem_of_getElem? hrow)
              exact noF0_any (List.all_eq_true.1 h1 x (List.mem_of_getElem? hy)) hv2
          | mp es =>
            rcases hnb with hnb | hnb
            · exact chF hv2 hnb
            · simp only [ABlk.cell, Option.bind_eq_some_iff] at hy
              obtain ⟨p, hp, hy⟩ := hy
              have h1 := List.all_eq_true.1 hnb p (List.mem_of_getElem? hp)
              match j, hy with
              | 0, hy => obtain rfl := Option.some.inj hy; exact noF0_any rfl hv2
              | 1, hy => obtain rfl := Option.some.inj hy; exact noF1_any h1 hv2
              | j + 2, hy => simp at hy
      · obtain ⟨f0, cb, base, c, e, r1, r2, r3, r4, r5⟩ := H.blk q b hb
        have hns : ¬ (E.sub own bor).S.own cb := by
          rintro ⟨i, base', p, h1, h2⟩
          have hi : i < own.length := by have := (List.getElem?_eq_some_iff.1 h1).1; simpa [Env.sub] using this
          have hik := List.getElem?_eq_getElem hi
          obtain ⟨e1, e2⟩ := sub_get (bor := bor) H hlt hik
          rw [e1] at h1
          obtain ⟨bb, _, g1, _⟩ := v2 i _ hik
          have := H.inj _ _ _ _ cb base base' hb g1 r1 h1
          exact hqo (this ▸ List.getElem_mem hi)
        refine ⟨f0, cb, base, c, e, by rw [rho1 q hql]; exact r1, ?_, fun hf => ?_, r4, fun p j x hx => ?_⟩
        · rw [← r2]
          exact X.same cb (Array.getElem?_eq_some_iff.1 r2).1 hns
        · rcases X.nfrz cb hf.1 with h | h | h
          · rcases h with h | h
            · exact r3 h
            · exact hf.2 h
          · exact hns h
          · have := (Array.getElem?_eq_some_iff.1 r2).1
            have h' : E.w.heap.size ≤ cb := h
            omega
        · obtain ⟨v, hv1, hv2⟩ := r5 p j x hx
          exact ⟨v, hv1, inner_mono XE H.frz b hv2⟩
    · have key : ∀ (q : Nat) b ba, (backH own hp h')[q]? = some (some b) → E2.S.ρ[q]? = some (cb, ba) →
          (∃ i b0, h'[i]? = some (some b0) ∧ E'.S.ρ[i]? = some (cb, ba) ∧ back own hp.length i = some q) ∨ (q < hp.length ∧ q ∉ own ∧ hp[q]? = some (some b) ∧ E.S.ρ[q]? = some (cb, ba)) := by
        intro q b ba hq hrq
        rcases from_ q b hq with ⟨i, b0, hb0, _, hback⟩ | ⟨hql, hqo, hb⟩
        · exact .inl ⟨i, b0, hb0, by rw [← (hσ i q hback).1]; exact hrq, hback⟩
        · exact .inr ⟨hql, hqo, hb, by rw [← rho1 q hql]; exact hrq⟩
      have cross : ∀ {i : Nat} {b0 : ABlk} {ba : Nat} {q : Nat} {b : ABlk} {ba' : Nat}, h'[i]? = some (some b0) → E'.S.ρ[i]? = some (cb, ba) → q ∉ own → hp[q]? = some (some b) → E.S.ρ[q]? = some (cb, ba') → False := by
        intro i b0 ba q b ba' g1 g2 g3 g4 g5
        rcases X.own cb (H'.own_of g1 g2) with h | h
        · obtain ⟨j, base', p, e1, e2⟩ := h
          have hj : j < own.length := by have := (List.getElem?_eq_some_iff.1 e1).1; simpa [Env.sub] using this
          have hjk := List.getElem?_eq_getElem hj
          rw [(sub_get (bor := bor) H hlt hjk).1] at e1
          obtain ⟨bb, _, d1, _⟩ := v2 j _ hjk
          have := H.inj _ _ _ _ cb ba' base' g4 d1 g5 e1
          exact g3 (this ▸ List.getElem_mem hj)
        · have := H.own_lt (H.own_of g4 g5)
          have h' : E.w.heap.size ≤ cb := h
          omega
      rcases key q b ba h1 h3 with ⟨i, b0, a1, a2, a3⟩ | ⟨a1, a2, a3, a4⟩ <;> rcases key q' b' ba' h2 h4 with ⟨i', b0', c1, c2, c3⟩ | ⟨c1, c2, c3, c4⟩
      · have := H'.inj i i' b0 b0' cb ba ba' a1 c1 a2 c2
        subst this
        rw [a3] at c3
        exact Option.some.inj c3
      · exact (cross a1 a2 c2 c3 c4).elim
      · exact (cross c1 c2 a2 a3 a4).elim
      · exact H.inj q q' b b' cb ba ba' a3 c3 a4 c4
  refine ⟨v, _, _, E2, rfl, hk, rfl, XE, H2, ren2_rel hσ (fun k b h => by cases h) ?_⟩
  rcases hno with hno | hno
  · exact chF hvr hno
  · rw [Bool.and_eq_true] at hno
    exact noF2_any hno.1 hvr

end

end Go.AL
