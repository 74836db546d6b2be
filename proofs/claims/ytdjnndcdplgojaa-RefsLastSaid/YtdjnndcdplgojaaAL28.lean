/- Blocks that are given up ahead of a call: from then on they stay as they are. Seat-independent. -/
import Derived.Test.YtdjnndcdplgojaaAL19
namespace Go.AL
variable {P : Program} {E : Env} {h : AHeap}

def frzN (fz : List Nat) (b : Nat) : Option Nat :=
  match fz.any (Nat.beq b) with
  | true => none
  | false => some b

def frzH (fz : List Nat) (φ : Nat → Option ABlk) : Nat → AHeap → AHeap
  | _, [] => []
  | i, b :: bs => (match fz.any (Nat.beq i) with
    | true => none
    | false => match b with
      | some b => some (renB (frzN fz) φ b)
      | none => none) :: frzH fz φ (i + 1) bs

def Env.frz (E : Env) (fz : List Nat) (h : AHeap) : Env :=
  { w := E.w, F := fun b => E.F b ∨ ∃ k base bk, k ∈ fz ∧ E.S.ρ[k]? = some (b, base) ∧ h[k]? = some (some bk), S := ⟨E.S.ρ, (List.range E.S.sh.length).map fun k => if k ∈ fz then none else (E.S.sh[k]?).getD none⟩ }

theorem any_beq {fz : List Nat} {b : Nat} : fz.any (Nat.beq b) = true ↔ b ∈ fz := by
  rw [List.any_eq_true]
  exact ⟨fun ⟨x, h1, h2⟩ => by rw [Nat.eq_of_beq_eq_true h2]; exact h1, fun h => ⟨b, h, by simp⟩⟩

theorem frzH_get {fz : List Nat} {φ : Nat → Option ABlk} : ∀ (h : AHeap) (i q : Nat), (frzH fz φ i h)[q]? = (h[q]?).map fun o => if i + q ∈ fz then none else o.map (renB (frzN fz) φ)
  | [], i, q => by simp [frzH]
  | b :: bs, i, q => by
    simp only [frzH]
    cases q with
    | zero =>
      simp only [List.getElem?_cons_zero, Option.map_some, Nat.add_zero]
      split
      · rename_i hh; rw [if_pos (any_beq.1 hh)]
      · rename_i hh
        rw [if_neg (fun hm => by rw [any_beq.2 hm] at hh; cases hh)]
        cases b <;> rfl
    | succ q =>
      simp only [List.getElem?_cons_succ]
      rw [frzH_get bs (i + 1) q, show i + 1 + q = i + (q + 1) by omega]

theorem frzH_len {fz : List Nat} {φ : Nat → Option ABlk} : ∀ (h : AHeap) (i : Nat), (frzH fz φ i h).length = h.length
  | [], _ => rfl
  | _ :: bs, i => by simp [frzH, frzH_len bs]

theorem frz_sh {fz : List Nat} (k : Nat) : (E.frz fz h).S.sh[k]? = (E.S.sh[k]?).map fun o => if k ∈ fz then none else o := by
  simp only [Env.frz, List.getElem?_map]
  by_cases hk : k < E.S.sh.length
  · rw [List.getElem?_range hk]; simp [hk]
  · rw [List.getElem?_eq_none (by simp; omega), List.getElem?_eq_none (by omega)]; rfl

theorem frz_kinds (H : HRel E h) {fz : List Nat} : (∀ b b', frzN fz b = some b' → (E.frz fz h).S.ρ[b']? = E.S.ρ[b]? ∧ (E.frz fz h).S.sh[b']? = E.S.sh[b]?) ∧ Fz E.w (E.frz fz h).F E.S (fzOf (fzAll h fz [])) ∧ ∀ b, E.F b → (E.frz fz h).F b := by
  refine ⟨fun b b' hb => ?_, fzAll_ok H (fun b hb => .inl hb) (fun k hk cb base bk g1 g2 => .inr ⟨k, base, bk, hk, g1, g2⟩) fz [] (fun _ h => h) (Fz.nil _ _ _), fun b hb => .inl hb⟩
  unfold frzN at hb
  split at hb
  · cases hb
  · rename_i hh
    obtain rfl := Option.some.inj hb
    refine ⟨rfl, ?_⟩
    have hn : b ∉ fz := fun hm => by rw [any_beq.2 hm] at hh; cases hh
    rw [frz_sh]
    simp [hn]

theorem HRel.frzz (H : HRel E h) {fz : List Nat} : HRel (E.frz fz h) (frzH fz (fzOf (fzAll h fz [])) 0 h) := by
  obtain ⟨hσ, hφ, hF⟩ := frz_kinds H (fz := fz)
  have from_ : ∀ (q : Nat) b, (frzH fz (fzOf (fzAll h fz [])) 0 h)[q]? = some (some b) → q ∉ fz ∧ ∃ b0, h[q]? = some (some b0) ∧ b = renB (frzN fz) (fzOf (fzAll h fz [])) b0 := by
    intro q b hq
    rw [frzH_get, Option.map_eq_some_iff] at hq
    obtain ⟨o, ho, hm⟩ := hq
    rw [Nat.zero_add] at hm
    split at hm
    · cases hm
    · rename_i hn
      cases o with
      | none => cases hm
      | some b0 => exact ⟨hn, b0, ho, (Option.some.inj hm).symm⟩
  refine ⟨?_, by rw [frzH_len]; exact H.len, fun q b hq => ?_, fun q q' b b' cb ba ba' h1 h2 h3 h4 => ?_, fun b hb => ?_⟩
  · apply List.ext_getElem?
    intro k
    rw [frz_sh, List.getElem?_map, frzH_get, H.sh, List.getElem?_map, Nat.zero_add]
    cases h[k]? with
    | none => rfl
    | some o =>
      simp only [Option.map_some]
      split
      · rfl
      · cases o <;> simp [renB_shape]
  · obtain ⟨hn, b0, hb0, rfl⟩ := from_ q b hq
    obtain ⟨f0, cb, base, c, e, r1, r2, r3, r4, r5⟩ := H.blk q b0 hb0
    refine ⟨by cases b0 <;> exact f0, cb, base, c, e, r1, by rw [renB_obj]; exact r2, ?_, by rw [renB_room]; exact r4, fun i j x hx => ?_⟩
    · rintro (hf | ⟨k', base', bk, m1, m2, m3⟩)
      · exact r3 hf
      · have := H.inj _ _ _ _ _ _ _ hb0 m3 r1 m2
        subst this
        exact hn m1
    · obtain ⟨y, hy, hxy⟩ := renB_cell _ _ _ _ _ _ hx
      obtain ⟨v, hv1, hv2⟩ := r5 i j y hy
      refine ⟨v, by rw [renB_shape]; exact hv1, ?_⟩
      rcases hxy with ⟨cs, rfl, rfl⟩ | ⟨hne, rfl⟩
      · exact ren1_rel hσ hφ (hv2.more hF)
      · cases b0 with
        | box cs => exact absurd rfl (hne cs)
        | ia => exact hv2.more hF
        | arr => exact hv2.more hF
        | mp => exact hv2.more hF
  · obtain ⟨_, b0, hb0, _⟩ := from_ q b h1
    obtain ⟨_, b1, hb1, _⟩ := from_ q' b' h2
    exact H.inj _ _ _ _ _ _ _ hb0 hb1 h3 h4
  · rcases hb with hb | ⟨k, base, bk, m1, m2, m3⟩
    · exact H.frz b hb
    · exact H.own_lt (H.own_of m3 m2)

theorem HRel.ext_frz (H : HRel E h) {fz : List Nat} : Ext E (E.frz fz h) := by
  refine ⟨rfl, rfl, rfl, Nat.le_refl _, fun b hb => .inl hb, fun _ _ _ => rfl, fun _ _ h => h, fun k p _ hp => ?_, H.rlen, fun b hb => ?_, fun b hb => ?_, fun _ c e f h => ⟨c, e, f, h, rfl, rfl⟩, fun _ es q h => ⟨es, q, h⟩, H.off⟩
  · rw [frz_sh, Option.map_eq_some_iff] at hp
    obtain ⟨o, ho, hm⟩ := hp
    split at hm
    · cases hm
    · rw [ho, hm]
  · obtain ⟨k, base, p, h1, h2⟩ := hb
    rw [frz_sh, Option.map_eq_some_iff] at h2
    obtain ⟨o, ho, hm⟩ := h2
    split at hm
    · cases hm
    · exact .inl ⟨k, base, p, h1, by rw [ho, hm]⟩
  · rcases hb with hb | ⟨k, base, bk, m1, m2, m3⟩
    · exact .inl hb
    · exact .inr (.inl (H.own_of m3 m2))

/-- **BLOCKS ARE GIVEN UP AHEAD OF A CALL.** -/
theorem CallsA.frz {f : FuncId} {args : List AV} {hp : AHeap} {K : AV → AHeap → Prop} (fz : List Nat)
    (hc : fLg f1n (args.map (ren1 (frzN fz) (fzOf (fzAll hp fz [])))) fun args => fLg fBn (frzH fz (fzOf (fzAll hp fz [])) 0 hp) fun hp => CallsA P f args hp K) : CallsA P f args hp K := by
  rw [fLg_iff (g := id) f1n_iff, List.map_id, fLg_iff (g := id) fBn_iff, List.map_id] at hc
  refine fun E cs H hT hlen ha => ?_
  obtain ⟨hσ, hφ, hF⟩ := frz_kinds H (fz := fz)
  refine (hc (E.frz fz hp) cs H.frzz (hT.mono (fun _ h => .inl h) fun _ _ _ => rfl) (by simpa using hlen) (fun i x v hx hv => ?_)).mono ?_
  · rw [List.getElem?_map, Option.map_eq_some_iff] at hx
    obtain ⟨y, hy, rfl⟩ := hx
    exact ren1_rel hσ hφ ((ha i y v hy hv).more hF)
  · rintro e w' ⟨v, r, h', E', h1, h2, h3, X, h4⟩
    exact ⟨v, r, h', E', h1, h2, h3, H.ext_frz.trans X, h4⟩

end Go.AL

/-! Small words for contracts. Seat-independent. -/

namespace Go.AL

theorem wrap_id {n : Int} (h1 : -9223372036854775808 ≤ n) (h2 : n ≤ 9223372036854775807) : IntKind.wrap .i64 n = n := by
  rw [IntKind.wrap_i64]; omega

theorem wrap_u64 {n : Int} (h1 : 0 ≤ n) (h2 : n < 2 ^ 64) : IntKind.wrap .u64 n = n := by
  simp [IntKind.wrap, IntKind.bits, IntKind.signed]; omega

theorem wrap_u64_nn (n : Int) : 0 ≤ IntKind.wrap .u64 n ∧ IntKind.wrap .u64 n < 2 ^ 64 := by
  simp [IntKind.wrap, IntKind.bits, IntKind.signed]; omega

/-- A whole number. -/
abbrev iv (n : Int) : AV := .int .i64 n

/-- A plane, as it is handed over. -/
def pl (w h : Int) (v : List Int) : AV := .agg [.int .i64 w, .int .i64 h, .ri .i64 v]

theorem getD_at {v : List Int} {i : Nat} (h : i < v.length) : v.getD i 0 = v[i] := by simp [List.getD, h]

end Go.AL

/-! Rows that are read at a place that isn't known. Seat-independent. -/

namespace Go.AL

theorem nth_get {α : Type} : ∀ (l : List α) (i : Nat), nth l i = l[i]?
  | [], i => by cases i <;> rfl
  | x :: xs, 0 => rfl
  | x :: xs, i + 1 => by rw [nth, nth_get xs i]; simp

section
variable {tm : List (Nat × AV)} {hp : AHeap} {hn : Nat}

theorem aop_loadN_arr {n : Nat} {a : Opd} {b i j s : Nat} {rows : List (List AV)} {row l : List AV} (hr : nth rows i = some row) (he : ev tm a = .ep b i j) (hb : nth hp b = some (some (.arr s rows))) (hl : part row j n = some l) :
    aop tm hp hn (.loadN n a) = some (true, .agg l, .keep) := by
  simp only [aop, he, readAt, hb, hr, hl, Option.map_some]

theorem aop_load1_arr {a : Opd} {b i j s : Nat} {rows : List (List AV)} {row : List AV} {v : AV} (hr : nth rows i = some row) (he : ev tm a = .ep b i j) (hb : nth hp b = some (some (.arr s rows))) (hl : part row j 1 = some [v]) :
    aop tm hp hn (.load1 a) = some (true, v, .keep) := by
  simp only [aop, he, readAt, hb, hr, hl, Option.map_some]

theorem aop_idxS_ro {x i : Opd} {s : Nat} {k : IntKind} {n : Int} {rows : List (List AV)} {row : List AV} (hr : nth rows n.toNat = some row) (hx : ev tm x = .ro s rows) (hi : ev tm i = .int k n) :
    aop tm hp hn (.idxS s x i) = some (decide (0 ≤ n), .rp row 0, .keep) := by
  have : Nat.beq s s = true := by simp
  simp only [aop, hx, hi, hr, this]

theorem same_of {hp' : AHeap} {x : Nat × AOp} {xs : List (Nat × AOp)} (h : aop tm hp hn x.2 = aop tm hp' hn x.2) (k : same tm hp hp' hn xs) : same tm hp hp' hn (x :: xs) := ⟨h, k⟩
theorem same_nil {hp' : AHeap} : same tm hp hp' hn [] := trivial
end
end Go.AL

/-! Loops round by round, each with what it keeps; answers seen as others. Seat-independent. -/

namespace Go.AL
variable {P : Program}

def LoopS (body : (AExit → St → Prop) → St → Prop) (Q : AExit → St → Prop) : Nat → St → Prop
  | 0, _ => False
  | n + 1, st => body (fun e st' => match e with
      | .normal => PtK (LoopS body Q n) st'
      | e => Q e st') st

/-- A loop, round by round: at each head it is said what is kept. -/
theorem LoopA.steps {c : ACode} {Q : AExit → St → Prop} {st : St} (n : Nat) (live keep fz : List Nat) (hok : okKeep st.n0 st.hn (keep ++ fz) = true) (h : st.fnorm live keep fz (LoopS (wpA P c) Q n)) : LoopA (wpA P c) Q st := by
  refine ⟨LoopS (wpA P c) Q, ⟨n, live, keep, fz, hok, (St.fnorm_iff ..).1 h⟩, fun n st h => ?_⟩
  cases n with
  | zero => exact h.elim
  | succ n =>
    refine wpA_mono c ?_ h
    intro e st h
    cases e with
    | normal =>
      simp only at h
      unfold PtK at h
      obtain ⟨live, keep, fz, h1, h2⟩ := h
      exact ⟨n, live, keep, fz, Nat.lt_succ_self _, h1, h2⟩
    | exit id => exact h
    | ret => exact h

/-- What is answered is seen as another. -/
theorem CallsA.le {f : FuncId} {args : List AV} {h : AHeap} {R R' : AV → AHeap → Prop} (hc : CallsA P f args h R) (hl : ∀ r h', R r h' → ∃ r', r.le r' ∧ R' r' h') : CallsA P f args h R' := by
  refine fun E cs H hT hlen ha => (hc E cs H hT hlen ha).mono ?_
  rintro e w' ⟨v, r, h', E', h1, h2, h3, h4, h5, h6⟩
  obtain ⟨r', h7, h8⟩ := hl r h' h2
  exact ⟨v, r', h', E', h1, h8, h3, h4, h5, h7 _ _ _ _ h6⟩

theorem CallsF.le {f : FuncId} {args : List AV} {h hv : AHeap} {v : AV} (hc : CallsA P f args h fun r h' => r.le v ∧ h' = hv) : CallsF P f args h v hv :=
  hc.le fun _ _ ⟨h1, h2⟩ => ⟨v, h1, rfl, h2⟩

theorem CallsF.weak {f : FuncId} {args args' : List AV} {h hv : AHeap} {v : AV} (hl : LeL args args') (hc : CallsF P f args' h v hv) : CallsF P f args h v hv := CallsA.weak hl hc

theorem AV.le.of_eq {x y : AV} (h : x = y) : x.le y := h ▸ AV.le.refl x
end Go.AL

/-! A function entered with blocks that it hands back anew: the first m stay where they are, the others' places are given up. Seat-independent. -/

namespace Go.AL
variable {P : Program} {E : Env} {h : AHeap}

/-- A number where d places are let in ahead of m. -/
def insNo (m d b : Nat) : Option Nat :=
  match Nat.blt b m with
  | true => some b
  | false => some (d + b)

def insH (m d : Nat) (h : AHeap) : AHeap :=
  (h.take m).map (·.map (renB (insNo m d) fun _ => none)) ++ (List.replicate d none ++ (h.drop m).map (·.map (renB (insNo m d) fun _ => none)))

def Shp.ins (S : Shp) (m : Nat) (p : List (Nat × Nat)) : Shp :=
  ⟨S.ρ.take m ++ (p ++ S.ρ.drop m), S.sh.take m ++ (List.replicate p.length none ++ S.sh.drop m)⟩

theorem insNo_eq {m d b b' : Nat} (hb : insNo m d b = some b') : (b < m ∧ b' = b) ∨ (m ≤ b ∧ b' = d + b) := by
  unfold insNo at hb
  split at hb
  · rename_i h
    rw [Nat.blt_eq] at h
    exact .inl ⟨h, (Option.some.inj hb).symm⟩
  · rename_i h
    refine .inr ⟨?_, (Option.some.inj hb).symm⟩
    rcases Nat.lt_or_ge b m with h' | h'
    · rw [← Nat.blt_eq] at h'; rw [h'] at h; cases h
    · exact h'

theorem ins_get {α : Type} {l p : List α} {m k q : Nat} (hm : m ≤ l.length) (hk : (k < m ∧ q = k) ∨ (m ≤ k ∧ q = p.length + k)) : (l.take m ++ (p ++ l.drop m))[q]? = l[k]? := by
  have t : (l.take m).length = m := by simp; omega
  rcases hk with ⟨h1, rfl⟩ | ⟨h1, rfl⟩
  · rw [List.getElem?_append_left (by omega), List.getElem?_take, if_pos h1]
  · rw [List.getElem?_append_right (by omega), t, List.getElem?_append_right (by omega), List.getElem?_drop]
    congr 1
    omega

theorem ins_get_mid {α : Type} {l p : List α} {m q : Nat} (hm : m ≤ l.length) (h1 : m ≤ q) (h2 : q < m + p.length) : (l.take m ++ (p ++ l.drop m))[q]? = p[q - m]? := by
  have t : (l.take m).length = m := by simp; omega
  rw [List.getElem?_append_right (by omega), t, List.getElem?_append_left (by omega)]

theorem insH_get {m d : Nat} (hm : m ≤ h.length) {q : Nat} {b : ABlk} (hq : (insH m d h)[q]? = some (some b)) :
    ∃ (k : Nat) (b0 : ABlk), h[k]? = some (some b0) ∧ b = renB (insNo m d) (fun _ => none) b0 ∧ ((k < m ∧ q = k) ∨ (m ≤ k ∧ q = d + k)) := by
  have e : insH m d h = ((h.map (·.map (renB (insNo m d) fun _ => none))).take m ++ (List.replicate d none ++ (h.map (·.map (renB (insNo m d) fun _ => none))).drop m)) := by
    simp [insH, List.map_take, List.map_drop]
  rw [e] at hq
  have one : ∀ k : Nat, (h.map (·.map (renB (insNo m d) fun _ => none)))[k]? = some (some b) → ∃ b0, h[k]? = some (some b0) ∧ b = renB (insNo m d) (fun _ => none) b0 := by
    intro k hk
    rw [List.getElem?_map, Option.map_eq_some_iff] at hk
    obtain ⟨o, ho, hmm⟩ := hk
    cases o with
    | none => cases hmm
    | some b0 => exact ⟨b0, ho, (Option.some.inj hmm).symm⟩
  have hl : (h.map (·.map (renB (insNo m d) fun _ => none))).length = h.length := by simp
  by_cases h1 : q < m
  · rw [ins_get (k := q) (by omega) (.inl ⟨h1, rfl⟩)] at hq
    obtain ⟨b0, h2, h3⟩ := one q hq
    exact ⟨q, b0, h2, h3, .inl ⟨h1, rfl⟩⟩
  by_cases h2 : q < m + d
  · rw [ins_get_mid (by omega) (by omega) (by simpa using h2), List.getElem?_replicate] at hq
    split at hq <;> cases hq
  · rw [ins_get (k := q - d) (by omega) (.inr ⟨by omega, by simp; omega⟩)] at hq
    obtain ⟨b0, h2, h3⟩ := one _ hq
    exact ⟨q - d, b0, h2, h3, .inr ⟨by omega, by omega⟩⟩

theorem ins_kinds (H : HRel E h) {m : Nat} (hm : m ≤ h.length) (p : List (Nat × Nat)) : ∀ b b', insNo m p.length b = some b' → (E.S.ins m p).ρ[b']? = E.S.ρ[b]? ∧ (E.S.ins m p).sh[b']? = E.S.sh[b]? := by
  intro b b' hb
  have hl := H.len
  have hr := H.rlen
  have k := insNo_eq hb
  exact ⟨ins_get (by omega) k, ins_get (by omega) (by simpa using k)⟩

theorem noFz (w : World) (F : Nat → Prop) (S : Shp) : Fz w F S fun _ => none := fun k b hk => by cases hk

theorem HRel.ins (H : HRel E h) {m : Nat} (hm : m ≤ h.length) (p : List (Nat × Nat)) : HRel { E with S := E.S.ins m p } (insH m p.length h) := by
  have hl := H.len
  have hr := H.rlen
  have hσ := ins_kinds H hm p
  refine ⟨?_, ?_, fun q b hq => ?_, fun q q' b b' cb ba ba' h1 h2 h3 h4 => ?_, H.frz⟩
  · show E.S.sh.take m ++ (List.replicate p.length none ++ E.S.sh.drop m) = _
    have sb : ∀ o : Option ABlk, (o.map (renB (insNo m p.length) fun _ => none)).map ABlk.shape = o.map ABlk.shape := fun o => by cases o <;> simp [renB_shape]
    rw [H.sh]
    simp only [insH, List.map_append, List.map_replicate, List.map_map, ← List.map_take, ← List.map_drop]
    congr 1
    · exact List.map_congr_left fun o _ => (sb o).symm
    · congr 1
      exact List.map_congr_left fun o _ => (sb o).symm
  · show (E.S.ρ.take m ++ (p ++ E.S.ρ.drop m)).length = _
    simp [insH]; omega
  · obtain ⟨k, b0, hb0, rfl, hcase⟩ := insH_get hm hq
    obtain ⟨f0, cb, base, c, e, r1, r2, r3, r4, r5⟩ := H.blk k b0 hb0
    refine ⟨by cases b0 <;> exact f0, cb, base, c, e, by rw [← r1]; exact ins_get (by omega) hcase, by rw [renB_obj]; exact r2, r3, by rw [renB_room]; exact r4, fun i j x hx => ?_⟩
    obtain ⟨y, hy, hxy⟩ := renB_cell _ _ _ _ _ _ hx
    obtain ⟨v, hv1, hv2⟩ := r5 i j y hy
    refine ⟨v, by rw [renB_shape]; exact hv1, ?_⟩
    rcases hxy with ⟨cs, rfl, rfl⟩ | ⟨hne, rfl⟩
    · exact ren1_rel hσ (noFz _ _ _) hv2
    · cases b0 with
      | box cs => exact absurd rfl (hne cs)
      | ia => exact hv2
      | arr => exact hv2
      | mp => exact hv2
  · obtain ⟨k, b0, hb0, rfl, hc⟩ := insH_get hm h1
    obtain ⟨k', b0', hb0', rfl, hc'⟩ := insH_get hm h2
    have h3 : (E.S.ins m p).ρ[q]? = some (cb, ba) := h3
    have h4 : (E.S.ins m p).ρ[q']? = some (cb, ba') := h4
    have e1 : (E.S.ins m p).ρ[q]? = E.S.ρ[k]? := ins_get (by omega) hc
    have e2 : (E.S.ins m p).ρ[q']? = E.S.ρ[k']? := ins_get (by omega) hc'
    rw [e1] at h3
    rw [e2] at h4
    have := H.inj k k' b0 b0' cb ba ba' hb0 hb0' h3 h4
    omega

theorem ins_own (H : HRel E h) {m : Nat} (hm : m ≤ h.length) {p : List (Nat × Nat)} {b : Nat} (hb : (E.S.ins m p).own b) : E.S.own b := by
  have hl := H.len
  have hr := H.rlen
  obtain ⟨q, base, s, h1, h2⟩ := hb
  by_cases hq : q < m
  · have e1 : (E.S.ins m p).ρ[q]? = E.S.ρ[q]? := ins_get (by omega) (.inl ⟨hq, rfl⟩)
    have e2 : (E.S.ins m p).sh[q]? = E.S.sh[q]? := ins_get (by omega) (.inl ⟨hq, rfl⟩)
    exact ⟨q, base, s, by rw [← e1]; exact h1, by rw [← e2]; exact h2⟩
  by_cases hq2 : q < m + p.length
  · have e2 : (E.S.ins m p).sh[q]? = (List.replicate p.length none)[q - m]? := ins_get_mid (by omega) (by omega) (by simpa using hq2)
    rw [e2, List.getElem?_replicate] at h2
    split at h2 <;> cases h2
  · have e1 : (E.S.ins m p).ρ[q]? = E.S.ρ[q - p.length]? := ins_get (by omega) (.inr ⟨by omega, by omega⟩)
    have e2 : (E.S.ins m p).sh[q]? = E.S.sh[q - p.length]? := ins_get (by omega) (.inr ⟨by omega, by simp; omega⟩)
    exact ⟨q - p.length, base, s, by rw [← e1]; exact h1, by rw [← e2]; exact h2⟩

/-- A function's body from its arguments: of their blocks the first m stay. -/
def bodyM (P : Program) (fn : AFn) (args : List AV) (h : AHeap) (m : Nat) (R : AV → AHeap → Prop) : Prop :=
  wpA P fn.code (finA fn.res fun r h' => R (ren2 (insNo m (h.length - m)) (fun _ => none) r) (insH m (h.length - m) h')) ⟨argsTm 0 args, h, h.length, m⟩

theorem CallsA.enterM (hm : P.follows .mixedOrders = true) {f : FuncId} {fn : Func} {pts : List Nat} (hf : P.funcs[f]? = some fn) (hname : fn.name ≠ "runtime.NumGoroutine") {afn : AFn} (hc : cFn P fn pts = some afn) {args : List AV} (hn : Nat.ble args.length fn.ntmps = true) {h : AHeap}
    {m : Nat} (hmh : Nat.ble m h.length = true) {R : AV → AHeap → Prop} (hb : bodyM P afn args h m R) : CallsA P f args h R := by
  have hn := Nat.le_of_ble_eq_true hn
  have hmh := Nat.le_of_ble_eq_true hmh
  obtain ⟨b, code, res, hbody, hcode, hres, hG, rfl⟩ := cFn_inv hc
  refine fun E cs H hT hlen hargs => .inl ⟨⟨fn, hf, by rw [hbody]; rfl, hname⟩, ?_⟩
  have hHl := H.len
  have hHr := H.rlen
  have hpl : (E.S.pre m).ρ.length = m := by simp only [Shp.pre, List.length_take]; omega
  have hX0 : ShpExt (E.S.pre m) E.S := by
    refine ⟨fun k p hp => ?_, fun k p hk hp => ?_, by simp only [Shp.pre, List.length_take]; omega⟩
    · simp only [Shp.pre, List.getElem?_take] at hp
      split at hp
      · exact hp
      · cases hp
    · simp only [Shp.pre, List.length_take] at hk
      simp only [Shp.pre, List.getElem?_take]
      rw [if_pos (by omega)]; exact hp
  have hL : Lf none (E.S.pre m) (KB (KT P) E fun _ => False) fn.ntmps m E.S.own E ⟨argsTm 0 args, h, h.length, m⟩ { tmps := cs ++ Array.replicate (fn.ntmps - cs.size) undef, defers := [] } := by
    refine ⟨hX0, fun _ h => h, ?_, Mk.nil .., ⟨args_rel hlen hargs _, H, rfl, hG, by simp; omega, rfl⟩⟩
    exact ⟨noG args (by omega), fun b h => .inl h, fun b h => h, fun b h => .inl h, WX.refl _ _, hT⟩
  refine calls_Fr (n := 0) (callsIn_of_wp_marks hf hbody trivial (Go.wpIn_mono (wpA_sound hm hcode KB.fn hpl hL hb) fun e a' w' hl => ?_))
  have key : ∀ {e : AExit} {O : Nat → Prop} {E' : Env} {st : St}, E'.w = w' → Lf none (E.S.pre m) (KB (KT P) E fun _ => False) fn.ntmps m O E' st a' → finA res (fun r h' => R (ren2 (insNo m (h.length - m)) (fun _ => none) r) (insH m (h.length - m) h')) e st →
      LeavesInM (Fr none) 0 P fn a'.tmps (fun e w' => ∃ v r h' E', e = .returned v ∧ R r h' ∧ E'.w = w' ∧ Ext E E' ∧ HRel E' h' ∧ E'.R r v) a'.defers .returning w' := by
    rintro e O E' st rfl L hfin
    obtain ⟨Ds, hds, hdn, _, hdm⟩ := L.m
    rw [hds]
    refine leaves_marks Ds _ hdn (fun D hD => (hdm D hD).2.2) fun w2 X => ?_
    obtain ⟨T2, H2⟩ := L.later hdm X
    have hfin' : ∃ vs, resVs st.tm st.hp res = some vs ∧ ∃ keep fz, okKeep st.n0 st.hn (keep ++ fz) = true ∧ R (ren2 (insNo m (h.length - m)) (fun _ => none) (ren2 (newNo st.n0 keep) (fzOf (fzAll st.hp fz [])) (tupV vs))) (insH m (h.length - m) (gcH st.n0 keep fz st.hp)) := by
      unfold finA at hfin
      split at hfin
      · exact hfin.elim
      · split at hfin
        · rename_i vs hvs; exact ⟨vs, hvs, hfin⟩
        · exact hfin.elim
    obtain ⟨vs, hvs, keep, fz, hok, hR⟩ := hfin'
    obtain ⟨us, h1, h2⟩ := resVs_sound (P := P) T2 H2 (rs := fn.results.toList) hres hvs
    have h0 : st.n0 ≤ st.hp.length := L.n0 hpl
    rw [L.S.hn] at hok
    obtain ⟨o1, _, _⟩ := okKeep_parts hok
    have hlen3 : (tupV vs) = (if hh : vs.length = 1 then vs[0] else .tup vs) := by
      unfold tupV
      split
      · simp
      · rename_i hne
        rw [dif_neg]
        intro hh
        match vs, hh with
        | [v], _ => exact hne v rfl
    obtain ⟨_, b2, b3, b4, b5, _⟩ := L.k
    have hDnew : ∀ D ∈ Ds, E.w.heap.size ≤ D := fun D hD => by
      obtain ⟨g1, g2, g3⟩ := hdm D hD
      rcases b2 D g1 with h | h
      · rcases H.own_cells h with ⟨c, e, f, hc⟩ | ⟨es, q, hc⟩
        · obtain ⟨c', e', f', hc', _⟩ := b5.cap D c e f hc
          rw [g3] at hc'; cases hc'
        · obtain ⟨es', q', hc'⟩ := b5.mcap D es q hc
          rw [g3] at hc'; cases hc'
      · exact h.1
    have W : WX E.S.own E.w w2 := (b5.trans X).mono fun q hq h => h.elim id fun h => by have := hDnew q h; omega
    have hgF : ∀ b, (Env.gc { E' with w := w2 } st.n0 keep fz st.hp).F b → E'.F b ∨ E'.S.own b := by
      rintro b (h | ⟨k, base, bk, _, m2, m3⟩)
      · exact .inl h
      · exact .inr (H2.own_of m3 m2)
    have hown' : ∀ b, E'.S.own b → E.S.own b ∨ E.w.heap.size ≤ b := fun b hb => (b2 b (L.own b hb)).imp id And.left
    have hz : st.n0 = m := L.S.z
    have Hg := H2.gc h0 hok
    have hmg : m ≤ (gcH st.n0 keep fz st.hp).length := by rw [← Hg.len]; simp only [Env.gc, Shp.gc, List.length_append, List.length_take]; have := L.S.H.len; omega
    have hd : (E.S.ρ.drop m).length = h.length - m := by rw [List.length_drop]; omega
    have Hi := Hg.ins hmg (E.S.ρ.drop m)
    rw [hd] at Hi
    refine ⟨if hh : us.toArray.size = 1 then us.toArray[0] else .tuple us.toArray, ?_, _, _, _, { Env.gc { E' with w := w2 } st.n0 keep fz st.hp with S := (E'.S.gc st.n0 keep).ins m (E.S.ρ.drop m) }, rfl, hR, rfl, ?_, Hi, ?_⟩
    · rw [results_eq, Sem.run_bind, Array.mapM_eq_mapM_toList, Sem.run_map]
      rw [h1]
      rfl
    · have Xg := L.X.gc L.S.H (n0 := st.n0) (keep := keep) (by rw [hpl, hz]; exact Nat.le_refl _) h0
      have hgl : m ≤ (E'.S.gc st.n0 keep).ρ.length := by simp only [Shp.gc, List.length_append, List.length_take]; have := L.S.H.len; omega
      have hgs : m ≤ (E'.S.gc st.n0 keep).sh.length := by have := Hg.rlen; simp only [Env.gc] at this; omega
      refine ⟨W.os, W.tape, W.output, W.size, fun b hb => .inl (b3 b hb), W.same, fun k p hp => ?_, fun k p hk hp => ?_, hHr, fun b hb => hown' b (gc_own L.S.H h0 o1 (ins_own Hg hmg hb)), fun b hb => ?_, W.cap, W.mcap, H.off⟩
      · have hk : k < E.S.ρ.length := (List.getElem?_eq_some_iff.1 hp).1
        by_cases hkm : k < m
        · have e1 : ((E'.S.gc st.n0 keep).ins m (E.S.ρ.drop m)).ρ[k]? = (E'.S.gc st.n0 keep).ρ[k]? := ins_get hgl (.inl ⟨hkm, rfl⟩)
          show ((E'.S.gc st.n0 keep).ins m (E.S.ρ.drop m)).ρ[k]? = some p
          rw [e1]
          exact Xg.rho k p (by simp only [Shp.pre, List.getElem?_take]; rw [if_pos hkm]; exact hp)
        · have e1 : ((E'.S.gc st.n0 keep).ins m (E.S.ρ.drop m)).ρ[k]? = (E.S.ρ.drop m)[k - m]? := ins_get_mid hgl (by omega) (by omega)
          show ((E'.S.gc st.n0 keep).ins m (E.S.ρ.drop m)).ρ[k]? = some p
          rw [e1, List.getElem?_drop, show m + (k - m) = k by omega]
          exact hp
      · by_cases hkm : k < m
        · have e1 : ((E'.S.gc st.n0 keep).ins m (E.S.ρ.drop m)).sh[k]? = (E'.S.gc st.n0 keep).sh[k]? := ins_get hgs (.inl ⟨hkm, rfl⟩)
          have hp : ((E'.S.gc st.n0 keep).ins m (E.S.ρ.drop m)).sh[k]? = some (some p) := hp
          rw [e1] at hp
          have := Xg.sh k p (by simp only [Shp.pre, List.length_take]; omega) hp
          simp only [Shp.pre, List.getElem?_take] at this
          rw [if_pos hkm] at this
          exact this
        · have e1 : ((E'.S.gc st.n0 keep).ins m (E.S.ρ.drop m)).sh[k]? = (List.replicate (E.S.ρ.drop m).length none)[k - m]? := ins_get_mid hgs (by omega) (by simp; omega)
          have hp : ((E'.S.gc st.n0 keep).ins m (E.S.ρ.drop m)).sh[k]? = some (some p) := hp
          rw [e1, List.getElem?_replicate] at hp
          split at hp <;> cases hp
      · rcases hgF b hb with h | h
        · exact b4 b h
        · exact .inr (hown' b h)
    · refine ren2_rel (S := E'.S.gc st.n0 keep) ?_ (noFz _ _ _) ?_
      · have := ins_kinds Hg hmg (E.S.ρ.drop m)
        rw [hd] at this
        exact this
      refine gc_rel H2 h0 hok ?_
      rw [hlen3]
      by_cases h1' : vs.length = 1
      · rw [dif_pos h1', dif_pos (by simp; rw [← h2.1]; exact h1')]
        refine h2.2 0 _ _ (List.getElem?_eq_getElem (by omega)) ?_
        simp
      · rw [dif_neg h1', dif_neg (by simp; rw [← h2.1]; exact h1')]
        exact .tup _ _ _ (by simp [h2.1]) fun i c v hc hv => h2.2 i c v hc (by simpa using hv)
  cases e with
  | normal => obtain ⟨O, E', st, h1, h2, h3⟩ := hl; exact key h1 h2 h3
  | ret => obtain ⟨O, E', st, h1, h2, h3⟩ := hl; exact key h1 h2 h3
  | exit id => obtain ⟨O, E', st, h1, h2, h3⟩ := hl; exact h3.elim
  | _ => exact hl.elim

end Go.AL

/-! Calls that answer one of several closed values. Seat-independent. -/

namespace Go.AL
variable {P : Program}

/-- A slice that hangs on nothing. -/
def Cl (v : AV) : Prop := v = .snil ∨ v = .semp ∨ (∃ k xs, v = .ri k xs) ∨ v = .emp

theorem Cl.ren {v : AV} (h : Cl v) (σ : Nat → Option Nat) (φ : Nat → Option ABlk) : ren2 σ φ v = v := by
  rcases h with rfl | rfl | ⟨k, xs, rfl⟩ | rfl <;> rfl
theorem Cl.view {v : AV} (h : Cl v) (hp : AHeap) (own bor : List Nat) : view1 hp own bor v = some v := by
  rcases h with rfl | rfl | ⟨k, xs, rfl⟩ | rfl <;> rfl

theorem CallsF.callV {f : FuncId} {args args' : List AV} {hp h0 hv : AHeap} {v : AV} {K : AV → AHeap → Prop} (own bor : List Nat) (h : CallsF P f args' h0 v hv) (hc : Cl v) (hargs : mapO (view1 hp own bor) args = some args') (hv0 : viewH hp own own = some h0)
    (hok : okKeep 0 hp.length own = true) (hbl : liveAll hp bor = true) (hap : apartAll own bor = true) (hb : bor = [] ∨ (noF2 v && noFH hv) = true) (hK : fLg fBn (backH own hp hv) fun hp => K v hp) : CallsA P f args hp K := by
  refine CallsF.call own bor h hargs hv0 hok hbl hap hb ?_
  rw [f2n_iff, hc.ren]
  exact hK

/-- An argument that is an empty list is nil or is not. -/
theorem CallsA.empty {f : FuncId} {pre post : List AV} {k : IntKind} {h : AHeap} {K : AV → AHeap → Prop} (h1 : CallsA P f (pre ++ .snil :: post) h K) (h2 : CallsA P f (pre ++ .emp :: post) h K) : CallsA P f (pre ++ .ri k [] :: post) h K := by
  refine fun E cs H hT hlen ha => ?_
  have hl : pre.length < cs.size := by simp at hlen; omega
  have hr := ha pre.length (.ri k []) cs[pre.length] (by simp) (Array.getElem?_eq_getElem hl)
  have go : ∀ x : AV, E.R x cs[pre.length] → ∀ (i : Nat) y v, (pre ++ x :: post)[i]? = some y → cs[i]? = some v → E.R y v := by
    intro x hx i y v hy hv
    by_cases hi : i = pre.length
    · subst hi
      simp at hy
      subst hy
      rw [Array.getElem?_eq_getElem hl] at hv
      obtain rfl := Option.some.inj hv
      exact hx
    · refine ha i y v ?_ hv
      rw [← hy]
      simp only [List.getElem?_append]
      split
      · rfl
      · obtain ⟨q, hq⟩ : ∃ q, i - pre.length = q + 1 := ⟨i - pre.length - 1, by omega⟩
        rw [hq]; rfl
  obtain ⟨a, cap, hv, _, _, hn⟩ := rel_ri hr
  cases a with
  | none =>
    have h0 := hn rfl
    subst h0
    exact h1 E cs H hT (by simpa using hlen) (go .snil (by rw [hv]; exact .snil _))
  | some ad => exact h2 E cs H hT (by simpa using hlen) (go .emp (by rw [hv]; exact .emp _ _ _))

theorem mapO_one {hp : AHeap} {own bor : List Nat} {v : AV} (h : Cl v) {xs ys : List AV} (hx : mapO (view1 hp own bor) xs = some ys) : mapO (view1 hp own bor) (v :: xs) = some (v :: ys) := by
  simp only [mapO, h.view, hx]

end Go.AL
