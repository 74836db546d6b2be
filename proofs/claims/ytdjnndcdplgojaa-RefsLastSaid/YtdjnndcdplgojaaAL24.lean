/- A range over a function. Seat-independent. -/
import Derived.Test.YtdjnndcdplgojaaAL23
import Derived.Test.YtdjnndcdplgojaaAL25
namespace Go.AL
variable {P : Program}

theorem look_norm {σ : Nat → Option Nat} {φ : Nat → Option ABlk} {tm : List (Nat × AV)} : ∀ (live : List Nat) (t : Nat), look (live.map fun t => (t, ren2 σ φ (look tm t))) t = .undef ∨ look (live.map fun t => (t, ren2 σ φ (look tm t))) t = ren2 σ φ (look tm t)
  | [], _ => .inl rfl
  | l :: ls, t => by
    simp only [List.map_cons, look]
    split
    · rename_i hb
      rw [← Nat.eq_of_beq_eq_true hb]; exact .inr rfl
    · exact look_norm ls t

theorem ghost_ren {σ : Nat → Option Nat} {φ : Nat → Option ABlk} (x : AV) : (match ren2 σ φ x with | .gh l r o => some (l, r, o) | _ => none : Gh) = match x with | .gh l r o => some (l, r, o) | _ => none := by
  cases x <;> try rfl
  · rename_i b j
    simp only [ren2, ren1, ren0]
    cases σ b with
    | some b' => rfl
    | none =>
      cases φ b with
      | none => rfl
      | some k => cases k <;> rfl
  · rename_i b i j
    simp only [ren2, ren1, ren0]
    cases σ b <;> rfl
  · rename_i b i n
    simp only [ren2, ren1, ren0]
    cases σ b with
    | some b' => rfl
    | none =>
      cases φ b with
      | none => rfl
      | some k => cases k <;> rfl
  · rename_i b i n c
    simp only [ren2, ren1, ren0]
    cases σ b <;> rfl
  · rename_i b T n
    simp only [ren2, ren1, ren0]
    cases σ b with
    | some b' => rfl
    | none =>
      cases φ b with
      | none => rfl
      | some k => cases k <;> rfl
  · rename_i b
    simp only [ren2, ren1, ren0]
    cases σ b <;> rfl

theorem ghost_norm {live keep fz : List Nat} {st : St} : ghostOf (st.norm live keep fz).tm = ghostOf st.tm ∨ ghostOf (st.norm live keep fz).tm = none := by
  unfold ghostOf
  simp only [St.norm]
  rcases look_norm (σ := newNo st.n0 keep) (φ := fzOf (fzAll st.hp fz [])) (tm := st.tm) live G with h | h <;> rw [h]
  · exact .inr rfl
  · exact .inl (ghost_ren _)

theorem WX.refl (own : Nat → Prop) (w : World) : WX own w w := ⟨rfl, rfl, rfl, Nat.le_refl _, fun _ _ _ => rfl, fun _ c e f h => ⟨c, e, f, h, rfl, rfl⟩, fun _ es q h => ⟨es, q, h⟩⟩

theorem WX.trans {own own' : Nat → Prop} {a b c : World} (h : WX own a b) (k : WX own' b c) : WX (fun q => own q ∨ own' q) a c :=
  ⟨k.os.trans h.os, k.tape.trans h.tape, k.output.trans h.output, Nat.le_trans h.size k.size, fun q hq hn => (k.same q (Nat.lt_of_lt_of_le hq h.size) fun x => hn (.inr x)).trans (h.same q hq fun x => hn (.inl x)), fun q c e f hc => by
    obtain ⟨c', e', f', h1, h2⟩ := h.cap q c e f hc
    obtain ⟨c'', e'', f'', h3, h4⟩ := k.cap q c' e' f' h1
    exact ⟨c'', e'', f'', h3, h4.1.trans h2.1, h4.2.trans h2.2⟩, fun q es m hq => by
    obtain ⟨es', m', h1⟩ := h.mcap q es m hq
    exact k.mcap q es' m' h1⟩

theorem WX.mono {own own' : Nat → Prop} {a b : World} (h : WX own a b) (k : ∀ q, q < a.heap.size → own q → own' q) : WX own' a b :=
  ⟨h.os, h.tape, h.output, h.size, fun q hq hn => h.same q hq fun x => hn (k q hq x), h.cap, h.mcap⟩

theorem wx_alloc (w : World) (o : Obj) : WX (fun _ => False) w (w.alloc o) :=
  ⟨rfl, rfl, rfl, by simp, fun q hq _ => RowKit.Below.heap_alloc w o q hq, fun q c e f h => ⟨c, e, f, (RowKit.Below.heap_alloc w o q (Array.getElem?_eq_some_iff.1 h).1).trans h, rfl, rfl⟩,
    fun q es m h => ⟨es, m, (RowKit.Below.heap_alloc w o q (Array.getElem?_eq_some_iff.1 h).1).trans h⟩⟩

theorem wx_put {w : World} {l : Nat} {o : Obj} (h : w.heap[l]? = some o) (hc : ∀ c e f, o ≠ Obj.cells c e f) (o' : Obj) (hm : ∀ es m, o ≠ Obj.map es m := by intro _ _ h; cases h) : WX (· = l) w (w.putObj l o') :=
  ⟨rfl, rfl, rfl, by simp [World.putObj], fun q _ hn => World.putObj_heap_other hn, fun q c e f hq => by
    by_cases he : q = l
    · subst he; rw [h] at hq; exact absurd (Option.some.inj hq) (hc c e f)
    · exact ⟨c, e, f, (World.putObj_heap_other he).trans hq, rfl, rfl⟩, fun q es m hq => by
    by_cases he : q = l
    · subst he; rw [h] at hq; exact absurd (Option.some.inj hq) (hm es m)
    · exact ⟨es, m, (World.putObj_heap_other he).trans hq⟩⟩

section
variable {r : Option Nat} {n : Nat} {K : KP} {S0 : Shp} {N z : Nat}

theorem Lf.n0 {O : Nat → Prop} {E : Env} {st : St} {a : Act} (L : Lf r S0 K N z O E st a) (hz : S0.ρ.length = z) : st.n0 ≤ st.hp.length := by
  have := L.X.le
  rw [L.S.z, ← L.S.H.len, ← hz]; exact this

theorem Lf.norm {O : Nat → Prop} {E : Env} {st : St} {a : Act} (hK : KStep K) (L : Lf r S0 K N z O E st a) (hz : S0.ρ.length = z) {live keep fz : List Nat} (hok : okKeep st.n0 st.hn (keep ++ fz) = true) :
    Lf r S0 K N z O (E.gc st.n0 keep fz st.hp) (st.norm live keep fz) a := by
  have h0 := L.n0 hz
  have H := L.S.H
  rw [L.S.hn] at hok
  obtain ⟨o1, _, _⟩ := okKeep_parts hok
  have hF : ∀ b, (E.gc st.n0 keep fz st.hp).F b → E.F b ∨ E.S.own b := by
    rintro b (h | ⟨k, base, bk, _, m2, m3⟩)
    · exact .inl h
    · exact .inr (H.own_of m3 m2)
  refine ⟨L.X.gc H (by rw [hz, L.S.z]; exact Nat.le_refl _) h0, fun b hb => L.own b (gc_own H h0 o1 hb), ?_, ?_, ⟨fun t => ?_, H.gc h0 hok, ?_, L.S.NG, L.S.N, L.S.z⟩⟩
  · have : K (ghostOf st.tm) O (E.gc st.n0 keep fz st.hp).F E.w :=
      hK.step L.k (WX.refl _ _) (fun _ h => .inl h) (fun _ h => .inl h) fun b hb => (hF b hb).imp id fun h => .inl (L.own b h)
    rcases ghost_norm (live := live) (keep := keep) (fz := fz) (st := st) with h | h <;> rw [h]
    · exact this
    · exact hK.forget this
  · obtain ⟨Ds, h1, h2, hr, h3⟩ := L.m
    refine ⟨Ds, h1, h2, hr, fun D hD => ?_⟩
    obtain ⟨g1, g2, g3⟩ := h3 D hD
    refine ⟨g1, fun hf => ?_, g3⟩
    rcases hF D hf with h | h
    · exact g2 h
    · rcases H.own_cells h with ⟨c, e, f, hc⟩ | ⟨es, q, hc⟩ <;> (rw [g3] at hc; cases hc)
  · simp only [St.norm]
    rcases look_norm (σ := newNo st.n0 keep) (φ := fzOf (fzAll st.hp fz [])) (tm := st.tm) live t with h | h <;> rw [h]
    · exact .undef ..
    · exact gc_rel H h0 hok (L.S.T t)
  · simp [St.norm, gcH]; omega

theorem setPs_rel {E : Env} : ∀ (ps : List Nat) (xs : List AV) (vs : List Value) (tm : List (Nat × AV)) (ts : Array Value) (ds ds' : List Deferred), xs.length = ps.length → vs.length = ps.length → (∀ p ∈ ps, p < ts.size) →
    (∀ (i : Nat) c v, xs[i]? = some c → vs[i]? = some v → E.R c v) → TRel E tm { tmps := ts, defers := ds } →
    TRel E (setPs ps xs tm) { tmps := (ps.zip vs).foldl (fun t (p, v) => t.setIfInBounds p v) ts, defers := ds' } ∧ ((ps.zip vs).foldl (fun t (p, v) => t.setIfInBounds p v) ts).size = ts.size
  | [], xs, vs, tm, ts, ds, ds', h1, h2, _, _, T => by
    cases xs <;> cases vs <;> simp at h1 h2
    exact ⟨T, rfl⟩
  | p :: ps, [], vs, tm, ts, ds, ds', h1, _, _, _, _ => by simp at h1
  | p :: ps, x :: xs, [], tm, ts, ds, ds', _, h2, _, _, _ => by simp at h2
  | p :: ps, x :: xs, v :: vs, tm, ts, ds, ds', h1, h2, hp, hR, T => by
    simp only [setPs, List.zip_cons_cons, List.foldl_cons]
    have T' : TRel E ((p, x) :: tm) { tmps := ts.setIfInBounds p v, defers := ds } := TRel.put (dst := some p) T (hR 0 x v rfl rfl) (fun d hd => by cases hd; exact hp p (by simp))
    have := setPs_rel ps xs vs ((p, x) :: tm) (ts.setIfInBounds p v) ds ds' (by simpa using h1) (by simpa using h2) (fun q hq => by simpa using hp q (by simp [hq])) (fun i c u hc hu => hR (i + 1) c u (by simpa using hc) (by simpa using hu)) T'
    exact ⟨this.1, by rw [this.2]; simp⟩

theorem setPs_ghost : ∀ (ps : List Nat) (xs : List AV) (tm : List (Nat × AV)), (∀ p ∈ ps, p ≠ G) → ghostOf (setPs ps xs tm) = ghostOf tm
  | [], _, _, _ => by simp [setPs]
  | _ :: _, [], _, _ => by simp [setPs]
  | p :: ps, x :: xs, tm, h => by
    rw [setPs, setPs_ghost ps xs _ (fun q hq => h q (by simp [hq]))]
    unfold ghostOf
    have : look ((p, x) :: tm) G = look tm G := by
      simp only [look]
      split
      · rename_i hb; exact absurd (Nat.eq_of_beq_eq_true hb) (h p (by simp))
      · rfl
    rw [this]

/-- A loop's record and, outside of rounds, the mark. -/
theorem enter_loop {w : World} (hrec : ∀ l, r = some l → ∃ r₀, w.heap[l]? = some (.loop r₀)) (fn : FuncId) (tmps : Array Value) (ps : Array Tmp) (assign body : Code) :
    ∃ (l : Nat) (Ds : List Nat) (w1 : World) (dl : Nat), (Instr.enterLoop fn tmps ps assign body (Fr r).round).run P w = .ok (l, Ds.map mark) w1 ∧
      w1.heap[l]? = some (.loop { state := .ready, pending := none, fn, tmps, params := ps, assign, body, defers := dl }) ∧ w.heap.size ≤ l ∧ Ds.Nodup ∧ (r ≠ none → Ds = []) ∧
      (∀ D ∈ Ds, w.heap.size ≤ D ∧ D ≠ l ∧ w1.heap[D]? = some (.deferred (some []))) ∧ WX (fun _ => False) w w1 := by
  cases r with
  | none =>
    refine ⟨w.heap.size + 1, [w.heap.size], _, w.heap.size, run_enterLoop_outer fn tmps ps assign body, ?_, by omega, by simp, fun h => absurd rfl h, fun D hD => ?_, ?_⟩
    · have := World.alloc_heap_new (w.alloc (.deferred (some []))) (.loop { state := .ready, pending := none, fn, tmps, params := ps, assign, body, defers := w.heap.size })
      rwa [World.size_alloc] at this
    · simp only [List.mem_singleton] at hD
      subst hD
      exact ⟨Nat.le_refl _, by omega, (RowKit.Below.heap_alloc _ _ _ (by simp)).trans (World.alloc_heap_new w _)⟩
    · exact ((wx_alloc w _).trans (wx_alloc _ _)).mono fun _ _ h => h.elim id id
  | some l₀ =>
    obtain ⟨r₀, h⟩ := hrec l₀ rfl
    exact ⟨w.heap.size, [], _, r₀.defers, run_enterLoop_inner h fn tmps ps assign body, World.alloc_heap_new w _, Nat.le_refl _, List.nodup_nil, fun _ => rfl, by simp, wx_alloc w _⟩

/-- What holds in a round. -/
def KB (K : KP) (Es : Env) (Oc : Nat → Prop) : KP := fun g O F w => g = none ∧ (∀ b, O b → Es.S.own b ∨ (Es.w.heap.size ≤ b ∧ b < w.heap.size)) ∧ (∀ b, Es.F b → F b) ∧ (∀ b, F b → Es.F b ∨ Es.S.own b ∨ Es.w.heap.size ≤ b) ∧
  WX Es.S.own Es.w w ∧ K none (fun b => Oc b ∨ O b) F w

theorem KB.kstep (hK : KStep K) {Es : Env} {Oc : Nat → Prop} : KStep (KB K Es Oc) where
  step := by
    rintro g O F w O' F' w' ⟨h1, h2, h3, h4, h5, h6⟩ X ho hf1 hf2
    refine ⟨h1, fun b hb => ?_, fun b hb => hf1 b (h3 b hb), fun b hb => ?_, ?_, ?_⟩
    · rcases ho b hb with h | h
      · exact (h2 b h).imp id fun h => ⟨h.1, Nat.lt_of_lt_of_le h.2 X.size⟩
      · exact .inr ⟨Nat.le_trans h5.size h.1, h.2⟩
    · rcases hf2 b hb with h | h | h
      · exact h4 b h
      · exact .inr ((h2 b h).imp id And.left)
      · exact .inr (.inr (Nat.le_trans h5.size h.1))
    · refine (h5.trans X).mono fun q hq h => ?_
      rcases h with h | h
      · exact h
      · rcases h2 q h.1 with h | h
        · exact h
        · omega
    · refine hK.step h6 (X.mono fun q _ h => ⟨.inr h.1, h.2⟩) (fun b hb => ?_) hf1 fun b hb => ?_
      · rcases hb with h | h
        · exact .inl (.inl h)
        · exact (ho b h).imp .inr id
      · exact (hf2 b hb).imp id fun h => h.imp .inr id
  forget := fun ⟨_, h⟩ => ⟨rfl, h⟩

theorem KB.yields {Es : Env} {Oc : Nat → Prop} : Yields P (KB K Es Oc) := by
  rintro l x rest O F w vs ⟨h, _⟩
  cases h

theorem KB.ctx (C : Ctx P r K) {Es : Env} {Oc : Nat → Prop} {l : Nat} {r₀ : Loop} (hl : Es.w.heap[l]? = some (.loop r₀)) (hno : ¬ Es.S.own l) : Ctx P (some l) (KB K Es Oc) where
  step := KB.kstep C.step
  yield := KB.yields
  record := by
    rintro l' he g O F w ⟨h1, h2, h3, h4, h5, h6⟩
    obtain rfl := Option.some.inj he
    exact ⟨r₀, by rw [h5.same _ (Array.getElem?_eq_some_iff.1 hl).1 hno]; exact hl⟩
  tab := fun _ _ _ _ ⟨_, _, _, _, _, h6⟩ => C.tab _ _ _ _ h6

/-- Nothing asked but the tables. -/
def KT (P : Program) : KP := fun _ _ F w => TabW P F w
theorem KT.kstep : KStep (KT P) := ⟨fun h X _ hf _ => TabW.mono h hf fun b hb hF => X.same b hb fun h => h.2 hF, fun h => h⟩

/-- What a function leans on. -/
theorem KB.fn {Es : Env} {Oc : Nat → Prop} : Ctx P none (KB (KT P) Es Oc) := ⟨KB.kstep KT.kstep, KB.yields, (fun _ h => by cases h), fun _ _ _ _ ⟨_, _, _, _, _, h6⟩ => h6⟩

theorem HRel.moreF {E : Env} {h : AHeap} (H : HRel E h) {F' : Nat → Prop} (h1 : ∀ b, E.F b → F' b) (h2 : ∀ b, F' b → ¬ E.S.own b) (h3 : ∀ b, F' b → b < E.w.heap.size) : HRel { E with F := F' } h := by
  refine ⟨H.sh, H.len, fun k b hk => ?_, H.inj, h3⟩
  obtain ⟨h0, cb, base, c, e, g1, g2, g3, g4, g5⟩ := H.blk k b hk
  refine ⟨h0, cb, base, c, e, g1, g2, fun hf => h2 cb hf (H.own_of hk g1), g4, fun i j x hx => ?_⟩
  obtain ⟨v, hv, hR⟩ := g5 i j x hx
  exact ⟨v, hv, hR.more h1⟩

/-- The first places. -/
def Shp.pre (S : Shp) (m : Nat) : Shp := ⟨S.ρ.take m, S.sh.take m⟩

theorem Shp.pre_ext {S : Shp} (hl : S.ρ.length = S.sh.length) (m : Nat) : ShpExt (S.pre m) S where
  rho k p hp := by
    simp only [Shp.pre, List.getElem?_take] at hp
    split at hp
    · exact hp
    · cases hp
  sh k p hk hp := by
    simp only [Shp.pre, List.length_take] at hk
    simp only [Shp.pre, List.getElem?_take]
    rw [if_pos (by omega)]; exact hp
  rlen := by simp only [Shp.pre, List.length_take, hl]

theorem ShpExt.pre_trans {A B C : Shp} (h : ShpExt A B) (hl : B.ρ.length = B.sh.length) {m : Nat} (hm : A.ρ.length ≤ m) (k : ShpExt (B.pre m) C) : ShpExt A C where
  rho q p hp := by
    have h1 := h.rho q p hp
    refine k.rho q p ?_
    simp only [Shp.pre, List.getElem?_take]
    have := (List.getElem?_eq_some_iff.1 hp).1
    rw [if_pos (by omega)]; exact h1
  sh q p hq hp := by
    have h0 := h.le
    have hr := h.rlen
    have h1 := k.sh q p (by simp only [Shp.pre, List.length_take]; omega) hp
    simp only [Shp.pre, List.getElem?_take] at h1
    split at h1
    · exact h.sh q p hq h1
    · cases h1
  rlen := h.rlen

theorem ShpExt.trans {A B C : Shp} (h : ShpExt A B) (hl : B.ρ.length = B.sh.length) (k : ShpExt B C) : ShpExt A C where
  rho q p hp := k.rho q p (h.rho q p hp)
  sh q p hq hp := by
    have h0 := h.le
    have hr := h.rlen
    exact h.sh q p hq (k.sh q p (by omega) hp)
  rlen := h.rlen
end

end Go.AL

/-! A range over a function, sound. Seat-independent. -/

namespace Go.AL
variable {P : Program}

/-- What the caller knows between two rounds. -/
structure Mid (K : KP) (E1 : Env) (l : Nat) (Ds : List Nat) (Oi Fi : Nat → Prop) (Oc : Nat → Prop) (E : Env) (hp : AHeap) : Prop where
  own : ∀ b, E.S.own b → Oc b
  oi : ∀ b, Oi b → Oc b
  k : K none Oc E.F E.w
  H : HRel E hp
  X1 : ShpExt E1.S E.S
  F1 : ∀ b, E1.F b → E.F b
  Fi1 : ∀ b, E1.F b → Fi b
  W1 : ∀ b, E1.F b → E.w.heap[b]? = E1.w.heap[b]?
  cap : ∀ (b : Nat) c e f, E1.w.heap[b]? = some (Obj.cells c e f) → ∃ c' e' f', E.w.heap[b]? = some (Obj.cells c' e' f') ∧ c'.size = c.size ∧ e' = e
  d1 : ∀ b, Oi b → ¬ E.S.own b
  d2 : ∀ b, Fi b → ¬ E.S.own b
  d3 : ∀ b, Oi b → ¬ Fi b → ¬ E.F b
  f1 : ∀ b, Fi b → E.F b ∨ Oc b
  lt : ∀ b, Oi b → b < E.w.heap.size
  sp : ∀ s, (s = l ∨ s ∈ Ds) → Oc s ∧ ¬ Oi s ∧ ¬ Fi s ∧ ¬ E.F s
  lp : ∃ r₀, E.w.heap[l]? = some (.loop r₀)
  dl : l ∉ Ds
  ds : ∀ D ∈ Ds, E.w.heap[D]? = some (.deferred (some []))

theorem Mid.spl {K : KP} {E1 : Env} {l : Nat} {Ds : List Nat} {Oi Fi Oc : Nat → Prop} {E : Env} {hp : AHeap} (M : Mid K E1 l Ds Oi Fi Oc E hp) {s : Nat} (hs : s = l ∨ s ∈ Ds) :
    s < E.w.heap.size ∧ ¬ E.S.own s := by
  have : ∃ o, E.w.heap[s]? = some o ∧ (∀ c e f, o ≠ Obj.cells c e f) ∧ ∀ es e, o ≠ Obj.map es e := by
    rcases hs with rfl | hs
    · obtain ⟨r₀, h⟩ := M.lp
      exact ⟨_, h, by simp, by simp⟩
    · exact ⟨_, M.ds s hs, by simp, by simp⟩
  obtain ⟨o, h1, h2, h2m⟩ := this
  refine ⟨(Array.getElem?_eq_some_iff.1 h1).1, fun ho => ?_⟩
  rcases M.H.own_cells ho with ⟨c, e, f, hc⟩ | ⟨es, e, hc⟩
  · rw [h1] at hc
    exact h2 c e f (Option.some.inj hc)
  · rw [h1] at hc
    exact h2m es e (Option.some.inj hc)

/-- The iterator has gone on. -/
theorem Mid.step {K : KP} (hK : KStep K) {E1 : Env} {l : Nat} {Ds : List Nat} {Oi Fi Oc : Nat → Prop} {E : Env} {hp : AHeap} (M : Mid K E1 l Ds Oi Fi Oc E hp) {w' : World} {Oi' Fi' : Nat → Prop}
    (X : WX (fun b => Oi b ∧ ¬ Fi b) E.w w') (ho : ∀ b, Oi' b → Oi b ∨ (E.w.heap.size ≤ b ∧ b < w'.heap.size)) (hf1 : ∀ b, Fi b → Fi' b) (hf2 : ∀ b, Fi' b → Fi b ∨ Oi b ∨ (E.w.heap.size ≤ b ∧ b < w'.heap.size)) :
    Mid K E1 l Ds Oi' Fi' (fun b => Oc b ∨ (E.w.heap.size ≤ b ∧ b < w'.heap.size)) { E with w := w' } hp ∧ w'.heap[l]? = E.w.heap[l]? := by
  have hown : ∀ b, E.S.own b → w'.heap[b]? = E.w.heap[b]? := fun b hb => X.same b (M.H.own_lt hb) fun h => M.d1 b h.1 hb
  have hF : ∀ b, E.F b → w'.heap[b]? = E.w.heap[b]? := fun b hb => X.same b (M.H.frz b hb) fun h => M.d3 b h.1 h.2 hb
  have hsp : ∀ s, (s = l ∨ s ∈ Ds) → w'.heap[s]? = E.w.heap[s]? := fun s hs => X.same s (M.spl hs).1 fun h => (M.sp s hs).2.1 h.1
  refine ⟨⟨fun b hb => .inl (M.own b hb), fun b hb => ?_, ?_, M.H.world X.size hown hF X.cap, M.X1, M.F1, fun b hb => hf1 b (M.Fi1 b hb), fun b hb => (hF b (M.F1 b hb)).trans (M.W1 b hb), fun b c e f h => ?_, fun b hb => ?_, fun b hb => ?_, fun b hb hn => ?_, fun b hb => ?_, fun b hb => ?_, fun s hs => ?_, ?_, M.dl, fun D hD => (hsp D (.inr hD)).trans (M.ds D hD)⟩, hsp l (.inl rfl)⟩
  · exact (ho b hb).imp (M.oi b) id
  · exact hK.step M.k (X.mono fun q _ h => ⟨M.oi q h.1, M.d3 q h.1 h.2⟩) (fun _ h => h) (fun _ h => h) fun _ h => .inl h
  · obtain ⟨c', e', f', h1, h2⟩ := M.cap b c e f h
    obtain ⟨c'', e'', f'', h3, h4⟩ := X.cap b c' e' f' h1
    exact ⟨c'', e'', f'', h3, h4.1.trans h2.1, h4.2.trans h2.2⟩
  · intro hown
    rcases ho b hb with h | h
    · exact M.d1 b h hown
    · have := M.H.own_lt hown; omega
  · intro hown
    rcases hf2 b hb with h | h | h
    · exact M.d2 b h hown
    · exact M.d1 b h hown
    · have := M.H.own_lt hown; omega
  · intro hf
    rcases ho b hb with h | h
    · exact M.d3 b h (fun x => hn (hf1 b x)) hf
    · have := M.H.frz b hf; omega
  · rcases hf2 b hb with h | h | h
    · exact (M.f1 b h).imp id .inl
    · exact .inr (.inl (M.oi b h))
    · exact .inr (.inr h)
  · rcases ho b hb with h | h
    · exact Nat.lt_of_lt_of_le (M.lt b h) X.size
    · exact h.2
  · obtain ⟨s1, s2, s3, s4⟩ := M.sp s hs
    have hlt := (M.spl hs).1
    refine ⟨.inl s1, fun h => ?_, fun h => ?_, s4⟩
    · rcases ho s h with h | h
      · exact s2 h
      · omega
    · rcases hf2 s h with h | h | h
      · exact s3 h
      · exact s2 h
      · omega
  · obtain ⟨r₀, h⟩ := M.lp
    exact ⟨r₀, (hsp l (.inl rfl)).trans h⟩

/-- How far a round has come. -/
structure Rnd (K : KP) (E : Env) (Fi Oc : Nat → Prop) (l : Nat) (E' : Env) (O' : Nat → Prop) : Prop where
  o : ∀ b, O' b → E.S.own b ∨ (E.w.heap.size ≤ b ∧ b < E'.w.heap.size)
  f1 : ∀ b, E.F b ∨ Fi b → E'.F b
  f2 : ∀ b, E'.F b → E.F b ∨ Fi b ∨ E.S.own b ∨ E.w.heap.size ≤ b
  wx : WX (fun b => E.S.own b ∨ b = l) E.w E'.w
  k : ∃ Oc', (∀ b, Oc b → Oc' b) ∧ (∀ b, O' b → Oc' b) ∧ K none Oc' E'.F E'.w
  own : ∀ b, E'.S.own b → O' b

section
variable {r : Option Nat} {K : KP} {E1 : Env} {l : Nat} {Ds : List Nat} {Oi Fi Oc : Nat → Prop} {E : Env} {hp : AHeap}

theorem Mid.round (hK : KStep K) (M : Mid K E1 l Ds Oi Fi Oc E hp) : Rnd K E Fi Oc l { E with F := fun b => E.F b ∨ Fi b } E.S.own :=
  ⟨fun _ h => .inl h, fun _ h => h, fun _ h => h.imp id .inl, (WX.refl (fun _ => False) _).mono fun _ _ h => h.elim, ⟨Oc, fun _ h => h, M.own, hK.step M.k (WX.refl _ _) (fun _ h => .inl h) (fun _ h => .inl h) fun b hb => hb.elim .inl fun h => (M.f1 b h).imp id .inl⟩, fun _ h => h⟩

theorem Rnd.noF (M : Mid K E1 l Ds Oi Fi Oc E hp) {E' : Env} {O' : Nat → Prop} (R : Rnd K E Fi Oc l E' O') {s : Nat} (hs : s = l ∨ s ∈ Ds) : ¬ E'.F s := by
  intro h
  obtain ⟨s1, s2, s3, s4⟩ := M.sp s hs
  obtain ⟨g1, g2⟩ := M.spl hs
  rcases R.f2 s h with h | h | h | h
  · exact s4 h
  · exact s3 h
  · exact g2 h
  · omega

theorem Rnd.noO (M : Mid K E1 l Ds Oi Fi Oc E hp) {E' : Env} {O' : Nat → Prop} (R : Rnd K E Fi Oc l E' O') {s : Nat} (hs : s = l ∨ s ∈ Ds) : ¬ O' s := by
  intro h
  obtain ⟨g1, g2⟩ := M.spl hs
  rcases R.o s h with h | h
  · exact g2 h
  · omega

theorem Rnd.kb (_M : Mid K E1 l Ds Oi Fi Oc E hp) {E' : Env} {O' Oc' : Nat → Prop} (R : Rnd K E Fi Oc l E' O') (ho : ∀ b, Oc b → Oc' b) {g : Gh} {O2 : Nat → Prop} {E2 : Env} (h : KB K E' Oc' g O2 E2.F E2.w) (hown : ∀ b, E2.S.own b → O2 b) :
    Rnd K E Fi Oc l E2 O2 := by
  obtain ⟨h1, h2, h3, h4, h5, h6⟩ := h
  refine ⟨fun b hb => ?_, fun b hb => h3 b (R.f1 b hb), fun b hb => ?_, ?_, ⟨_, fun b hb => .inl (ho b hb), fun b hb => .inr hb, h6⟩, hown⟩
  · rcases h2 b hb with h | h
    · exact (R.o b (R.own b h)).imp id fun h => ⟨h.1, Nat.lt_of_lt_of_le h.2 h5.size⟩
    · exact .inr ⟨Nat.le_trans R.wx.size h.1, h.2⟩
  · rcases h4 b hb with h | h | h
    · exact R.f2 b h
    · exact .inr (.inr ((R.o b (R.own b h)).imp id And.left))
    · exact .inr (.inr (.inr (Nat.le_trans R.wx.size h)))
  · refine (R.wx.trans h5).mono fun q hq h => ?_
    rcases h with h | h
    · exact h
    · rcases R.o q (R.own q h) with h | h
      · exact .inl h
      · omega

theorem Rnd.put (hK : KStep K) (M : Mid K E1 l Ds Oi Fi Oc E hp) {E' : Env} {O' : Nat → Prop} (R : Rnd K E Fi Oc l E' O') {rr : Loop} (hl : E'.w.heap[l]? = some (.loop rr)) (o : Obj) : Rnd K E Fi Oc l { E' with w := E'.w.putObj l o } O' := by
  have X := wx_put hl (by simp) o
  obtain ⟨Oc', k1, k2, k3⟩ := R.k
  refine ⟨fun b hb => (R.o b hb).imp id fun h => ⟨h.1, Nat.lt_of_lt_of_le h.2 X.size⟩, R.f1, R.f2, (R.wx.trans X).mono fun q _ h => h.elim id .inr, ⟨Oc', k1, k2, ?_⟩, R.own⟩
  exact hK.step k3 (X.mono fun q _ h => by
    have h : q = l := h
    subst h
    exact ⟨k1 _ (M.sp _ (.inl rfl)).1, R.noF M (.inl rfl)⟩) (fun _ h => .inl h) (fun _ h => h) fun _ h => .inl h

/-- Where a round leaves the caller. -/
theorem Mid.back {m : Nat} (hK : KStep K) (M : Mid K E1 l Ds Oi Fi Oc E hp) (hl1 : E1.S.ρ.length = m) (hm : m ≤ E.S.ρ.length) (hFi : ∀ b, Fi b → b < E.w.heap.size) {E3 : Env} {O3 : Nat → Prop} {hp3 : AHeap} (R : Rnd K E Fi Oc l E3 O3) (H3 : HRel E3 hp3)
    (X3 : ShpExt (E.S.pre m) E3.S) {keep fz : List Nat} (hok : okKeep m hp3.length (keep ++ fz) = true) {rr : Loop} (hl : E3.w.heap[l]? = some (.loop rr)) (rr' : Loop) :
    (∃ Oc5, Mid K E1 l Ds Oi Fi Oc5 { E3.gc m keep fz hp3 with w := E3.w.putObj l (.loop rr') } (gcH m keep fz hp3)) ∧ YX Oi Fi E.w (E3.w.putObj l (.loop rr')) ∧ (E3.w.putObj l (.loop rr')).heap[l]? = some (.loop rr') ∧ m ≤ (gcH m keep fz hp3).length ∧ (gcH m keep fz hp3).length = m + keep.length := by
  have hlp : (E.S.pre m).ρ.length = m := by simp only [Shp.pre, List.length_take]; omega
  have h0 : m ≤ hp3.length := by rw [← H3.len, ← hlp]; exact X3.le
  have hlt : l < E3.w.heap.size := (Array.getElem?_eq_some_iff.1 hl).1
  have R5 := R.put hK M hl (.loop rr')
  have X5 := wx_put hl (by simp) (.loop rr')
  have hlno : ¬ E3.S.own l := fun h => R.noO M (.inl rfl) (R.own l h)
  have hF : ∀ b, (E3.gc m keep fz hp3).F b → E3.F b ∨ E3.S.own b := by
    rintro b (h | ⟨k, base, bk, _, m2, m3⟩)
    · exact .inl h
    · exact .inr (H3.own_of m3 m2)
  obtain ⟨o1, _, _⟩ := okKeep_parts hok
  have hg : ∀ b, (E3.S.gc m keep).own b → E3.S.own b := fun b hb => gc_own H3 h0 o1 hb
  have hHg := H3.gc h0 hok
  have hne : ∀ b, E3.S.own b → b ≠ l := fun b hb he => hlno (he ▸ hb)
  have Yx : YX Oi Fi E.w (E3.w.putObj l (.loop rr')) := by
    have W := R5.wx
    refine ⟨W.os, W.tape, W.output, W.size, fun b hb h => W.same b hb fun hh => ?_, W.cap, W.mcap⟩
    rcases hh with hh | hh
    · rcases h with h | h
      · exact M.d1 b h hh
      · exact M.d2 b h hh
    · subst hh
      obtain ⟨_, s2, s3, _⟩ := M.sp b (.inl rfl)
      rcases h with h | h
      · exact s2 h
      · exact s3 h
  have hglen : (gcH m keep fz hp3).length = m + keep.length := by simp [gcH]; omega
  obtain ⟨Oc5, k1, k2, k3⟩ := R5.k
  refine ⟨⟨Oc5, ?_⟩, Yx, World.putObj_heap_same hlt, by omega, hglen⟩
  have hown5 : ∀ b, (E3.S.gc m keep).own b → O3 b := fun b hb => R.own b (hg b hb)
  refine ⟨fun b hb => k2 b (hown5 b hb), fun b hb => k1 b (M.oi b hb), ?_, ?_, M.X1.pre_trans M.H.rlen (by omega) (X3.gc H3 (by omega) h0), fun b hb => .inl (R.f1 b (.inl (M.F1 b hb))), M.Fi1, fun b hb => ?_, fun b c e f h => ?_, fun b hb hown => ?_, fun b hb hown => ?_, fun b hb hn hf => ?_, fun b hb => ?_, fun b hb => ?_, fun s hs => ?_, ⟨rr', World.putObj_heap_same hlt⟩, M.dl, fun D hD => ?_⟩
  · exact hK.step k3 (WX.refl _ _) (fun _ h => .inl h) (fun _ h => .inl h) fun b hb => (hF b hb).imp id fun h => .inl (k2 b (R.own b h))
  · refine hHg.world X5.size (fun b hb => X5.same b (H3.own_lt (hg b hb)) (hne b (hg b hb))) (fun b hb => X5.same b (hHg.frz b hb) ?_) X5.cap
    intro he
    have he : b = l := he
    subst he
    rcases hF b hb with h | h
    · exact R.noF M (.inl rfl) h
    · exact hlno h
  · have hE := M.F1 b hb
    have h1 := M.H.frz b hE
    rw [← M.W1 b hb]
    refine R5.wx.same b h1 fun h => ?_
    rcases h with h | h
    · exact M.H.off b hE h
    · subst h; exact (M.sp b (.inl rfl)).2.2.2 hE
  · obtain ⟨c', e', f', h1, h2⟩ := M.cap b c e f h
    obtain ⟨c'', e'', f'', h3, h4⟩ := R5.wx.cap b c' e' f' h1
    exact ⟨c'', e'', f'', h3, h4.1.trans h2.1, h4.2.trans h2.2⟩
  · rcases R.o b (hown5 b hown) with h | h
    · exact M.d1 b hb h
    · have := M.lt b hb; omega
  · rcases R.o b (hown5 b hown) with h | h
    · exact M.d2 b hb h
    · have := hFi b hb; omega
  · have key : E3.F b ∨ E3.S.own b := hF b hf
    have hb1 := M.lt b hb
    rcases key with h | h
    · rcases R.f2 b h with h | h | h | h
      · exact M.d3 b hb hn h
      · exact hn h
      · exact M.d1 b hb h
      · omega
    · rcases R.o b (R.own b h) with h | h
      · exact M.d1 b hb h
      · omega
  · exact .inl (.inl (R.f1 b (.inr hb)))
  · exact Nat.lt_of_lt_of_le (M.lt b hb) R5.wx.size
  · obtain ⟨s1, s2, s3, s4⟩ := M.sp s hs
    refine ⟨k1 s s1, s2, s3, fun hf => ?_⟩
    rcases hF s hf with h | h
    · exact R.noF M hs h
    · exact R.noO M hs (R.own s h)
  · have hDl : D ≠ l := fun h => M.dl (h ▸ hD)
    obtain ⟨g1, g2⟩ := M.spl (.inr hD)
    rw [← M.ds D hD]
    exact R5.wx.same D g1 fun h => h.elim g2 hDl
end

end Go.AL

/-! A range over a function, sound: the rounds. Seat-independent. -/

namespace Go.AL
variable {P : Program}

def jumpOf : AExit → Option Code
  | .normal => none
  | .exit id => some (.exit id)
  | .ret => some .ret

/-- What the caller of an iterator keeps. -/
def Inv (K : KP) (E1 : Env) (l : Nat) (Ds : List Nat) (rec : LoopState → Option Code → Loop) (I : Nat → AHeap → Prop) (xs : List (List AV)) (Q : AExit → St → Prop) (st1 : St) : KP := fun g Oi Fi w =>
  ∃ Oc E hp, E.w = w ∧ Mid K E1 l Ds Oi Fi Oc E hp ∧ E1.S.ρ.length ≤ hp.length ∧ match g with
    | some (l', true, rest) => l' = l ∧ ∃ k, k ≤ xs.length ∧ xs.drop k = rest ∧ I k hp ∧ w.heap[l]? = some (.loop (rec .ready none))
    | some (l', false, _) => l' = l ∧ ∃ c e, w.heap[l]? = some (.loop (rec .done (some c))) ∧ jumpOf e = some c ∧ Q e ⟨st1.tm, hp, hp.length, st1.n0⟩
    | none => True

section
variable {r : Option Nat} {K : KP} {E1 : Env} {l : Nat} {Ds : List Nat} {I : Nat → AHeap → Prop} {xs : List (List AV)} {Q : AExit → St → Prop} {st1 : St} {rec : LoopState → Option Code → Loop}

theorem Inv.kstep (hK : KStep K) : KStep (Inv K E1 l Ds rec I xs Q st1) where
  step := by
    rintro g Oi Fi w Oi' Fi' w' ⟨Oc, E, hp, rfl, M, hlen, hg⟩ X ho hf1 hf2
    obtain ⟨M', hl⟩ := M.step hK X ho hf1 hf2
    refine ⟨_, _, hp, rfl, M', hlen, ?_⟩
    match g, hg with
    | none, _ => trivial
    | some (l', true, rest), hg =>
      obtain ⟨e, k, h1, h2, h3, h4⟩ := hg
      exact ⟨e, k, h1, h2, h3, hl.trans h4⟩
    | some (l', false, rest), hg =>
      obtain ⟨e, c, ex, h1, h2⟩ := hg
      exact ⟨e, c, ex, hl.trans h1, h2⟩
  forget := fun ⟨Oc, E, hp, h1, M, hlen, _⟩ => ⟨Oc, E, hp, h1, M, hlen, trivial⟩

theorem trel_mid {N z : Nat} {S0 : Shp} {O : Nat → Prop} {a : Act} (L1 : Lf r S0 K N z O E1 st1 a) {E1' : Env} (he : E1'.S = E1.S) (hf : E1'.F = E1.F) (hw : ∀ b, E1.F b → E1'.w.heap[b]? = E1.w.heap[b]?)
    (hc : ∀ (b : Nat) c e f, E1.w.heap[b]? = some (Obj.cells c e f) → ∃ c' e' f', E1'.w.heap[b]? = some (Obj.cells c' e' f') ∧ c'.size = c.size ∧ e' = e)
    {Oi Fi Oc : Nat → Prop} {E : Env} {hp : AHeap} (M : Mid K E1' l Ds Oi Fi Oc E hp) : TRel E st1.tm a := fun t =>
  Rel.mono (w := E1.w) (F := E1.F) (w' := E.w) (F' := E.F) (fun b hb => M.F1 b (by rw [hf]; exact hb)) (fun b o hb => cell_of_heap ((M.W1 b (by rw [hf]; exact hb)).trans (hw b hb)) _ _) (L1.S.T t) _
    (fun k p hp => M.X1.rho k p (by rw [he]; exact hp)) (fun k p q hq hp => by
      have := M.X1.sh k p (by rw [he, ← L1.S.H.rlen]; exact (List.getElem?_eq_some_iff.1 hq).1) hp
      rw [he] at this; exact this)
    fun b c e f h => by
      obtain ⟨c', e', f', h1, h2⟩ := hc b c e f h
      obtain ⟨c'', e'', f'', h3, h4⟩ := M.cap b c' e' f' h1
      exact ⟨c'', e'', f'', h3, h4.1.trans h2.1, h4.2.trans h2.2⟩

theorem trel_midK {N z : Nat} {S0 : Shp} {O : Nat → Prop} {a : Act} (L1 : Lf r S0 K N z O E1 st1 a) {E1' : Env} (hρ : E1'.S.ρ = E1.S.ρ) (hl : E1'.S.sh.length = E1.S.sh.length) (hsh : ∀ (k : Nat) p, E1'.S.sh[k]? = some (some p) → E1.S.sh[k]? = some (some p)) (hf : E1'.F = E1.F) (hw : ∀ b, E1.F b → E1'.w.heap[b]? = E1.w.heap[b]?)
    (hc : ∀ (b : Nat) c e f, E1.w.heap[b]? = some (Obj.cells c e f) → ∃ c' e' f', E1'.w.heap[b]? = some (Obj.cells c' e' f') ∧ c'.size = c.size ∧ e' = e)
    {Oi Fi Oc : Nat → Prop} {E : Env} {hp : AHeap} (M : Mid K E1' l Ds Oi Fi Oc E hp) : TRel E st1.tm a := fun t =>
  Rel.mono (w := E1.w) (F := E1.F) (w' := E.w) (F' := E.F) (fun b hb => M.F1 b (by rw [hf]; exact hb)) (fun b o hb => cell_of_heap ((M.W1 b (by rw [hf]; exact hb)).trans (hw b hb)) _ _) (L1.S.T t) _
    (fun k p hp => M.X1.rho k p (by rw [hρ]; exact hp)) (fun k p q hq hp => hsh k p (M.X1.sh k p (by rw [hl, ← L1.S.H.rlen]; exact (List.getElem?_eq_some_iff.1 hq).1) hp))
    fun b c e f h => by
      obtain ⟨c', e', f', h1, h2⟩ := hc b c e f h
      obtain ⟨c'', e'', f'', h3, h4⟩ := M.cap b c' e' f' h1
      exact ⟨c'', e'', f'', h3, h4.1.trans h2.1, h4.2.trans h2.2⟩

theorem Inv.yields (C : Ctx P r K) {N : Nat} {a : Act} {ps : Array Tmp} {assign body : Code} {aa ab : ACode} {fn : FuncId} {dl : Nat}
    (hrec : rec = fun st pe => { state := st, pending := pe, fn, tmps := a.tmps, params := ps, assign, body, defers := dl })
    (iha : ∀ {r : Option Nat} {K : KP} {S0 : Shp} {z n : Nat}, Ctx P r K → S0.ρ.length = z → ∀ {Q : AExit → St → Prop} {O : Nat → Prop} {E : Env} {st : St} {a : Act}, Lf r S0 K N z O E st a → wpA P aa Q st → assign.wpIn (Fr r) n P (lift r S0 K N z Q) a E.w)
    (ihb : ∀ {r : Option Nat} {K : KP} {S0 : Shp} {z n : Nat}, Ctx P r K → S0.ρ.length = z → ∀ {Q : AExit → St → Prop} {O : Nat → Prop} {E : Env} {st : St} {a : Act}, Lf r S0 K N z O E st a → wpA P ab Q st → body.wpIn (Fr r) n P (lift r S0 K N z Q) a E.w)
    (hT : ∀ {Oi Fi Oc : Nat → Prop} {E : Env} {hp : AHeap}, Mid K E1 l Ds Oi Fi Oc E hp → TRel E st1.tm a) (hN : a.tmps.size = N) (hNG : N ≤ G) (hps : ∀ p ∈ ps.toList, p < N) (hgh : ghostOf st1.tm = none) (hE1 : E1.S.ρ.length = st1.hn) (hxl : ∀ x ∈ xs, x.length = ps.toList.length)
    (hround : ∀ k x hp, xs[k]? = some x → I k hp → wpA P aa (fun e st' => match e with | .normal => wpA P ab (fun e st' => match e with
      | .normal => ∃ keep fz, okKeep st1.hn st'.hn (keep ++ fz) = true ∧ I (k + 1) (gcH st1.hn keep fz st'.hp)
      | e => ∃ keep fz, okKeep st1.hn st'.hn (keep ++ fz) = true ∧ Q e ⟨st1.tm, gcH st1.hn keep fz st'.hp, st1.hn + keep.length, st1.n0⟩) st' | _ => False) ⟨setPs ps.toList x st1.tm, hp, hp.length, st1.hn⟩) :
    Yields P (Inv K E1 l Ds rec I xs Q st1) := by
  rintro l' x rest Oi Fi w vs ⟨Oc, E, hp, rfl, M, hlen, rfl, k, hk1, hk2, hI, hlr⟩ hFi hxv hR n
  have hkx : xs[k]? = some x := by
    have := congrArg (·[0]?) hk2
    simpa [List.getElem?_drop] using this
  have hk : k < xs.length := (List.getElem?_eq_some_iff.1 hkx).1
  have hrest : xs.drop (k + 1) = rest := by
    have := congrArg List.tail hk2
    simpa [List.tail_drop] using this
  have hxps : x.length = ps.toList.length := hxl x (List.mem_of_getElem? hkx)
  have hy := run_yield (P := P) (args := vs) hlr (by rw [hrec]; simp at hxps ⊢; omega)
  rw [hrec] at hy
  refine ⟨fn, _, assign, body, hy, roundIn_of_wpIn (F := Fence.wide) trivial ?_⟩
  clear hy
  have hmlt : st1.hn ≤ E.S.ρ.length := by rw [M.H.len, ← hE1]; exact hlen
  have hpre : (E.S.pre st1.hn).ρ.length = st1.hn := by simp only [Shp.pre, List.length_take]; omega
  have hlno : ¬ E.S.own l' := (M.spl (.inl rfl)).2
  -- the assignments
  have R0 := M.round C.step
  have H0 : HRel { E with F := fun b => E.F b ∨ Fi b } hp := M.H.moreF (fun b h => .inl h) (fun b h => h.elim (M.H.off b) (M.d2 b)) fun b h => h.elim (M.H.frz b) (hFi b)
  obtain ⟨Oc0, c1, c2, c3⟩ := R0.k
  have C0 : Ctx P (some l') (KB K { E with F := fun b => E.F b ∨ Fi b } Oc0) := KB.ctx C (Es := { E with F := fun b => E.F b ∨ Fi b }) hlr hlno
  obtain ⟨T0, hsz⟩ := setPs_rel (E := { E with F := fun b => E.F b ∨ Fi b }) ps.toList x vs.toList st1.tm a.tmps a.defers [] hxps (by simp at hxps ⊢; omega) (fun p hp => by rw [hN]; exact hps p hp)
    (fun i c v hc hv => ((hR i c v hc (by simpa using hv)).more (fun b h => .inr h)).nil_to _) (fun t => (hT M t).more fun b h => .inl h)
  have hfold : ((ps.zip vs).foldl (fun tmps (t, a) => tmps.setIfInBounds t a) a.tmps) = (ps.toList.zip vs.toList).foldl (fun t (p, v) => t.setIfInBounds p v) a.tmps := by
    rw [← Array.foldl_toList, Array.toList_zip]
  rw [hfold]
  have L0 : Lf (some l') (E.S.pre st1.hn) (KB K { E with F := fun b => E.F b ∨ Fi b } Oc0) N st1.hn E.S.own { E with F := fun b => E.F b ∨ Fi b } ⟨setPs ps.toList x st1.tm, hp, hp.length, st1.hn⟩
      { tmps := (ps.toList.zip vs.toList).foldl (fun t (p, v) => t.setIfInBounds p v) a.tmps, defers := [] } := by
    refine ⟨Shp.pre_ext M.H.rlen _, fun _ h => h, ?_, Mk.nil .., ⟨T0, H0, rfl, hNG, by rw [hsz]; exact hN, rfl⟩⟩
    refine ⟨?_, fun b h => .inl h, fun b h => h, fun b h => .inl h, WX.refl _ _, ?_⟩
    · show ghostOf (setPs ps.toList x st1.tm) = none
      rw [setPs_ghost _ _ _ (fun p hp he => absurd he (Nat.ne_of_lt (Nat.lt_of_lt_of_le (hps p hp) hNG)))]
      exact hgh
    · exact C.step.step c3 (WX.refl _ _) (fun b hb => .inl (hb.elim id (c2 b))) (fun _ h => h) fun _ h => .inl h
  refine Go.wpIn_mono (iha C0 hpre (E := { E with F := fun b => E.F b ∨ Fi b }) L0 (hround k x hp hkx hI)) ?_
  rintro e a2 w2 hl2
  cases e with
  | normal =>
    obtain ⟨O2, E2, st2, rfl, L2, hb⟩ := hl2
    have R2 := R0.kb M c1 (h := L2.k) L2.own
    have hl2 : E2.w.heap[l']? = some (.loop (rec .ready none)) := by
      obtain ⟨_, _, _, _, hwx, _⟩ := L2.k
      exact (hwx.same l' (M.spl (.inl rfl)).1 hlno).trans hlr
    refine ⟨_, run_beginRound hl2 (by rw [hrec]), ?_⟩
    -- the body
    have R2' := R2.put C.step M hl2 (.loop { rec .ready none with state := .busy })
    have hl2' : (E2.w.putObj l' (.loop { rec .ready none with state := .busy })).heap[l']? = some (.loop { rec .ready none with state := .busy }) := World.putObj_heap_same (Array.getElem?_eq_some_iff.1 hl2).1
    have hlno2 : ¬ E2.S.own l' := fun h => R2.noO M (.inl rfl) (R2.own l' h)
    have X2 := wx_put hl2 (by simp) (.loop { rec .ready none with state := .busy })
    have H2' : HRel { E2 with w := E2.w.putObj l' (.loop { rec .ready none with state := .busy }) } st2.hp :=
      L2.S.H.world X2.size (fun b hb => X2.same b (L2.S.H.own_lt hb) fun he => hlno2 (by have he : b = l' := he; exact he ▸ hb)) (fun b hb => X2.same b (L2.S.H.frz b hb) fun he => R2.noF M (.inl rfl) (by have he : b = l' := he; exact he ▸ hb)) X2.cap
    have T2' : TRel { E2 with w := E2.w.putObj l' (.loop { rec .ready none with state := .busy }) } st2.tm a2 := fun t =>
      Rel.world (fun b hb => X2.same b (L2.S.H.frz b hb) fun he => R2.noF M (.inl rfl) (by have he : b = l' := he; exact he ▸ hb)) X2.cap (L2.S.T t)
    obtain ⟨Oc2, e1, e2, e3⟩ := R2'.k
    have C2 : Ctx P (some l') (KB K { E2 with w := E2.w.putObj l' (.loop { rec .ready none with state := .busy }) } Oc2) := KB.ctx C (Es := { E2 with w := E2.w.putObj l' (.loop { rec .ready none with state := .busy }) }) hl2' hlno2
    have L2' : Lf (some l') (E.S.pre st1.hn) (KB K { E2 with w := E2.w.putObj l' (.loop { rec .ready none with state := .busy }) } Oc2) N st1.hn E2.S.own { E2 with w := E2.w.putObj l' (.loop { rec .ready none with state := .busy }) } st2 a2 := by
      refine ⟨L2.X, fun _ h => h, ⟨L2.k.1, fun b h => .inl h, fun b h => h, fun b h => .inl h, WX.refl _ _, ?_⟩, ?_, ⟨T2', H2', L2.S.hn, L2.S.NG, L2.S.N, L2.S.z⟩⟩
      · exact C.step.step e3 (WX.refl _ _) (fun b hb => .inl (hb.elim id fun h => e2 b (R2.own b h))) (fun _ h => h) fun _ h => .inl h
      · obtain ⟨D2, g1, g2, g3, g4⟩ := L2.m
        have hD := g3 (by simp)
        subst hD
        rw [g1]
        exact Mk.nil ..
    refine Go.wpIn_mono (ihb C2 hpre (E := { E2 with w := E2.w.putObj l' (.loop { rec .ready none with state := .busy }) }) L2' hb) ?_
    have fin : ∀ {w3 : World} {O3 : Nat → Prop} {E3 : Env} {st3 : St} {a3 : Act}, E3.w = w3 → Lf (some l') (E.S.pre st1.hn) (KB K { E2 with w := E2.w.putObj l' (.loop { rec .ready none with state := .busy }) } Oc2) N st1.hn O3 E3 st3 a3 →
        ∀ {keep fz : List Nat}, okKeep st1.hn st3.hn (keep ++ fz) = true → ∀ (jump : Option Code), ∃ w5, (Instr.endRound l' jump).run P w3 = .ok (.bool jump.isNone) w5 ∧ YX Oi Fi E.w w5 ∧
          ∃ Oc5 E5, E5.w = w5 ∧ Mid K E1 l' Ds Oi Fi Oc5 E5 (gcH st1.hn keep fz st3.hp) ∧ E1.S.ρ.length ≤ (gcH st1.hn keep fz st3.hp).length ∧ (gcH st1.hn keep fz st3.hp).length = st1.hn + keep.length ∧ w5.heap[l']? = some (.loop (rec (if jump.isNone then .ready else .done) jump)) := by
      rintro w3 O3 E3 st3 a3 rfl L3 keep fz hok jump
      have R3 := R2'.kb M e1 (h := L3.k) L3.own
      have hl3 : E3.w.heap[l']? = some (.loop { rec .ready none with state := .busy }) := by
        obtain ⟨_, _, _, _, hwx, _⟩ := L3.k
        exact (hwx.same l' (Array.getElem?_eq_some_iff.1 hl2').1 hlno2).trans hl2'
      rw [L3.S.hn] at hok
      obtain ⟨⟨Oc5, M5⟩, Y5, hl5, hle, hlen5⟩ := M.back C.step (m := st1.hn) hE1 hmlt hFi R3 L3.S.H L3.X hok hl3 (rec (if jump.isNone then .ready else .done) jump)
      have hend := run_endRound (P := P) jump hl3
      rw [hrec] at hend ⊢
      rw [hrec] at Y5 M5 hl5
      exact ⟨_, hend, Y5, Oc5, _, rfl, M5, by rw [hE1]; exact hle, hlen5, hl5⟩
    rintro e a3 w3 hl3
    cases e with
    | normal =>
      obtain ⟨O3, E3, st3, he3, L3, keep, fz, hok, hI'⟩ := hl3
      obtain ⟨w5, q1, q2, Oc5, E5, q3, q4, q5, _, q6⟩ := fin he3 L3 hok none
      exact ⟨_, w5, q1, true, rfl, ⟨Oc5, E5, _, q3, q4, q5, rfl, k + 1, hk, hrest, hI', q6⟩, q2⟩
    | ret =>
      obtain ⟨O3, E3, st3, he3, L3, keep, fz, hok, hQ⟩ := hl3
      obtain ⟨w5, q1, q2, Oc5, E5, q3, q4, q5, q7, q6⟩ := fin he3 L3 hok (some .ret)
      exact ⟨_, w5, q1, false, rfl, ⟨Oc5, E5, _, q3, q4, q5, rfl, .ret, .ret, q6, rfl, by rw [q7]; exact hQ⟩, q2⟩
    | exit id =>
      obtain ⟨O3, E3, st3, he3, L3, keep, fz, hok, hQ⟩ := hl3
      obtain ⟨w5, q1, q2, Oc5, E5, q3, q4, q5, q7, q6⟩ := fin he3 L3 hok (some (.exit id))
      exact ⟨_, w5, q1, false, rfl, ⟨Oc5, E5, _, q3, q4, q5, rfl, .exit id, .exit id, q6, rfl, by rw [q7]; exact hQ⟩, q2⟩
    | _ => exact hl3.elim
  | exit id => obtain ⟨_, _, _, _, _, h⟩ := hl2; exact h.elim
  | ret => obtain ⟨_, _, _, _, _, h⟩ := hl2; exact h.elim
  | _ => exact hl2.elim

theorem rangefL_sound {n : Nat} {S0 : Shp} {N z : Nat} (C : Ctx P r K) (_hz : S0.ρ.length = z) {g : Operand} {g' : Opd} (hg : cOpd g = some g') {ps : Array Tmp} (hps : ∀ p ∈ ps.toList, p < N) {assign body : Code} {aa ab : ACode}
    (iha : ∀ {r : Option Nat} {K : KP} {S0 : Shp} {z n : Nat}, Ctx P r K → S0.ρ.length = z → ∀ {Q : AExit → St → Prop} {O : Nat → Prop} {E : Env} {st : St} {a : Act}, Lf r S0 K N z O E st a → wpA P aa Q st → assign.wpIn (Fr r) n P (lift r S0 K N z Q) a E.w)
    (ihb : ∀ {r : Option Nat} {K : KP} {S0 : Shp} {z n : Nat}, Ctx P r K → S0.ρ.length = z → ∀ {Q : AExit → St → Prop} {O : Nat → Prop} {E : Env} {st : St} {a : Act}, Lf r S0 K N z O E st a → wpA P ab Q st → body.wpIn (Fr r) n P (lift r S0 K N z Q) a E.w)
    {O : Nat → Prop} {a : Act} (L1 : Lf r S0 K N z O E1 st1 a) (hgh : ghostOf st1.tm = none) {f : FuncId} {cap : List AV} (hf : ev st1.tm g' = .fn f cap)
    (h : LoopRL P ps.toList (fun Q => wpA P aa fun e st' => match e with | .normal => wpA P ab Q st' | _ => False) Q f cap st1) :
    (Code.rangeFunc g ps assign body).wpIn (Fr r) n P (lift r S0 K N z Q) a E1.w := by
  obtain ⟨own, xs, cap', hi, hi', hok, hvH, hvc, ⟨hent, hiter⟩, hlen', hxl, I, hI0, hround, hdone⟩ := h
  have H1 := L1.S.H
  have hrl1 := H1.rlen
  have hR := cOpd_rel L1.S.T hg
  rw [hf] at hR
  obtain ⟨vs, hge, hcs, hcr⟩ : ∃ vs : Array Value, a.eval g = .func (.func f) #[] vs ∧ cap.length = vs.size ∧ ∀ (i : Nat) c v, cap[i]? = some c → vs[i]? = some v → E1.R c v := by
    generalize a.eval g = u at hR
    cases hR with
    | fn _ _ _ vs h1 h2 => exact ⟨vs, rfl, h1, h2⟩
  refine wpIn_rangeFunc fun fn _ => ?_
  obtain ⟨l, Ds, w1, dl, hrun, hlr, hle, hDn, hDr, hDs, X1⟩ := enter_loop (r := r) (w := E1.w) (fun l hl => C.record l hl L1.k) fn a.tmps ps assign body
  obtain ⟨rec, hrec⟩ : ∃ rec : LoopState → Option Code → Loop, rec = fun st pe => { state := st, pending := pe, fn, tmps := a.tmps, params := ps, assign, body, defers := dl } := ⟨_, rfl⟩
  have hl1 : w1.heap[l]? = some (.loop (rec .ready none)) := by rw [hrec]; exact hlr
  have hl1lt : l < w1.heap.size := (Array.getElem?_eq_some_iff.1 hl1).1
  obtain ⟨Da, hda, hdan, hdar, hdam⟩ := L1.m
  refine ⟨l, Ds.map mark, w1, { target := .fn (.func f) vs, args := #[.func (.yield l) #[] #[]] }, w1, f, #[.func (.yield l) #[] #[]] ++ vs, w1, hrun, ?_, fun _ _ => trivial, ?_, fun h => by simp [Fr, Fence.wide] at h, ?_⟩
  · simp only [resolve, hge]
    simp [go_sem]
  · simp [invoke, go_sem, run_callFunc hent]
  have hw : ∀ b, b < E1.w.heap.size → w1.heap[b]? = E1.w.heap[b]? := fun b hb => X1.same b hb id
  have hF1 : ∀ b, E1.F b → b < E1.w.heap.size := fun b hb => H1.frz b hb
  have hlt := okKeep_lt hok
  obtain ⟨v1, v2⟩ := viewH_get hvH
  -- the lent blocks
  have HS := H1.sub (bor := []) hok (by rfl) (by rfl) hvH
  have hsubF : (E1.sub own []).F = E1.F := by
    funext b
    refine propext ⟨fun h => h.elim id fun ⟨k, base, hk, _⟩ => by simp at hk, .inl⟩
  have hsub : E1.sub own [] = ⟨E1.w, E1.F, (E1.sub own []).S⟩ := by
    rw [show E1.sub own [] = ⟨(E1.sub own []).w, (E1.sub own []).F, (E1.sub own []).S⟩ from rfl, hsubF]; rfl
  have subown : ∀ b, (E1.sub own []).S.own b → E1.S.own b := by
    rintro b ⟨i, base, p, h1, h2⟩
    have hi' : i < own.length := by have := (List.getElem?_eq_some_iff.1 h1).1; simpa [Env.sub] using this
    obtain ⟨e1, e2⟩ := sub_get (bor := []) H1 hlt (List.getElem?_eq_getElem hi')
    rw [e1] at h1
    rw [e2] at h2
    exact ⟨_, base, p, h1, h2⟩
  have apart : ∀ b, (E1.sub own []).S.own b → ¬ (E1.S.kill own).own b := by
    rintro b ⟨i, base, p, h1, h2⟩ hk
    obtain ⟨k, base', p', hno, k1, k2⟩ := kill_own hk
    have hi' : i < own.length := by have := (List.getElem?_eq_some_iff.1 h1).1; simpa [Env.sub] using this
    have hik := List.getElem?_eq_getElem hi'
    rw [(sub_get (bor := []) H1 hlt hik).1] at h1
    obtain ⟨bb, _, d1, _⟩ := v2 i _ hik
    obtain ⟨b', hb', _⟩ := H1.live.1 k2
    have := H1.inj _ _ _ _ b base base' d1 hb' h1 k1
    exact hno (this ▸ List.getElem_mem hi')
  have HS1 : HRel ⟨w1, E1.F, (E1.sub own []).S⟩ hi := by
    rw [hsub] at HS
    exact HS.world (E := ⟨E1.w, E1.F, (E1.sub own []).S⟩) X1.size (fun b hb => hw b (HS.own_lt hb)) (fun b hb => hw b (hF1 b hb)) X1.cap
  have HK := H1.lend hok
  have hT : ∀ {Oi Fi Oc : Nat → Prop} {E' : Env} {hp : AHeap}, Mid K ⟨w1, E1.F, E1.S.kill own⟩ l (Ds ++ Da) Oi Fi Oc E' hp → TRel E' st1.tm a :=
    fun M => trel_midK L1 (E1' := ⟨w1, E1.F, E1.S.kill own⟩) rfl (by simp [Shp.kill]) (fun k p h => (kill_sh h).2) rfl (fun b hb => hw b (hF1 b hb)) X1.cap M
  have hlen1 : (E1.S.kill own).ρ.length = st1.hn := by show E1.S.ρ.length = _; rw [H1.len, L1.S.hn]
  have M0 : Mid K ⟨w1, E1.F, E1.S.kill own⟩ l (Ds ++ Da) (E1.sub own []).S.own E1.F (fun b => O b ∨ (E1.w.heap.size ≤ b ∧ b < w1.heap.size)) ⟨w1, E1.F, E1.S.kill own⟩ (killH own st1.hp) := by
    have hk := L1.k
    rw [hgh] at hk
    refine ⟨fun b hb => .inl (L1.own b ?_), fun b hb => .inl (L1.own b (subown b hb)), ?_, HK.world X1.size (fun b hb => hw b (HK.own_lt hb)) (fun b hb => hw b (hF1 b hb)) X1.cap, ⟨fun _ _ h => h, fun _ _ _ h => h, by simp [Shp.kill]; exact hrl1⟩, fun _ h => h, fun _ h => h, fun _ _ => rfl, fun b c e f h => ⟨c, e, f, h, rfl, rfl⟩,
      apart, fun b hb ho => ?_, fun b _ hn => hn, fun b hb => .inl hb, fun b hb => ?_, fun s hs => ?_, ⟨_, hl1⟩, fun hd => ?_, fun D hD => ?_⟩
    · obtain ⟨k, base, p, _, k1, k2⟩ := kill_own hb
      exact ⟨k, base, p, k1, k2⟩
    · exact C.step.step hk (X1.mono fun _ _ h => h.elim) (fun _ h => h) (fun _ h => h) fun _ h => .inl h
    · obtain ⟨k, base, p, _, k1, k2⟩ := kill_own ho
      exact H1.off b hb ⟨k, base, p, k1, k2⟩
    · exact Nat.lt_of_lt_of_le (H1.own_lt (subown b hb)) X1.size
    · have new : ∀ q, E1.w.heap.size ≤ q → q < w1.heap.size → (O q ∨ (E1.w.heap.size ≤ q ∧ q < w1.heap.size)) ∧ ¬ (E1.sub own []).S.own q ∧ ¬ E1.F q ∧ ¬ E1.F q := fun q h1 h2 =>
        ⟨.inr ⟨h1, h2⟩, fun h => by have := H1.own_lt (subown q h); omega, fun h => by have := hF1 q h; omega, fun h => by have := hF1 q h; omega⟩
      rcases hs with rfl | hs
      · exact new _ hle hl1lt
      · rcases List.mem_append.1 hs with hs | hs
        · obtain ⟨g1, g2, g3⟩ := hDs s hs
          exact new _ g1 (Array.getElem?_eq_some_iff.1 g3).1
        · obtain ⟨g1, g2, g3⟩ := hdam s hs
          refine ⟨.inl g1, fun h => ?_, g2, g2⟩
          rcases H1.own_cells (subown s h) with ⟨c, e, f, hc⟩ | ⟨es, q, hc⟩ <;> (rw [g3] at hc; cases hc)
    · rcases List.mem_append.1 hd with h | h
      · exact (hDs l h).2.1 rfl
      · obtain ⟨g1, g2, g3⟩ := hdam l h
        have := (Array.getElem?_eq_some_iff.1 g3).1
        have this : l < E1.w.heap.size := this
        omega
    · rcases List.mem_append.1 hD with h | h
      · exact (hDs D h).2.2
      · obtain ⟨g1, g2, g3⟩ := hdam D h
        exact (hw D (Array.getElem?_eq_some_iff.1 g3).1).trans g3
  have KS := Inv.kstep (E1 := ⟨w1, E1.F, E1.S.kill own⟩) (l := l) (Ds := Ds ++ Da) (I := I) (xs := xs) (Q := Q) (st1 := st1) (rec := rec) C.step
  have YS : Yields P (Inv K ⟨w1, E1.F, E1.S.kill own⟩ l (Ds ++ Da) rec I xs Q st1) :=
    Inv.yields C hrec @iha @ihb hT L1.S.N L1.S.NG hps hgh hlen1 hxl hround
  have hTab : TabW P E1.F w1 := (C.tab _ _ _ _ L1.k).mono (fun _ h => h) fun b _ hb => hw b (hF1 b hb)
  obtain ⟨m1, m2⟩ := mapO_get hvc
  have call := hiter l _ KS YS (fun g Oi Fi w ⟨_, E', _, he, M, _⟩ => by
    subst he
    exact hTab.mono M.Fi1 fun b _ hb => M.W1 b hb) ⟨w1, E1.F, (E1.sub own []).S⟩ vs HS1 (by omega)
    (fun i c v hc hv => by
      have hi : i < cap.length := by rw [m1]; exact (List.getElem?_eq_some_iff.1 hc).1
      have h1 := view0_rel (bor := []) H1 hlt (hcr i _ v (List.getElem?_eq_getElem hi) hv) (m2 i _ c (List.getElem?_eq_getElem hi) hc)
      rw [hsub] at h1
      exact Rel.world (E := ⟨E1.w, E1.F, (E1.sub own []).S⟩) (fun b hb => hw b (hF1 b hb)) X1.cap h1)
    ⟨_, ⟨w1, E1.F, E1.S.kill own⟩, _, rfl, M0, by rw [← M0.H.len]; exact Nat.le_refl _, rfl, 0, Nat.zero_le _, rfl, hI0, hl1⟩
  have kext : ShpExt E1.S (E1.S.kill own) := kill_ext hrl1
  have krl : (E1.S.kill own).ρ.length = (E1.S.kill own).sh.length := by simp [Shp.kill]; exact hrl1
  -- the state behind the loop
  have fin : ∀ {Oi Fi Oc : Nat → Prop} {E' : Env} {hp : AHeap} (M : Mid K ⟨w1, E1.F, E1.S.kill own⟩ l (Ds ++ Da) Oi Fi Oc E' hp) {rr : Loop}, E'.w.heap[l]? = some (.loop rr) → ∀ (o : Obj),
      ∀ {E2 : Env} {hp2 : AHeap}, E2.w = E'.w → HRel E2 hp2 → ShpExt E1.S E2.S → (∀ b, E'.F b → E2.F b) → (∀ b, E2.F b → E'.F b ∨ Fi b) → (∀ b, E2.S.own b → Oc b ∧ b ≠ l) →
      Lf r S0 K N z Oc { E2 with w := E2.w.putObj l o } ⟨st1.tm, hp2, hp2.length, st1.n0⟩ { a with defers := Ds.map mark ++ a.defers } := by
    intro Oi Fi Oc E' hp M rr hl o E2 hp2 hw2 H2 XS f1 f2 hO2
    have X := wx_put hl (by simp) o
    rw [← hw2] at X
    obtain ⟨s1, _, s3, s4⟩ := M.sp l (.inl rfl)
    have s5 : ¬ E2.F l := fun h => (f2 l h).elim s4 s3
    refine ⟨L1.X.trans hrl1 XS, fun b hb => (hO2 b hb).1, ?_, ⟨Ds ++ Da, ?_, ?_, fun hr => by rw [hDr hr, hdar hr]; rfl, fun D hD => ?_⟩, ⟨fun t => ?_, ?_, rfl, L1.S.NG, L1.S.N, L1.S.z⟩⟩
    · show K (ghostOf st1.tm) Oc E2.F (E2.w.putObj l o)
      rw [hgh]
      have k2 : K none Oc E2.F E2.w := by
        have := C.step.step (O' := Oc) (F' := E2.F) M.k (WX.refl _ _) (fun _ h => .inl h) f1 fun b h => (f2 b h).elim .inl fun h => (M.f1 b h).elim .inl fun h => .inr (.inl h)
        rw [hw2]; exact this
      exact C.step.step k2 (X.mono fun q _ h => by
        have h : q = l := h
        subst h; exact ⟨s1, s5⟩) (fun _ h => .inl h) (fun _ h => h) fun _ h => .inl h
    · show Ds.map mark ++ a.defers = _
      rw [hda, List.map_append]
    · rw [List.nodup_append]
      refine ⟨hDn, hdan, fun x hx y hy he => ?_⟩
      have h1 := (hDs x hx).1
      have h2 : y < E1.w.heap.size := (Array.getElem?_eq_some_iff.1 (hdam y hy).2.2).1
      omega
    · obtain ⟨g1, _, g3, g4⟩ := M.sp D (.inr hD)
      refine ⟨g1, fun h => (f2 D h).elim g4 g3, ?_⟩
      rw [← M.ds D hD, ← hw2]
      exact World.putObj_heap_other fun he => M.dl (he ▸ hD)
    · have T1 : E2.R (look st1.tm t) (a.tmps.getD t undef) :=
        Rel.mono (w := E1.w) (F := E1.F) (w' := E2.w) (F' := E2.F) (fun b hb => f1 b (M.F1 b hb)) (fun b o hb => cell_of_heap (by rw [hw2]; exact (M.W1 b hb).trans (hw b (hF1 b hb))) _ _) (L1.S.T t) _
          XS.rho (fun k p q hq hp => XS.sh k p (by rw [← hrl1]; exact (List.getElem?_eq_some_iff.1 hq).1) hp)
          fun b c e f h => by
            obtain ⟨c', e', f', h1, h2⟩ := X1.cap b c e f h
            obtain ⟨c'', e'', f'', h3, h4⟩ := M.cap b c' e' f' h1
            exact ⟨c'', e'', f'', by rw [hw2]; exact h3, h4.1.trans h2.1, h4.2.trans h2.2⟩
      exact Rel.world (E := E2) (fun b hb => X.same b (H2.frz b hb) fun he => s5 (by have he : b = l := he; exact he ▸ hb)) X.cap T1
    · exact H2.world X.size (fun b hb => X.same b (H2.own_lt hb) fun he => (hO2 b hb).2 he) (fun b hb => X.same b (H2.frz b hb) fun he => s5 (by have he : b = l := he; exact he ▸ hb)) X.cap
  refine callsIn_Fr (call.mono ?_)
  rintro e w' ⟨⟨v, rfl⟩, hend⟩
  rcases hend with ⟨Of, Ei, hwi, ⟨Oc, E', hp, hwe, M, hle2, _, k, hk1, hk2, hI, hl⟩, Hi, Xi, hOi⟩ | ⟨Of, Ff, _, Oc, E', hp, rfl, M, _, _, c, ex, hl, hj, hQ⟩
  · have hkx : k = xs.length := by
      have := congrArg List.length hk2
      simp at this; omega
    subst hkx
    subst hwe
    obtain ⟨hcl, hq⟩ := hdone hp hI
    have hhl : st1.hp.length ≤ hp.length := by rw [← H1.len]; exact hle2
    have hok' : okKeep 0 hp.length own = true := okKeep_more hok hhl
    have hrho : ∀ (i k : Nat), own[i]? = some k → Ei.S.ρ[i]? = E'.S.ρ[k]? := fun i k hi => by
      have hk := hlt k (List.mem_of_getElem? hi)
      have e1 := (sub_get (bor := []) H1 hlt hi).1
      have hkr : k < E1.S.ρ.length := by rw [H1.len]; exact hk
      rw [List.getElem?_eq_getElem hkr] at e1
      rw [Xi.rho i _ e1, M.X1.rho k (E1.S.ρ[k]) (List.getElem?_eq_getElem hkr)]
    have d3 : ∀ b, Ei.S.own b → ¬ E'.F b := fun b hb => M.d3 b (hOi b hb) (fun h => Hi.off b h hb)
    have H2 := M.H.merge (Ei := Ei) Hi hwi hok' hlen' hrho hcl (fun b hb => M.d1 b (hOi b hb)) M.d2 d3
    refine ⟨none, _, by have := run_endLoop (P := P) hl (by rw [hrec]; simp); rw [hrec] at this; exact this, Oc, _, _, rfl, fin M hl _ (E2 := ⟨E'.w, fun b => E'.F b ∨ Ei.F b, E'.S.merge Ei.S own⟩) rfl H2 ?_ (fun _ h => .inl h) (fun _ h => h) ?_, ?_⟩
    · refine ⟨fun k p hp => M.X1.rho k p hp, fun k p hk hp => ?_, hrl1⟩
      rcases merge_sh hp with ⟨i, hx, hs⟩ | ⟨hno, hs⟩
      · have hik := idx_get hx
        have := Xi.sh i p (by
          have : i < own.length := (List.getElem?_eq_some_iff.1 hik).1
          simpa [Env.sub] using this) hs
        rwa [(sub_get (bor := []) H1 hlt hik).2] at this
      · exact (kill_sh (M.X1.sh k p (by simpa [Shp.kill] using hk) hs)).2
    · rintro b ⟨k, base, p, h1, h2⟩
      rcases merge_sh h2 with ⟨i, hx, hs⟩ | ⟨hno, hs⟩
      · have hik := idx_get hx
        have hb : Ei.S.own b := ⟨i, base, p, by rw [hrho i k hik]; exact h1, hs⟩
        exact ⟨M.oi b (hOi b hb), fun he => (M.sp l (.inl rfl)).2.1 (he ▸ hOi b hb)⟩
      · have hb : E'.S.own b := ⟨k, base, p, h1, hs⟩
        exact ⟨M.own b hb, fun he => (M.spl (.inl rfl)).2 (he ▸ hb)⟩
    · have hlh : (setAll hp own (hi'.map (·.map (renB (nth own) fun _ => none)))).length = hp.length := (setAll_get own hp _ (okKeep_lt hok') (okKeep_inj hok') (by simp [hlen'])).1
      rw [hlh]; exact hq
  · refine ⟨some c, _, by have := run_endLoop (P := P) hl (by rw [hrec]; simp); rw [hrec] at this; exact this, ?_⟩
    have L' := fun o => fin M hl o (E2 := E') rfl M.H (kext.trans krl M.X1) (fun _ h => h) (fun _ h => .inl h) fun b hb => ⟨M.own b hb, fun he => (M.spl (.inl rfl)).2 (he ▸ hb)⟩
    cases ex with
    | normal => cases hj
    | exit id =>
      obtain rfl := Option.some.inj hj
      exact wpIn_exit ⟨Oc, _, _, rfl, L' _, hQ⟩
    | ret =>
      obtain rfl := Option.some.inj hj
      exact wpIn_ret ⟨Oc, _, _, rfl, L' _, hQ⟩

theorem rangef_sound {n : Nat} {S0 : Shp} {N z : Nat} (C : Ctx P r K) (hz : S0.ρ.length = z) {g : Operand} {g' : Opd} (hg : cOpd g = some g') {ps : Array Tmp} (hps : ∀ p ∈ ps.toList, p < N) {assign body : Code} {aa ab : ACode}
    (iha : ∀ {r : Option Nat} {K : KP} {S0 : Shp} {z n : Nat}, Ctx P r K → S0.ρ.length = z → ∀ {Q : AExit → St → Prop} {O : Nat → Prop} {E : Env} {st : St} {a : Act}, Lf r S0 K N z O E st a → wpA P aa Q st → assign.wpIn (Fr r) n P (lift r S0 K N z Q) a E.w)
    (ihb : ∀ {r : Option Nat} {K : KP} {S0 : Shp} {z n : Nat}, Ctx P r K → S0.ρ.length = z → ∀ {Q : AExit → St → Prop} {O : Nat → Prop} {E : Env} {st : St} {a : Act}, Lf r S0 K N z O E st a → wpA P ab Q st → body.wpIn (Fr r) n P (lift r S0 K N z Q) a E.w)
    {O : Nat → Prop} {E : Env} {st : St} {a : Act} (L : Lf r S0 K N z O E st a) (h : LoopR P g' ps.toList (fun Q => wpA P aa fun e st' => match e with | .normal => wpA P ab Q st' | _ => False) Q st) :
    (Code.rangeFunc g ps assign body).wpIn (Fr r) n P (lift r S0 K N z Q) a E.w := by
  obtain ⟨live, keep, fz, hok, hgh, hm⟩ := h
  have L1 := L.norm C.step hz (live := live) hok
  have H1 := L1.S.H
  split at hm <;> try (exact hm.elim)
  rename_i f cap hf
  rcases hm with hm | hm
  rotate_left
  · exact rangefL_sound (E1 := E.gc st.n0 keep fz st.hp) C hz hg hps @iha @ihb L1 hgh hf hm
  obtain ⟨hcl, xs, ⟨hent, hiter⟩, hxl, I, hI0, hround, hdone⟩ := hm
  have hR := cOpd_rel L1.S.T hg
  rw [hf] at hR
  obtain ⟨vs, hge, hcs, hcr⟩ : ∃ vs : Array Value, a.eval g = .func (.func f) #[] vs ∧ cap.length = vs.size ∧ ∀ (i : Nat) c v, cap[i]? = some c → vs[i]? = some v → (E.gc st.n0 keep fz st.hp).R c v := by
    generalize a.eval g = u at hR
    cases hR with
    | fn _ _ _ vs h1 h2 => exact ⟨vs, rfl, h1, h2⟩
  refine wpIn_rangeFunc fun fn _ => ?_
  obtain ⟨l, Ds, w1, dl, hrun, hlr, hle, hDn, hDr, hDs, X1⟩ := enter_loop (r := r) (w := E.w) (fun l hl => C.record l hl L.k) fn a.tmps ps assign body
  obtain ⟨rec, hrec⟩ : ∃ rec : LoopState → Option Code → Loop, rec = fun st pe => { state := st, pending := pe, fn, tmps := a.tmps, params := ps, assign, body, defers := dl } := ⟨_, rfl⟩
  have hl1 : w1.heap[l]? = some (.loop (rec .ready none)) := by rw [hrec]; exact hlr
  have hl1lt : l < w1.heap.size := (Array.getElem?_eq_some_iff.1 hl1).1
  obtain ⟨Da, hda, hdan, hdar, hdam⟩ := L1.m
  refine ⟨l, Ds.map mark, w1, { target := .fn (.func f) vs, args := #[.func (.yield l) #[] #[]] }, w1, f, #[.func (.yield l) #[] #[]] ++ vs, w1, hrun, ?_, fun _ _ => trivial, ?_, fun h => by simp [Fr, Fence.wide] at h, ?_⟩
  · simp only [resolve, hge]
    simp [go_sem]
  · simp [invoke, go_sem, run_callFunc hent]
  have hw : ∀ b, b < E.w.heap.size → w1.heap[b]? = E.w.heap[b]? := fun b hb => X1.same b hb id
  have hF1 : ∀ b, (E.gc st.n0 keep fz st.hp).F b → b < E.w.heap.size := fun b hb => H1.frz b hb
  have hT : ∀ {Oi Fi Oc : Nat → Prop} {E' : Env} {hp : AHeap}, Mid K { E.gc st.n0 keep fz st.hp with w := w1 } l (Ds ++ Da) Oi Fi Oc E' hp → TRel E' (st.norm live keep fz).tm a :=
    fun M => trel_mid L1 (E1' := { E.gc st.n0 keep fz st.hp with w := w1 }) rfl rfl (fun b hb => hw b (hF1 b hb)) X1.cap M
  have hlen1 : (E.gc st.n0 keep fz st.hp).S.ρ.length = (st.norm live keep fz).hn := by rw [H1.len, L1.S.hn]
  have M0 : Mid K { E.gc st.n0 keep fz st.hp with w := w1 } l (Ds ++ Da) (fun _ => False) (E.gc st.n0 keep fz st.hp).F (fun b => O b ∨ (E.w.heap.size ≤ b ∧ b < w1.heap.size)) { E.gc st.n0 keep fz st.hp with w := w1 } (st.norm live keep fz).hp := by
    have hk := L1.k
    rw [hgh] at hk
    refine ⟨fun b hb => .inl (L1.own b hb), fun b hb => hb.elim, ?_, H1.world X1.size (fun b hb => hw b (H1.own_lt hb)) (fun b hb => hw b (hF1 b hb)) X1.cap, ⟨fun _ _ h => h, fun _ _ _ h => h, H1.rlen⟩, fun _ h => h, fun _ h => h, fun _ _ => rfl, fun b c e f h => ⟨c, e, f, h, rfl, rfl⟩,
      fun b hb => hb.elim, fun b hb => H1.off b hb, fun b hb => hb.elim, fun b hb => .inl hb, fun b hb => hb.elim, fun s hs => ?_, ⟨_, hl1⟩, fun hd => ?_, fun D hD => ?_⟩
    · exact C.step.step hk (X1.mono fun _ _ h => h.elim) (fun _ h => h) (fun _ h => h) fun _ h => .inl h
    · have new : ∀ q, E.w.heap.size ≤ q → q < w1.heap.size → (O q ∨ (E.w.heap.size ≤ q ∧ q < w1.heap.size)) ∧ ¬ False ∧ ¬ (E.gc st.n0 keep fz st.hp).F q ∧ ¬ (E.gc st.n0 keep fz st.hp).F q := fun q h1 h2 =>
        ⟨.inr ⟨h1, h2⟩, id, fun h => by have := hF1 q h; omega, fun h => by have := hF1 q h; omega⟩
      rcases hs with rfl | hs
      · exact new _ hle hl1lt
      · rcases List.mem_append.1 hs with hs | hs
        · obtain ⟨g1, g2, g3⟩ := hDs s hs
          exact new _ g1 (Array.getElem?_eq_some_iff.1 g3).1
        · obtain ⟨g1, g2, g3⟩ := hdam s hs
          exact ⟨.inl g1, id, g2, g2⟩
    · rcases List.mem_append.1 hd with h | h
      · exact (hDs l h).2.1 rfl
      · obtain ⟨g1, g2, g3⟩ := hdam l h
        have := (Array.getElem?_eq_some_iff.1 g3).1
        have this : l < E.w.heap.size := this
        omega
    · rcases List.mem_append.1 hD with h | h
      · exact (hDs D h).2.2
      · obtain ⟨g1, g2, g3⟩ := hdam D h
        exact (hw D (Array.getElem?_eq_some_iff.1 g3).1).trans g3
  have KS := Inv.kstep (E1 := { E.gc st.n0 keep fz st.hp with w := w1 }) (l := l) (Ds := Ds ++ Da) (I := I) (xs := xs) (Q := Q) (st1 := st.norm live keep fz) (rec := rec) C.step
  have YS : Yields P (Inv K { E.gc st.n0 keep fz st.hp with w := w1 } l (Ds ++ Da) rec I xs Q (st.norm live keep fz)) :=
    Inv.yields C hrec @iha @ihb hT L1.S.N L1.S.NG hps hgh hlen1 hxl hround
  have hTab : TabW P (E.gc st.n0 keep fz st.hp).F w1 := (C.tab _ _ _ _ L1.k).mono (fun _ h => h) fun b _ hb => hw b (hF1 b hb)
  have call := hiter l _ KS YS (fun g Oi Fi w ⟨_, E', _, he, M, _⟩ => by
    subst he
    exact hTab.mono M.Fi1 fun b _ hb => M.W1 b hb) (E.gc st.n0 keep fz st.hp).F w1 vs (fun b hb => Nat.lt_of_lt_of_le (hF1 b hb) X1.size) hcs
    (fun i c v hc hv => Rel.world (E := E.gc st.n0 keep fz st.hp) (fun b hb => hw b (hF1 b hb)) X1.cap (closedU_nil (List.all_eq_true.1 hcl c (List.mem_of_getElem? hc)) (hcr i c v hc hv)))
    ⟨_, _, _, rfl, M0, by rw [← M0.H.len]; exact Nat.le_refl _, rfl, 0, Nat.zero_le _, rfl, hI0, hl1⟩
  -- the state behind the loop
  have fin : ∀ {Oi Fi Oc : Nat → Prop} {E' : Env} {hp : AHeap} (M : Mid K { E.gc st.n0 keep fz st.hp with w := w1 } l (Ds ++ Da) Oi Fi Oc E' hp) {rr : Loop}, E'.w.heap[l]? = some (.loop rr) → ∀ (o : Obj),
      Lf r S0 K N z Oc { E' with w := E'.w.putObj l o } ⟨(st.norm live keep fz).tm, hp, hp.length, (st.norm live keep fz).n0⟩ { a with defers := Ds.map mark ++ a.defers } := by
    intro Oi Fi Oc E' hp M rr hl o
    have X := wx_put hl (by simp) o
    obtain ⟨s1, _, _, s4⟩ := M.sp l (.inl rfl)
    have hlno := (M.spl (s := l) (.inl rfl)).2
    refine ⟨L1.X.trans H1.rlen M.X1, M.own, ?_, ⟨Ds ++ Da, ?_, ?_, fun hr => by rw [hDr hr, hdar hr]; rfl, fun D hD => ?_⟩, ⟨fun t => ?_, ?_, rfl, L1.S.NG, L1.S.N, L1.S.z⟩⟩
    · show K (ghostOf (st.norm live keep fz).tm) Oc E'.F (E'.w.putObj l o)
      rw [hgh]
      exact C.step.step M.k (X.mono fun q _ h => by
        have h : q = l := h
        subst h; exact ⟨s1, s4⟩) (fun _ h => .inl h) (fun _ h => h) fun _ h => .inl h
    · show Ds.map mark ++ a.defers = _
      rw [hda, List.map_append]
    · rw [List.nodup_append]
      refine ⟨hDn, hdan, fun x hx y hy he => ?_⟩
      have h1 := (hDs x hx).1
      have h2 : y < E.w.heap.size := (Array.getElem?_eq_some_iff.1 (hdam y hy).2.2).1
      omega
    · obtain ⟨g1, _, _, g4⟩ := M.sp D (.inr hD)
      refine ⟨g1, g4, ?_⟩
      rw [← M.ds D hD]
      exact World.putObj_heap_other fun he => M.dl (he ▸ hD)
    · exact Rel.world (fun b hb => X.same b (M.H.frz b hb) fun he => s4 (by have he : b = l := he; exact he ▸ hb)) X.cap (hT M t)
    · exact M.H.world X.size (fun b hb => X.same b (M.H.own_lt hb) fun he => hlno (by have he : b = l := he; exact he ▸ hb)) (fun b hb => X.same b (M.H.frz b hb) fun he => s4 (by have he : b = l := he; exact he ▸ hb)) X.cap
  refine callsIn_Fr (call.mono ?_)
  rintro e w' ⟨⟨v, rfl⟩, Of, Ff, hend⟩
  rcases hend with ⟨Oc, E', hp, rfl, M, _, _, k, hk1, hk2, hI, hl⟩ | ⟨rr, Oc, E', hp, rfl, M, _, _, c, ex, hl, hj, hQ⟩
  · have hkx : k = xs.length := by
      have := congrArg List.length hk2
      simp at this; omega
    subst hkx
    exact ⟨none, _, by have := run_endLoop (P := P) hl (by rw [hrec]; simp); rw [hrec] at this; exact this, Oc, _, _, rfl, fin M hl _, hdone hp hI⟩
  · refine ⟨some c, _, by have := run_endLoop (P := P) hl (by rw [hrec]; simp); rw [hrec] at this; exact this, ?_⟩
    cases ex with
    | normal => cases hj
    | exit id =>
      obtain rfl := Option.some.inj hj
      exact wpIn_exit ⟨Oc, _, _, rfl, fin M hl _, hQ⟩
    | ret =>
      obtain rfl := Option.some.inj hj
      exact wpIn_ret ⟨Oc, _, _, rfl, fin M hl _, hQ⟩

end

end Go.AL
