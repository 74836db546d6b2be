/- A range over a function. Seat-independent. -/
import Derived.Test.YtamgmfinkgdkjaaDoorAL23
namespace Go.AL
variable {P : Program}

theorem look_norm {σ : Nat → Option Nat} {φ : Nat → Option ABlk} {tm : List (Nat × AV)} : ∀ (live : List Nat) (t : Nat), look (live.map fun t => (t, ren2 σ φ (look tm t))) t = .undef ∨ look (live.map fun t => (t, ren2 σ φ (look tm t))) t = ren2 σ φ (look tm t)
  | [], _ => .inl rfl
  | l :: ls, t => by
    simp only [List.map_cons, look]
    split
    · rename_i hb
      rw [← Nat.eq_of_beq_eq_true hb]; exact .inr rfl
    · exact look_norm ls t

theorem ghost_ren {σ : Nat → Option Nat} {φ : Nat → Option ABlk} (x : AV) : (match ren2 σ φ x with | .gh l r o => some (l, r, o) | _ => none : Gh) = match x with | .gh l r o => some (l, r, o) | _ => none := by
  cases x <;> try rfl
  · rename_i b j
    simp only [ren2, ren1, ren0]
    cases σ b with
    | some b' => rfl
    | none =>
      cases φ b with
      | none => rfl
      | some k => cases k <;> rfl
  · rename_i b i j
    simp only [ren2, ren1, ren0]
    cases σ b <;> rfl
  · rename_i b i n
    simp only [ren2, ren1, ren0]
    cases σ b with
    | some b' => rfl
    | none =>
      cases φ b with
      | none => rfl
      | some k => cases k <;> rfl

theorem ghost_norm {live keep fz : List Nat} {st : St} : ghostOf (st.norm live keep fz).tm = ghostOf st.tm ∨ ghostOf (st.norm live keep fz).tm = none := by
  unfold ghostOf
  simp only [St.norm]
  rcases look_norm (σ := newNo st.n0 keep) (φ := fzOf (fzAll st.hp fz [])) (tm := st.tm) live G with h | h <;> rw [h]
  · exact .inr rfl
  · exact .inl (ghost_ren _)

theorem WX.refl (own : Nat → Prop) (w : World) : WX own w w := ⟨rfl, rfl, rfl, Nat.le_refl _, fun _ _ _ => rfl, fun _ c e f h => ⟨c, e, f, h, rfl⟩⟩

theorem WX.trans {own own' : Nat → Prop} {a b c : World} (h : WX own a b) (k : WX own' b c) : WX (fun q => own q ∨ own' q) a c :=
  ⟨k.os.trans h.os, k.tape.trans h.tape, k.output.trans h.output, Nat.le_trans h.size k.size, fun q hq hn => (k.same q (Nat.lt_of_lt_of_le hq h.size) fun x => hn (.inr x)).trans (h.same q hq fun x => hn (.inl x)), fun q c e f hc => by
    obtain ⟨c', e', f', h1, h2⟩ := h.cap q c e f hc
    obtain ⟨c'', e'', f'', h3, h4⟩ := k.cap q c' e' f' h1
    exact ⟨c'', e'', f'', h3, h4.trans h2⟩⟩

theorem WX.mono {own own' : Nat → Prop} {a b : World} (h : WX own a b) (k : ∀ q, q < a.heap.size → own q → own' q) : WX own' a b :=
  ⟨h.os, h.tape, h.output, h.size, fun q hq hn => h.same q hq fun x => hn (k q hq x), h.cap⟩

theorem wx_alloc (w : World) (o : Obj) : WX (fun _ => False) w (w.alloc o) :=
  ⟨rfl, rfl, rfl, by simp, fun q hq _ => RowKit.Below.heap_alloc w o q hq, fun q c e f h => ⟨c, e, f, (RowKit.Below.heap_alloc w o q (Array.getElem?_eq_some_iff.1 h).1).trans h, rfl⟩⟩

theorem wx_put {w : World} {l : Nat} {o : Obj} (h : w.heap[l]? = some o) (hc : ∀ c e f, o ≠ Obj.cells c e f) (o' : Obj) : WX (· = l) w (w.putObj l o') :=
  ⟨rfl, rfl, rfl, by simp [World.putObj], fun q _ hn => World.putObj_heap_other hn, fun q c e f hq => by
    by_cases he : q = l
    · subst he; rw [h] at hq; exact absurd (Option.some.inj hq) (hc c e f)
    · exact ⟨c, e, f, (World.putObj_heap_other he).trans hq, rfl⟩⟩

section
variable {r : Option Nat} {n : Nat} {K : KP} {S0 : Shp} {N z : Nat}

theorem Lf.n0 {O : Nat → Prop} {E : Env} {st : St} {a : Act} (L : Lf r S0 K N z O E st a) (hz : S0.ρ.length = z) : st.n0 ≤ st.hp.length := by
  have := L.X.le
  rw [L.S.z, ← L.S.H.len, ← hz]; exact this

theorem Lf.norm {O : Nat → Prop} {E : Env} {st : St} {a : Act} (hK : KStep K) (L : Lf r S0 K N z O E st a) (hz : S0.ρ.length = z) {live keep fz : List Nat} (hok : okKeep st.n0 st.hn (keep ++ fz) = true) :
    Lf r S0 K N z O (E.gc st.n0 keep fz st.hp) (st.norm live keep fz) a := by
  have h0 := L.n0 hz
  have H := L.S.H
  rw [L.S.hn] at hok
  obtain ⟨o1, _, _⟩ := okKeep_parts hok
  have hF : ∀ b, (E.gc st.n0 keep fz st.hp).F b → E.F b ∨ E.S.own b := by
    rintro b (h | ⟨k, base, bk, _, m2, m3⟩)
    · exact .inl h
    · exact .inr (H.own_of m3 m2)
  refine ⟨L.X.gc H (by rw [hz, L.S.z]; exact Nat.le_refl _) h0, fun b hb => L.own b (gc_own H h0 o1 hb), ?_, ?_, ⟨fun t => ?_, H.gc h0 hok, ?_, L.S.NG, L.S.N, L.S.z⟩⟩
  · have : K (ghostOf st.tm) O (E.gc st.n0 keep fz st.hp).F E.w :=
      hK.step L.k (WX.refl _ _) (fun _ h => .inl h) (fun _ h => .inl h) fun b hb => (hF b hb).imp id fun h => .inl (L.own b h)
    rcases ghost_norm (live := live) (keep := keep) (fz := fz) (st := st) with h | h <;> rw [h]
    · exact this
    · exact hK.forget this
  · obtain ⟨Ds, h1, h2, hr, h3⟩ := L.m
    refine ⟨Ds, h1, h2, hr, fun D hD => ?_⟩
    obtain ⟨g1, g2, g3⟩ := h3 D hD
    refine ⟨g1, fun hf => ?_, g3⟩
    rcases hF D hf with h | h
    · exact g2 h
    · obtain ⟨c, e, f, hc⟩ := H.own_cells h
      rw [g3] at hc; cases hc
  · simp only [St.norm]
    rcases look_norm (σ := newNo st.n0 keep) (φ := fzOf (fzAll st.hp fz [])) (tm := st.tm) live t with h | h <;> rw [h]
    · exact .undef ..
    · exact gc_rel H h0 hok (L.S.T t)
  · simp [St.norm, gcH]; omega

theorem setPs_rel {E : Env} : ∀ (ps : List Nat) (xs : List AV) (vs : List Value) (tm : List (Nat × AV)) (ts : Array Value) (ds ds' : List Deferred), xs.length = ps.length → vs.length = ps.length → (∀ p ∈ ps, p < ts.size) →
    (∀ (i : Nat) c v, xs[i]? = some c → vs[i]? = some v → E.R c v) → TRel E tm { tmps := ts, defers := ds } →
    TRel E (setPs ps xs tm) { tmps := (ps.zip vs).foldl (fun t (p, v) => t.setIfInBounds p v) ts, defers := ds' } ∧ ((ps.zip vs).foldl (fun t (p, v) => t.setIfInBounds p v) ts).size = ts.size
  | [], xs, vs, tm, ts, ds, ds', h1, h2, _, _, T => by
    cases xs <;> cases vs <;> simp at h1 h2
    exact ⟨T, rfl⟩
  | p :: ps, [], vs, tm, ts, ds, ds', h1, _, _, _, _ => by simp at h1
  | p :: ps, x :: xs, [], tm, ts, ds, ds', _, h2, _, _, _ => by simp at h2
  | p :: ps, x :: xs, v :: vs, tm, ts, ds, ds', h1, h2, hp, hR, T => by
    simp only [setPs, List.zip_cons_cons, List.foldl_cons]
    have T' : TRel E ((p, x) :: tm) { tmps := ts.setIfInBounds p v, defers := ds } := TRel.put (dst := some p) T (hR 0 x v rfl rfl) (fun d hd => by cases hd; exact hp p (by simp))
    have := setPs_rel ps xs vs ((p, x) :: tm) (ts.setIfInBounds p v) ds ds' (by simpa using h1) (by simpa using h2) (fun q hq => by simpa using hp q (by simp [hq])) (fun i c u hc hu => hR (i + 1) c u (by simpa using hc) (by simpa using hu)) T'
    exact ⟨this.1, by rw [this.2]; simp⟩

theorem setPs_ghost : ∀ (ps : List Nat) (xs : List AV) (tm : List (Nat × AV)), (∀ p ∈ ps, p ≠ G) → ghostOf (setPs ps xs tm) = ghostOf tm
  | [], _, _, _ => by simp [setPs]
  | _ :: _, [], _, _ => by simp [setPs]
  | p :: ps, x :: xs, tm, h => by
    rw [setPs, setPs_ghost ps xs _ (fun q hq => h q (by simp [hq]))]
    unfold ghostOf
    have : look ((p, x) :: tm) G = look tm G := by
      simp only [look]
      split
      · rename_i hb; exact absurd (Nat.eq_of_beq_eq_true hb) (h p (by simp))
      · rfl
    rw [this]

/-- A loop's record and, outside of rounds, the mark. -/
theorem enter_loop {w : World} (hrec : ∀ l, r = some l → ∃ r₀, w.heap[l]? = some (.loop r₀)) (fn : FuncId) (tmps : Array Value) (ps : Array Tmp) (assign body : Code) :
    ∃ (l : Nat) (Ds : List Nat) (w1 : World) (dl : Nat), (Instr.enterLoop fn tmps ps assign body (Fr r).round).run P w = .ok (l, Ds.map mark) w1 ∧
      w1.heap[l]? = some (.loop { state := .ready, pending := none, fn, tmps, params := ps, assign, body, defers := dl }) ∧ w.heap.size ≤ l ∧ Ds.Nodup ∧ (r ≠ none → Ds = []) ∧
      (∀ D ∈ Ds, w.heap.size ≤ D ∧ D ≠ l ∧ w1.heap[D]? = some (.deferred (some []))) ∧ WX (fun _ => False) w w1 := by
  cases r with
  | none =>
    refine ⟨w.heap.size + 1, [w.heap.size], _, w.heap.size, run_enterLoop_outer fn tmps ps assign body, ?_, by omega, by simp, fun h => absurd rfl h, fun D hD => ?_, ?_⟩
    · have := World.alloc_heap_new (w.alloc (.deferred (some []))) (.loop { state := .ready, pending := none, fn, tmps, params := ps, assign, body, defers := w.heap.size })
      rwa [World.size_alloc] at this
    · simp only [List.mem_singleton] at hD
      subst hD
      exact ⟨Nat.le_refl _, by omega, (RowKit.Below.heap_alloc _ _ _ (by simp)).trans (World.alloc_heap_new w _)⟩
    · exact ((wx_alloc w _).trans (wx_alloc _ _)).mono fun _ _ h => h.elim id id
  | some l₀ =>
    obtain ⟨r₀, h⟩ := hrec l₀ rfl
    exact ⟨w.heap.size, [], _, r₀.defers, run_enterLoop_inner h fn tmps ps assign body, World.alloc_heap_new w _, Nat.le_refl _, List.nodup_nil, fun _ => rfl, by simp, wx_alloc w _⟩

/-- What holds in a round. -/
def KB (K : KP) (Es : Env) (Oc : Nat → Prop) : KP := fun g O F w => g = none ∧ (∀ b, O b → Es.S.own b ∨ (Es.w.heap.size ≤ b ∧ b < w.heap.size)) ∧ (∀ b, Es.F b → F b) ∧ (∀ b, F b → Es.F b ∨ Es.S.own b ∨ Es.w.heap.size ≤ b) ∧
  WX Es.S.own Es.w w ∧ K none (fun b => Oc b ∨ O b) F w

theorem KB.kstep (hK : KStep K) {Es : Env} {Oc : Nat → Prop} : KStep (KB K Es Oc) where
  step := by
    rintro g O F w O' F' w' ⟨h1, h2, h3, h4, h5, h6⟩ X ho hf1 hf2
    refine ⟨h1, fun b hb => ?_, fun b hb => hf1 b (h3 b hb), fun b hb => ?_, ?_, ?_⟩
    · rcases ho b hb with h | h
      · exact (h2 b h).imp id fun h => ⟨h.1, Nat.lt_of_lt_of_le h.2 X.size⟩
      · exact .inr ⟨Nat.le_trans h5.size h.1, h.2⟩
    · rcases hf2 b hb with h | h | h
      · exact h4 b h
      · exact .inr ((h2 b h).imp id And.left)
      · exact .inr (.inr (Nat.le_trans h5.size h.1))
    · refine (h5.trans X).mono fun q hq h => ?_
      rcases h with h | h
      · exact h
      · rcases h2 q h.1 with h | h
        · exact h
        · omega
    · refine hK.step h6 (X.mono fun q _ h => ⟨.inr h.1, h.2⟩) (fun b hb => ?_) hf1 fun b hb => ?_
      · rcases hb with h | h
        · exact .inl (.inl h)
        · exact (ho b h).imp .inr id
      · exact (hf2 b hb).imp id fun h => h.imp .inr id
  forget := fun ⟨_, h⟩ => ⟨rfl, h⟩

theorem KB.yields {Es : Env} {Oc : Nat → Prop} : Yields P (KB K Es Oc) := by
  rintro l x rest O F w vs ⟨h, _⟩
  cases h

theorem KB.ctx (C : Ctx P r K) {Es : Env} {Oc : Nat → Prop} {l : Nat} {r₀ : Loop} (hl : Es.w.heap[l]? = some (.loop r₀)) (hno : ¬ Es.S.own l) : Ctx P (some l) (KB K Es Oc) where
  step := KB.kstep C.step
  yield := KB.yields
  record := by
    rintro l' he g O F w ⟨h1, h2, h3, h4, h5, h6⟩
    obtain rfl := Option.some.inj he
    exact ⟨r₀, by rw [h5.same _ (Array.getElem?_eq_some_iff.1 hl).1 hno]; exact hl⟩

/-- Nothing asked. -/
def KT : KP := fun _ _ _ _ => True
theorem KT.kstep : KStep KT := ⟨fun _ _ _ _ _ => trivial, fun _ => trivial⟩

/-- What a function leans on. -/
theorem KB.fn {Es : Env} {Oc : Nat → Prop} : Ctx P none (KB KT Es Oc) := ⟨KB.kstep KT.kstep, KB.yields, fun _ h => by cases h⟩

theorem HRel.moreF {E : Env} {h : AHeap} (H : HRel E h) {F' : Nat → Prop} (h1 : ∀ b, E.F b → F' b) (h2 : ∀ b, F' b → ¬ E.S.own b) (h3 : ∀ b, F' b → b < E.w.heap.size) : HRel { E with F := F' } h := by
  refine ⟨H.sh, H.len, fun k b hk => ?_, H.inj, h3⟩
  obtain ⟨h0, cb, base, c, e, g1, g2, g3, g4, g5⟩ := H.blk k b hk
  refine ⟨h0, cb, base, c, e, g1, g2, fun hf => h2 cb hf (H.own_of hk g1), g4, fun i j x hx => ?_⟩
  obtain ⟨v, hv, hR⟩ := g5 i j x hx
  exact ⟨v, hv, hR.more h1⟩

/-- The first places. -/
def Shp.pre (S : Shp) (m : Nat) : Shp := ⟨S.ρ.take m, S.sh.take m⟩

theorem Shp.pre_ext {S : Shp} (hl : S.ρ.length = S.sh.length) (m : Nat) : ShpExt (S.pre m) S where
  rho k p hp := by
    simp only [Shp.pre, List.getElem?_take] at hp
    split at hp
    · exact hp
    · cases hp
  sh k p hk hp := by
    simp only [Shp.pre, List.length_take] at hk
    simp only [Shp.pre, List.getElem?_take]
    rw [if_pos (by omega)]; exact hp
  rlen := by simp only [Shp.pre, List.length_take, hl]

theorem ShpExt.pre_trans {A B C : Shp} (h : ShpExt A B) (hl : B.ρ.length = B.sh.length) {m : Nat} (hm : A.ρ.length ≤ m) (k : ShpExt (B.pre m) C) : ShpExt A C where
  rho q p hp := by
    have h1 := h.rho q p hp
    refine k.rho q p ?_
    simp only [Shp.pre, List.getElem?_take]
    have := (List.getElem?_eq_some_iff.1 hp).1
    rw [if_pos (by omega)]; exact h1
  sh q p hq hp := by
    have h0 := h.le
    have hr := h.rlen
    have h1 := k.sh q p (by simp only [Shp.pre, List.length_take]; omega) hp
    simp only [Shp.pre, List.getElem?_take] at h1
    split at h1
    · exact h.sh q p hq h1
    · cases h1
  rlen := h.rlen

theorem ShpExt.trans {A B C : Shp} (h : ShpExt A B) (hl : B.ρ.length = B.sh.length) (k : ShpExt B C) : ShpExt A C where
  rho q p hp := k.rho q p (h.rho q p hp)
  sh q p hq hp := by
    have h0 := h.le
    have hr := h.rlen
    exact h.sh q p hq (k.sh q p (by omega) hp)
  rlen := h.rlen
end

end Go.AL
