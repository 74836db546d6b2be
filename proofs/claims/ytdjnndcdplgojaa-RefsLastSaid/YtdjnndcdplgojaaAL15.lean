/- **SOUND**: what the abstract reckoning shows holds of the machine. Seat-independent. -/
import Derived.Test.YtdjnndcdplgojaaAL30
namespace Go.AL
variable {P : Program}

theorem nodupB_spec : ∀ {l : List Nat}, nodupB l = true → l.Nodup
  | [], _ => List.nodup_nil
  | x :: xs, h => by
    simp only [nodupB, Bool.and_eq_true, Bool.not_eq_true'] at h
    rw [List.nodup_cons]
    exact ⟨fun hx => by have := h.1; simp at this; exact this hx, nodupB_spec h.2⟩

theorem mapM_filterMap {α β : Type} {f : α → Option β} : ∀ {l : List α} {r : List β}, l.mapM f = some r → l.filterMap f = r
  | [], r, h => by simp at h; subst h; rfl
  | x :: l, r, h => by
    simp only [List.mapM_cons, Option.bind_eq_bind, Option.bind_eq_some_iff, Option.pure_def, Option.some.injEq] at h
    obtain ⟨y, hy, ys, hys, rfl⟩ := h
    rw [List.filterMap_cons, hy, mapM_filterMap hys]

section
variable {r : Option Nat} {n : Nat} {K : KP} {S0 : Shp} {N z : Nat} {ops : Array Oper}

theorem draw_any (C : Ctx P r K) {fz : Bool} {aops : List AOper} {Q : Exit → Act → World → Prop} {Kn : St → Prop} (hKQ : ∀ O E st a, Lf r S0 K N z O E st a → Kn st → Q .normal a E.w)
    (hlen : aops.length = ops.size) (hops : ∀ (i : Nat) ao, aops[i]? = some ao → ∃ o b c, ops[i]? = some o ∧ (cOper P N ops fz o).map (fun a => { a with po := b, rs := c }) = some ao)
    (hrs : ∀ (j : Nat) b, aops[j]? = some b → ∀ x ∈ b.rs, (aops[x.1]?).map (·.op) = some x.2) {ord : List Nat} (hok : drawOK ops aops ord = true) {l' : List AOper}
    (hl' : ord.mapM (aops[·]?) = some l') {O : Nat → Prop} {E : Env} {st : St} {a : Act} (L : Lf r S0 K N z O E st a) (h : wpD P l' st Kn) : wpAnyIn (Fr r) n P .any ops Q ops.size (Array.replicate ops.size false) a E.w := by
  simp only [drawOK, Bool.and_eq_true, List.all_eq_true, List.mem_range, decide_eq_true_eq] at hok
  obtain ⟨⟨⟨⟨⟨⟨⟨k1, k2⟩, k3⟩, k4⟩, k8⟩, k5⟩, k6⟩, k7⟩ := hok
  have hnd := nodupB_spec k3
  have hperm : ord.length = ops.size := by
    have h1 : ord.Perm (List.range ops.size) := by
      rw [List.perm_ext_iff_of_nodup hnd List.nodup_range]
      intro q
      rw [List.mem_range]
      exact ⟨fun hq => k1 q hq, fun hq => by have := k2 q hq; simpa using this⟩
    simpa using h1.length_eq
  let K' : St → Prop := fun st => ∃ st', StEq st' st ∧ Kn st'
  have hK' : Closed K' := fun a b hab ⟨st', h1, h2⟩ => ⟨st', h1.trans hab, h2⟩
  have hall : ∀ i, i < ops.size → i ∈ ord := fun i hi => by have := k2 i hi; simpa using this
  refine any_sound C (Kn := K') hK' (fun O E st a L ⟨st', h1, h2⟩ => hKQ O E st' a (L.eq h1.symm) h2) hlen hops (fun i => ord.idxOf i) (fun i hi k hk => ⟨k4 i hi k hk, topo_spec k8 hnd (hall i hi) (hall k (k4 i hi k hk)) hk⟩) k6 k7 hrs ops.size ord ord [] (Array.replicate ops.size false) hperm hnd hnd (by simp)
    (fun i hi => ?_) (fun i hi => k1 i hi) (fun i hi => hi) (fun i hi hni => ?_) k5 _ E st a ⟨fun i hi => .inl hi, by simp, by simp, by simp, by simp, List.Pairwise.nil⟩ L ?_
  · have := k2 i hi
    simp [Array.getD, hi]
    simpa using this
  · exact absurd (hall i hi) hni
  · rw [mapM_filterMap hl']
    exact wpD_mono (fun st hst => ⟨st, StEq.refl st, hst⟩) l' st h

/-- What stands in the list behind the reckoning of who reads ahead of whom. -/
theorem withPo_get {l : List AOper} {po : List (Nat × List Nat)} {i : Nat} {ao : AOper} (hao : (withPo l po)[i]? = some ao) : ∃ o', l[i]? = some o' ∧ ao = { o' with po := !(rsIn po i).isEmpty, rs := (rsIn po i).filterMap fun k => (l[k]?).map fun a => (k, a.op) } := by
  simp only [withPo, List.getElem?_map, Option.map_eq_some_iff] at hao
  obtain ⟨⟨i', o'⟩, hz, rfl⟩ := hao
  rw [List.getElem?_zip_eq_some] at hz
  obtain ⟨hz1, hz2⟩ := hz
  have : i' = i := by
    have := List.getElem?_eq_some_iff.1 hz1
    obtain ⟨h1, h2⟩ := this
    simp at h2; exact h2.symm
  subst this
  exact ⟨o', hz2, rfl⟩

theorem withPo_op {l : List AOper} {po : List (Nat × List Nat)} (i : Nat) : ((withPo l po)[i]?).map (·.op) = (l[i]?).map (·.op) := by
  cases ho : (withPo l po)[i]? with
  | some ao => obtain ⟨o', h1, rfl⟩ := withPo_get ho; rw [h1]; rfl
  | none =>
    rw [List.getElem?_eq_none_iff] at ho
    rw [List.getElem?_eq_none (by simpa [withPo] using ho)]

theorem withPo_rs {l : List AOper} {po : List (Nat × List Nat)} (j : Nat) (b : AOper) (hb : (withPo l po)[j]? = some b) : ∀ x ∈ b.rs, ((withPo l po)[x.1]?).map (·.op) = some x.2 := by
  intro x hx
  obtain ⟨o', hz2, rfl⟩ := withPo_get hb
  simp only [List.mem_filterMap, Option.map_eq_some_iff] at hx
  obtain ⟨k, _, a, ha, rfl⟩ := hx
  rw [withPo_op, ha]; rfl

theorem withPo_comp {fz : Bool} {ops' : Array Oper} {l : List AOper} {po : List (Nat × List Nat)} (hl : ∀ (i : Nat) ao, l[i]? = some ao → ∃ o, ops'[i]? = some o ∧ cOper P N ops' fz o = some ao) (i : Nat) (ao : AOper) (hao : (withPo l po)[i]? = some ao) :
    ∃ o b c, ops'[i]? = some o ∧ (cOper P N ops' fz o).map (fun a => { a with po := b, rs := c }) = some ao := by
  obtain ⟨o', hz2, rfl⟩ := withPo_get hao
  obtain ⟨o, ho, hc⟩ := hl i o' hz2
  exact ⟨o, _, _, ho, by rw [hc]; rfl⟩

theorem cDraw_any (C : Ctx P r K) {fz : Bool} {l : List AOper} {ac : ACode} (hc : cDraw ops l = some ac) (hlen : l.length = ops.size) (hl : ∀ (i : Nat) ao, l[i]? = some ao → ∃ o, ops[i]? = some o ∧ cOper P N ops fz o = some ao)
    {Q : Exit → Act → World → Prop} {Kn : AExit → St → Prop} (hKQ : ∀ O E st a, Lf r S0 K N z O E st a → Kn .normal st → Q .normal a E.w) {O : Nat → Prop} {E : Env} {st : St} {a : Act} (L : Lf r S0 K N z O E st a)
    (h : wpA P ac Kn st) : wpAnyIn (Fr r) n P .any ops Q ops.size (Array.replicate ops.size false) a E.w := by
  simp only [cDraw] at hc
  split at hc <;> try (cases hc; done)
  rename_i l' hl'
  split at hc <;> try (cases hc; done)
  rename_i hok
  obtain rfl := Option.some.inj hc
  simp only [wpA] at h
  exact draw_any C (Kn := Kn .normal) hKQ (by simpa [withPo] using hlen) (withPo_comp hl) withPo_rs hok hl' L h

/-- What is asked of an order, out of its check. -/
theorem ordered_of {ops : Array Oper} {l : List AOper} {ord : List Nat} {po : List (Nat × List Nat)} (hok : drawOK ops (withPo l po) ord = true) :
    Ordered ops (withPo l po) (fun i => ord.idxOf i) ∧ ord.Nodup ∧ (∀ q, q ∈ ord ↔ q < ops.size) ∧ pairsOK (befOf ops) (withPo l po) ord = true := by
  simp only [drawOK, Bool.and_eq_true, List.all_eq_true, List.mem_range, decide_eq_true_eq] at hok
  obtain ⟨⟨⟨⟨⟨⟨⟨k1, k2⟩, k3⟩, k4⟩, k8⟩, k5⟩, k6⟩, k7⟩ := hok
  have hnd := nodupB_spec k3
  have hall : ∀ i, i < ops.size → i ∈ ord := fun i hi => by have := k2 i hi; simpa using this
  exact ⟨⟨fun i hi k hk => ⟨k4 i hi k hk, topo_spec k8 hnd (hall i hi) (hall k (k4 i hi k hk)) hk⟩, k6, k7, withPo_rs⟩, hnd, fun q => ⟨fun hq => k1 q hq, hall q⟩, k5⟩

theorem cPair_any (C : Ctx P r K) {fz : Bool} {l : List AOper} {i j : Nat} {ac : ACode} (hc : cPair ops l i j = some ac) (hlen : l.length = ops.size) (hl : ∀ (i : Nat) ao, l[i]? = some ao → ∃ o, ops[i]? = some o ∧ cOper P N ops fz o = some ao)
    {Q : Exit → Act → World → Prop} {Kn : AExit → St → Prop} (hKQ : ∀ O E st a, Lf r S0 K N z O E st a → Kn .normal st → Q .normal a E.w) {O : Nat → Prop} {E : Env} {st : St} {a : Act} (L : Lf r S0 K N z O E st a)
    (h : wpA P ac Kn st) : wpAnyIn (Fr r) n P .any ops Q ops.size (Array.replicate ops.size false) a E.w := by
  simp only [cPair] at hc
  split at hc <;> try (cases hc; done)
  rename_i hqt
  simp only [quietBut, Bool.and_eq_true, bne_iff_ne, ne_eq, decide_eq_true_eq, List.all_eq_true, List.mem_range] at hqt
  obtain ⟨⟨⟨hij, hi⟩, hj⟩, hqt⟩ := hqt
  simp only [Option.bind_eq_bind, Option.bind_eq_some_iff, Option.pure_def, Option.some.injEq] at hc
  obtain ⟨a1, h1, a2, h2, rfl⟩ := hc
  simp only [wpA] at h
  obtain ⟨g1, g2⟩ := h
  simp only [cDraw] at h1 h2
  split at h1 <;> try (cases h1; done)
  rename_i l1 hl1
  split at h1 <;> try (cases h1; done)
  rename_i hok1
  obtain rfl := Option.some.inj h1
  split at h2 <;> try (cases h2; done)
  rename_i l2 hl2
  split at h2 <;> try (cases h2; done)
  rename_i hok2
  obtain rfl := Option.some.inj h2
  simp only [wpA] at g1 g2
  obtain ⟨W1, n1, m1, p1⟩ := ordered_of hok1
  obtain ⟨W2, n2, m2, p2⟩ := ordered_of hok2
  have s1 := (withEdge_same ops i j).size
  have s2 := (withEdge_same ops j i).size
  have ex : ∀ (po : List (Nat × List Nat)) (q : Nat) ao, l[q]? = some ao → ∃ b c, (withPo l po)[q]? = some { ao with po := b, rs := c } := by
    intro po q ao hq
    have hlt := (List.getElem?_eq_some_iff.1 hq).1
    have hlt' : q < (withPo l po).length := by simpa [withPo] using hlt
    obtain ⟨o', h1, h2⟩ := withPo_get (List.getElem?_eq_getElem hlt')
    rw [hq] at h1
    obtain rfl := Option.some.inj h1
    exact ⟨_, _, by rw [List.getElem?_eq_getElem hlt', h2]⟩
  let K' : St → Prop := fun st => ∃ st', StEq st' st ∧ Kn .normal st'
  have hK' : Closed K' := fun a b hab ⟨st', h1, h2⟩ => ⟨st', h1.trans hab, h2⟩
  refine pair_any C (Kn := K') hK' (fun O E st a L ⟨st', h1, h2⟩ => hKQ O E st' a (L.eq h1.symm) h2) hij hlen hl (ex _) (ex _) (by simpa [withPo] using hlen) (by simpa [withPo] using hlen) (fun q ao hq hqi hqj => ?_) W1 W2
    ops.size _ _ (List.range ops.size) _ (by simp) List.nodup_range n1 n2 (by simp) (fun q hq => by simp [Array.getD, hq]) (fun q => by rw [m1, s1, List.mem_range]) (fun q => by rw [m2, s2, List.mem_range]) (fun q hq => List.mem_range.1 hq)
    (List.mem_range.2 (by omega)) (List.mem_range.2 (by omega)) (fun q hq hqM => absurd (List.mem_range.2 hq) hqM) p1 p2 O E st a L ?_ ?_
  · have := hqt q (List.getElem?_eq_some_iff.1 hq).1
    rw [hq] at this
    simp only [Bool.or_eq_true] at this
    rcases this with (h | h) | h
    · exact absurd (Nat.eq_of_beq_eq_true h) hqi
    · exact absurd (Nat.eq_of_beq_eq_true h) hqj
    · exact h
  · rw [mapM_filterMap hl1]
    exact wpD_mono (fun st hst => ⟨st, StEq.refl st, hst⟩) l1 st g1
  · rw [mapM_filterMap hl2]
    exact wpD_mono (fun st hst => ⟨st, StEq.refl st, hst⟩) l2 st g2

theorem cPairs_some {l : List AOper} {ac : ACode} : ∀ {ps : List (Nat × Nat)}, cPairs ops l ps = some ac → ∃ i j, cPair ops l i j = some ac
  | [], h => by cases h
  | (i, j) :: r, h => by
    simp only [cPairs] at h
    split at h
    · rename_i a ha; obtain rfl := Option.some.inj h; exact ⟨i, j, ha⟩
    · exact cPairs_some h

theorem cDraws_any (C : Ctx P r K) {fz : Bool} {l : List AOper} {ac : ACode} (hc : cDraws ops l = some ac) (hlen : l.length = ops.size) (hl : ∀ (i : Nat) ao, l[i]? = some ao → ∃ o, ops[i]? = some o ∧ cOper P N ops fz o = some ao)
    {Q : Exit → Act → World → Prop} {Kn : AExit → St → Prop} (hKQ : ∀ O E st a, Lf r S0 K N z O E st a → Kn .normal st → Q .normal a E.w) {O : Nat → Prop} {E : Env} {st : St} {a : Act} (L : Lf r S0 K N z O E st a)
    (h : wpA P ac Kn st) : wpAnyIn (Fr r) n P .any ops Q ops.size (Array.replicate ops.size false) a E.w := by
  unfold cDraws at hc
  split at hc
  · rename_i a' ha'
    obtain rfl := Option.some.inj hc
    exact cDraw_any C ha' hlen hl hKQ L h
  · split at hc <;> try (cases hc; done)
    obtain ⟨i, j, hp⟩ := cPairs_some hc
    exact cPair_any C hp hlen hl hKQ L h

theorem wpIn_loop_n {n' : Nat} {F : Fence} {c : Code} {Q : Exit → Act → World → Prop} {a : Act} {w : World} (I : Nat → Act → World → Prop) {n0 : Nat} (h₀ : I n0 a w)
    (round : ∀ n a w, I n a w → c.wpIn F n' P (Exit.then (fun a' w' => ∃ m, m < n ∧ I m a' w') Q) a w) : (Code.loop c).wpIn F n' P Q a w := by
  classical
  have hmin : ∀ a w, (∃ n, I n a w) → ∃ n, I n a w ∧ ∀ k, I k a w → n ≤ k := by
    rintro a w ⟨n, hn⟩
    induction n using Nat.strongRecOn with
    | _ n ih =>
      by_cases h : ∃ k, k < n ∧ I k a w
      · obtain ⟨k, hk, hi⟩ := h; exact ih k hk hi
      · exact ⟨n, hn, fun k hk => by
          rcases Nat.lt_or_ge k n with h' | h'
          · exact absurd ⟨k, h', hk⟩ h
          · exact h'⟩
  let μ : Act → World → Nat := fun a w => if h : ∃ n, I n a w then (hmin a w h).choose else 0
  have hμ : ∀ a w (h : ∃ n, I n a w), I (μ a w) a w ∧ ∀ k, I k a w → μ a w ≤ k := fun a w h => by
    simp only [μ, dif_pos h]; exact (hmin a w h).choose_spec
  refine wpIn_loop (fun a w => ∃ n, I n a w) μ ⟨n0, h₀⟩ ?_
  intro a w hI
  refine Go.wpIn_mono (round _ a w (hμ a w hI).1) ?_
  intro e a' w' hq
  cases e with
  | normal =>
    obtain ⟨m, hlt, hI'⟩ := hq
    exact show (∃ n, I n a' w') ∧ μ a' w' < μ a w from ⟨⟨m, hI'⟩, Nat.lt_of_le_of_lt ((hμ a' w' ⟨m, hI'⟩).2 m hI') hlt⟩
  | exit id => exact hq
  | goto l => exact hq
  | ret => exact hq
  | panic ch => exact hq
  | outgrown => exact hq
end

theorem wpIn_scope {F : Fence} {n : Nat} {c : Code} {Q : Exit → Act → World → Prop} {a : Act} {w : World} (h : c.wpIn F n P Q a w) (hQ : ∀ l a w, ¬ Q (.goto l) a w) : (Code.scope c).wpIn F n P Q a w := by
  intro b k cs hro hb hr
  have s1 : step P (lone (b.atR a (.code (.scope c) :: k)) cs w) = .next (lone (b.atR a (.code c :: .inScope c :: k)) cs w) := step_lone_go (by simp [Go.stepG, Go.stepG.exec, Frame.atR])
  have s2 : ∀ {a : Act} {w : World}, step P (lone (b.atR a (.inScope c :: k)) cs w) = .next (lone (b.atR a k) cs w) := step_lone_go (by simp [Go.stepG, Go.stepG.exec, Frame.atR])
  have h0 : (lone (b.atR a (.code (.scope c) :: k)) cs w).fenced P F := fenced_calm hb hr rfl
  obtain ⟨e, a₁, w₁, hq, harr⟩ := h b (.inScope c :: k) cs hro hb hr
  cases e with
  | normal => exact ⟨.normal, a₁, w₁, hq, .head h0 s1 (StepsIn.trans harr (.one (fenced_calm hb hr rfl) s2))⟩
  | exit id =>
    have hx : exitTo id (.inScope c :: k) = exitTo id k := by simp [exitTo]
    exact ⟨.exit id, a₁, w₁, hq, fun k' hk => .head h0 s1 (harr.1 k' (by rw [hx]; exact hk)),
      fun hr' hk => let ⟨k₁, h1, h2⟩ := harr.2 hr' (by rw [hx]; exact hk); ⟨k₁, h1, .head h0 s1 h2⟩⟩
  | goto l => exact (hQ l _ _ hq).elim
  | ret => exact ⟨_, a₁, w₁, hq, .of_steps (.one h0 s1) harr⟩
  | panic ch => exact ⟨_, a₁, w₁, hq, .of_steps (.one h0 s1) harr⟩
  | outgrown => exact ⟨_, a₁, w₁, hq, .of_steps (.one h0 s1) harr⟩

theorem badC_false {Q : AExit → St → Prop} {st : St} (h : wpA P badC Q st) : False := by
  simp [badC, wpA, ev] at h

theorem comp_list {fz : Bool} {N : Nat} {ops : Array Oper} {l : List AOper} (hl : ops.toList.mapM (cOper P N ops fz) = some l) : l.length = ops.size ∧ ∀ (i : Nat) ao, l[i]? = some ao → ∃ o, ops[i]? = some o ∧ cOper P N ops fz o = some ao := by
  obtain ⟨h1, h2⟩ := mapM_get hl
  refine ⟨by simpa using h1, fun i ao hao => ?_⟩
  have hlt : i < ops.size := by have := (List.getElem?_eq_some_iff.1 hao).1; simp at h1; omega
  have hg : ops.toList[i]? = some ops[i] := by simp [hlt]
  exact ⟨ops[i], by simp [hlt], h2 i _ _ hg hao⟩

theorem reg_sound {r : Option Nat} {n : Nat} {K : KP} {S0 : Shp} {N z : Nat} {ops : Array Oper} (C : Ctx P r K) (hm : P.follows .mixedOrders = true) {id : Nat} {draw fz : Bool} {ac : ACode} (hc : cReg P N ops draw fz = some ac)
    {Q : AExit → St → Prop} {O : Nat → Prop} {E : Env} {st : St} {a : Act} (L : Lf r S0 K N z O E st a) (h : wpA P ac Q st) : (Code.region id ops draw).wpIn (Fr r) n P (lift r S0 K N z Q) a E.w := by
  simp only [cReg, Option.bind_eq_bind, Option.bind_eq_some_iff] at hc
  obtain ⟨l, hl, hc⟩ := hc
  cases draw with
  | true =>
    refine wpIn_region_any hm ?_
    have Ld : Lf r S0 K N z _ E.drew st a := L.ext C.step L.S.H.ext_drew ⟨L.S.T.ext L.S.H.ext_drew L.S.H.frz, L.S.H.drew, L.S.hn, L.S.NG, L.S.N, L.S.z⟩ rfl rfl
    have hKQ : ∀ O E st a, Lf r S0 K N z O E st a → Q .normal st → lift r S0 K N z Q .normal a E.w := fun O E st a L hk => ⟨O, E, st, rfl, L, hk⟩
    simp only [if_true] at hc
    split at hc
    · rename_i a' ha'
      obtain rfl := Option.some.inj hc
      exact cDraw_any C ha' (comp_list hl).1 (comp_list hl).2 hKQ Ld h
    · simp only [Option.bind_eq_some_iff] at hc
      obtain ⟨l2, hl2, hc⟩ := hc
      exact cDraws_any C hc (comp_list hl2).1 (comp_list hl2).2 hKQ Ld h
  | false =>
    simp only [Bool.false_eq_true, if_false, Option.some.injEq] at hc
    subst hc
    simp only [wpA] at h
    obtain ⟨h1, h2⟩ := comp_list hl
    refine wpIn_region (wpOps_sound C (next := Q .normal) (fun O E st a L hk => ⟨O, E, st, rfl, L, hk⟩) (List.range ops.size) l (by simp [h1]) (fun q i ao hq hao => ?_) O E st a L h)
    have hlt : q < ops.size := by have := (List.getElem?_eq_some_iff.1 hq).1; simpa using this
    rw [List.getElem?_range hlt] at hq
    obtain rfl := Option.some.inj hq
    obtain ⟨o, ho, hco⟩ := h2 q ao hao
    exact ⟨o, _, ho, hco⟩

theorem wpA_sound (hm : P.follows .mixedOrders = true) {N : Nat} {pts : List Nat} : ∀ {c : Code} {ac : ACode}, cCode P N pts c = some ac → ∀ {r : Option Nat} {K : KP} {S0 : Shp} {z n : Nat}, Ctx P r K → S0.ρ.length = z → ∀ {Q : AExit → St → Prop} {O : Nat → Prop} {E : Env} {st : St} {a : Act}, Lf r S0 K N z O E st a →
    wpA P ac Q st → c.wpIn (Fr r) n P (lift r S0 K N z Q) a E.w := by
  intro c
  induction c with
  | skip =>
    intro ac hc r K S0 z n C hz Q O E st a L h
    simp only [cCode, Option.some.injEq] at hc; subst hc
    exact wpIn_skip ⟨O, E, st, rfl, L, h⟩
  | region id ops draw =>
    intro ac hc r K S0 z n C hz Q O E st a L h
    simp only [cCode, Option.some.injEq] at hc
    obtain ⟨st, E, L, h⟩ : ∃ st' E', Lf r S0 K N z O E' st' a ∧ E'.w = E.w ∧ wpA P (orBad (cReg P N ops draw (pts.any (Nat.beq (id + 1000000))))) Q st' := by
      unfold atPt at hc
      split at hc
      · subst hc
        simp only [wpA] at h
        unfold PtW at h
        obtain ⟨live, keep, fz, st', hok, hle, h⟩ := h
        exact ⟨_, _, (L.norm C.step hz (live := live) hok).le hle, rfl, h⟩
      · subst hc; exact ⟨st, E, L, rfl, h⟩
    obtain ⟨hw, h⟩ := h
    rw [← hw]
    clear hc hw
    cases hreg : cReg P N ops draw (pts.any (Nat.beq (id + 1000000))) with
    | none => rw [hreg] at h; exact (badC_false h).elim
    | some ac' =>
      rw [hreg] at h
      exact reg_sound C hm hreg L h
  | seq x y ihx ihy =>
    intro ac hc r K S0 z n C hz Q O E st a L h
    simp only [cCode, Option.bind_eq_bind, Option.bind_eq_some_iff, Option.pure_def, Option.some.injEq] at hc
    obtain ⟨ax, hx, ay, hy, rfl⟩ := hc
    simp only [wpA] at h
    refine wpIn_seq (Go.wpIn_mono (ihx hx C hz L h) fun e a' w' hl => ?_)
    cases e with
    | normal =>
      obtain ⟨O', E', st', rfl, L', hq⟩ := hl
      exact ihy hy C hz L' hq
    | exit id => exact hl
    | ret => exact hl
    | _ => exact hl.elim
  | cond x c1 c2 ih1 ih2 =>
    intro ac hc r K S0 z n C hz Q O E st a L h
    simp only [cCode] at hc
    split at hc
    rotate_left
    · obtain rfl := Option.some.inj hc
      exact (badC_false h).elim
    rename_i x' hx
    simp only [Option.bind_eq_bind, Option.bind_eq_some_iff, Option.pure_def, Option.some.injEq] at hc
    obtain ⟨a1, h1, a2, h2, rfl⟩ := hc
    simp only [wpA] at h
    have hR := cOpd_rel L.S.T hx
    split at h <;> try (exact h.elim)
    rename_i t ht
    rw [ht] at hR
    cases t with
    | true => exact wpIn_cond_true (rel_bool hR) (ih1 h1 C hz L h)
    | false => exact wpIn_cond_false (rel_bool hR) (ih2 h2 C hz L h)
  | block id c ih =>
    intro ac hc r K S0 z n C hz Q O E st a L h
    simp only [cCode, Option.bind_eq_bind, Option.bind_eq_some_iff, Option.pure_def, Option.some.injEq] at hc
    obtain ⟨a1, h1, rfl⟩ := hc
    simp only [wpA] at h
    refine wpIn_block (Go.wpIn_mono (ih h1 C hz L h) fun e a' w' hl => ?_)
    cases e with
    | normal => exact hl
    | exit id' =>
      obtain ⟨O', E', st', rfl, L', hq⟩ := hl
      simp only [Exit.inBlock]
      cases hb : Nat.beq id' id with
      | true =>
        simp only [hb] at hq
        rw [if_pos (Nat.eq_of_beq_eq_true hb)]
        exact ⟨O', E', st', rfl, L', hq⟩
      | false =>
        simp only [hb] at hq
        rw [if_neg (fun he => by subst he; simp at hb)]
        exact ⟨O', E', st', rfl, L', hq⟩
    | ret => exact hl
    | _ => exact hl.elim
  | loop c ih =>
    intro ac hc r K S0 z n C hz Q O E st a L h
    simp only [cCode, Option.bind_eq_bind, Option.bind_eq_some_iff, Option.pure_def, Option.some.injEq] at hc
    obtain ⟨a1, h1, rfl⟩ := hc
    simp only [wpA] at h
    obtain ⟨I, ⟨n, live, keep, fz, hok, hI⟩, hround⟩ := h
    have L' := L.norm C.step hz (live := live) hok
    refine wpIn_loop_n (fun n a w => ∃ O E st, E.w = w ∧ Lf r S0 K N z O E st a ∧ I n st) (n0 := n) ⟨O, _, _, rfl, L', hI⟩ ?_
    rintro n a' w' ⟨O', E', st', rfl, L', hI⟩
    refine Go.wpIn_mono (ih h1 C hz L' (hround n st' hI)) fun e a2 w2 hl => ?_
    cases e with
    | normal =>
      obtain ⟨O2, E2, st2, rfl, L2, m, live, keep, fz, hlt, hok, hI2⟩ := hl
      exact ⟨m, hlt, O2, E2.gc st2.n0 keep fz st2.hp, st2.norm live keep fz, rfl, L2.norm C.step hz (live := live) hok, hI2⟩
    | exit id => exact hl
    | ret => exact hl
    | _ => exact hl.elim
  | label l =>
    intro ac hc r K S0 z n C hz Q O E st a L h
    simp only [cCode, Option.some.injEq] at hc; subst hc
    exact wpIn_label ⟨O, E, st, rfl, L, h⟩
  | scope c ih =>
    intro ac hc r K S0 z n C hz Q O E st a L h
    simp only [cCode] at hc
    exact wpIn_scope (ih hc C hz L h) fun l a w h => h.elim
  | exit id =>
    intro ac hc r K S0 z n C hz Q O E st a L h
    simp only [cCode, Option.some.injEq] at hc; subst hc
    exact wpIn_exit ⟨O, E, st, rfl, L, h⟩
  | ret =>
    intro ac hc r K S0 z n C hz Q O E st a L h
    simp only [cCode, Option.some.injEq] at hc; subst hc
    exact wpIn_ret ⟨O, E, st, rfl, L, h⟩
  | rangeFunc g ps assign body iha ihb =>
    intro ac hc r K S0 z n C hz Q O E st a L h
    simp only [cCode] at hc
    split at hc
    rotate_left
    · obtain rfl := Option.some.inj hc
      exact (badC_false h).elim
    rename_i g' hg
    simp only [Option.bind_eq_bind, Option.bind_eq_some_iff] at hc
    obtain ⟨aa, haa, ab, hab, hc⟩ := hc
    split at hc <;> try (cases hc; done)
    rename_i hps
    obtain rfl := Option.some.inj hc
    simp only [wpA] at h
    exact rangef_sound C hz hg (fun p hp => by simpa using List.all_eq_true.1 hps p hp) (fun C hz _ _ _ _ _ L h => iha haa C hz L h) (fun C hz _ _ _ _ _ L h => ihb hab C hz L h) L h
  | _ =>
    intro ac hc r K S0 z n C hz Q O E st a L h
    simp only [cCode, Option.some.injEq] at hc
    subst hc
    exact (badC_false h).elim

/-! ### A function, entered -/

def resV (tm : List (Nat × AV)) (hp : AHeap) : ARes → Option AV
  | .tmp t => some (look tm t)
  | .cell a n one => match one, readAt hp (look tm a) n with
    | false, some (true, l) => some (.agg l)
    | true, some (true, [v]) => some v
    | _, _ => none

def resVs (tm : List (Nat × AV)) (hp : AHeap) : List ARes → Option (List AV)
  | [] => some []
  | r :: rs => match resV tm hp r with
    | some v => match resVs tm hp rs with
      | some vs => some (v :: vs)
      | none => none
    | none => none

def tupV : List AV → AV
  | [v] => v
  | vs => .tup vs

/-- What a function hands back: its results, with what is left of the heap. -/
def finA (res : List ARes) (R : AV → AHeap → Prop) (e : AExit) (st : St) : Prop :=
  match e with
  | .exit _ => False
  | _ => match resVs st.tm st.hp res with
    | some vs => ∃ keep fz, okKeep st.n0 st.hn (keep ++ fz) = true ∧ R (ren2 (newNo st.n0 keep) (fzOf (fzAll st.hp fz [])) (tupV vs)) (gcH st.n0 keep fz st.hp)
    | none => False

def argsTm : Nat → List AV → List (Nat × AV)
  | _, [] => []
  | i, v :: vs => (i, v) :: argsTm (i + 1) vs

/-- A function's body from its arguments. -/
def bodyA (P : Program) (fn : AFn) (args : List AV) (h : AHeap) (R : AV → AHeap → Prop) : Prop :=
  wpA P fn.code (finA fn.res R) ⟨argsTm 0 args, h, h.length, h.length⟩

theorem look_args : ∀ (vs : List AV) (i t : Nat), look (argsTm i vs) t = if i ≤ t then (vs[t - i]?).getD .undef else .undef
  | [], i, t => by simp [argsTm, look]
  | v :: vs, i, t => by
    simp only [argsTm, look]
    split
    · rename_i hb
      obtain rfl := Nat.eq_of_beq_eq_true hb
      simp
    · rename_i hb
      rw [look_args vs (i + 1) t]
      have hne : i ≠ t := fun he => by subst he; simp at hb
      by_cases h1 : i + 1 ≤ t
      · rw [if_pos h1, if_pos (by omega), show t - i = t - (i + 1) + 1 by omega]; simp
      · rw [if_neg h1, if_neg (by omega)]

def resSem (tmps : Array Value) : ResultVar → Sem Value
  | .tmp t => pure (tmps.getD t undef)
  | .cell a t => do loadVar t (← asAddr (tmps.getD a undef))

theorem results_eq (fn : Func) (tmps : Array Value) : results fn tmps = (do
    let vs ← fn.results.mapM (resSem tmps)
    pure (if h : vs.size = 1 then vs[0] else .tuple vs)) := rfl

theorem resVs_sound {E : Env} {tm : List (Nat × AV)} {hp : AHeap} {a : Act} (T : TRel E tm a) (H : HRel E hp) : ∀ {rs : List ResultVar} {ars : List ARes},
    (rs.mapM fun | .tmp t => some (.tmp t) | .cell a t => do
      let s ← sizeB P t
      let g ← isAggB P t
      if g = true ∨ s = 1 then pure (.cell a s (!g)) else none) = some ars → ∀ {vs : List AV}, resVs tm hp ars = some vs →
    ∃ us : List Value, (rs.mapM (resSem a.tmps)).run P E.w = .ok us E.w ∧ Bes E vs us
  | [], ars, hm, vs, hv => by
    simp at hm; subst hm
    simp [resVs] at hv; subst hv
    exact ⟨[], by simp, rfl, by simp⟩
  | r :: rs, ars, hm, vs, hv => by
    rw [List.mapM_cons] at hm
    simp only [Option.bind_eq_bind, Option.bind_eq_some_iff, Option.pure_def, Option.some.injEq] at hm
    obtain ⟨ar, har, ars', hars, rfl⟩ := hm
    simp only [resVs] at hv
    split at hv <;> try (cases hv; done)
    rename_i v hv1
    split at hv <;> try (cases hv; done)
    rename_i vs' hvs
    obtain rfl := Option.some.inj hv
    obtain ⟨us, h1, h2⟩ := resVs_sound T H hars hvs
    have one : ∃ u, (resSem a.tmps r).run P E.w = .ok u E.w ∧ E.R v u := by
      cases r with
      | tmp t =>
        simp only [Option.some.injEq] at har
        subst har
        simp only [resV, Option.some.injEq] at hv1
        subst hv1
        exact ⟨_, rfl, T t⟩
      | cell x t =>
        simp only [Option.bind_eq_some_iff] at har
        obtain ⟨s, hs, g, hg, har⟩ := har
        split at har <;> try (cases har; done)
        rename_i hgs
        obtain rfl := Option.some.inj har
        cases g with
        | true =>
          simp only [resV, Bool.not_true] at hv1
          split at hv1 <;> try (cases hv1; done)
          · rename_i l _ hr
            obtain rfl := Option.some.inj hv1
            obtain ⟨ad, ws, e1, e2, e3, e4, e5⟩ := readAt_sound H (T x) hr
            have := run_loadCells_list (P := P) E.w ad ws e4
            rw [e2] at this
            refine ⟨.agg ws.toArray, ?_, agg_rel ⟨by simp [e3, e2], by simpa using e5⟩⟩
            simp only [resSem, e1, asAddr, Sem.run_bind, Sem.run_pure, Result.andThen_ok, loadVar, run_isAgg' hg, run_sizeOf' hs, this, if_true]
          · rename_i he _; cases he
        | false =>
          have hs1 : s = 1 := by simpa using hgs
          subst hs1
          simp only [resV, Bool.not_false] at hv1
          split at hv1 <;> try (cases hv1; done)
          · rename_i he _; cases he
          · rename_i v' _ hr
            obtain rfl := Option.some.inj hv1
            obtain ⟨ad, ws, e1, e2, e3, e4, e5⟩ := readAt_sound H (T x) hr
            match ws, e2 with
            | [u], _ =>
              refine ⟨u, ?_, e5 0 _ u rfl rfl⟩
              have h0 := e4 0 u rfl
              have hz : ad.add 0 = ad := by simp [Addr.add]
              rw [hz] at h0
              simp [resSem, e1, asAddr, loadVar, run_isAgg' hg, h0]
    obtain ⟨u, g1, g2⟩ := one
    refine ⟨u :: us, ?_, by simp [h2.1], fun q x y hx hy => ?_⟩
    · rw [List.mapM_cons, Sem.run_bind, g1, Result.andThen_ok, Sem.run_bind, h1, Result.andThen_ok, Sem.run_pure]
    · cases q with
      | zero => simp only [List.getElem?_cons_zero, Option.some.injEq] at hx hy; subst hx hy; exact g2
      | succ q => exact h2.2 q x y (by simpa using hx) (by simpa using hy)

/-- On the way out the marks are taken. -/
theorem leaves_marks {F : Fence} {n : Nat} {fn : Func} {tmps : Array Value} {R : Ending → World → Prop} : ∀ (Ds : List Nat) (w : World), Ds.Nodup → (∀ D ∈ Ds, w.heap[D]? = some (.deferred (some []))) →
    (∀ w', WX (· ∈ Ds) w w' → ∃ v, (results fn tmps).run P w' = .ok v w' ∧ R (.returned v) w') → LeavesInM F n P fn tmps R (Ds.map mark) .returning w
  | [], w, _, _, h => h w (WX.refl _ _)
  | D :: Ds, w, hn, hd, h => by
    rw [List.nodup_cons] at hn
    have h0 := hd D (by simp)
    refine ⟨by simp, .inl ⟨D, w.putObj D (.deferred none), rfl, run_takeDeferred h0, leaves_marks Ds _ hn.2 (fun D' hD' => ?_) fun w' X => h w' ?_⟩⟩
    · rw [← hd D' (by simp [hD'])]
      exact World.putObj_heap_other fun he => hn.1 (he ▸ hD')
    · exact ((wx_put h0 (by simp) _).trans X).mono fun q _ h => by
        rcases h with h | h
        · have h : q = D := h
          simp [h]
        · simp [h]

/-- A moment in a later world. -/
theorem Lf.later {r : Option Nat} {K : KP} {S0 : Shp} {N z : Nat} {O : Nat → Prop} {E : Env} {st : St} {a : Act} (L : Lf r S0 K N z O E st a) {Ds : List Nat} (hDs : ∀ D ∈ Ds, O D ∧ ¬ E.F D ∧ E.w.heap[D]? = some (.deferred (some []))) {w' : World} (X : WX (· ∈ Ds) E.w w') :
    TRel { E with w := w' } st.tm a ∧ HRel { E with w := w' } st.hp := by
  have hno : ∀ b, E.S.own b → b ∉ Ds := fun b hb hD => by
    rcases L.S.H.own_cells hb with ⟨c, e, f, hc⟩ | ⟨es, q, hc⟩ <;> (rw [(hDs b hD).2.2] at hc; cases hc)
  have hF : ∀ b, E.F b → w'.heap[b]? = E.w.heap[b]? := fun b hb => X.same b (L.S.H.frz b hb) fun hD => (hDs b hD).2.1 hb
  exact ⟨fun t => Rel.world hF X.cap (L.S.T t), L.S.H.world X.size (fun b hb => X.same b (L.S.H.own_lt hb) (hno b hb)) hF X.cap⟩

theorem args_rel {E : Env} {args : List AV} {cs : Array Value} (hlen : args.length = cs.size) (hargs : ∀ (i : Nat) x v, args[i]? = some x → cs[i]? = some v → E.R x v) (k : Nat) {ds : List Deferred} :
    TRel E (argsTm 0 args) { tmps := cs ++ Array.replicate k undef, defers := ds } := fun t => by
  rw [look_args]
  simp only [Nat.zero_le, if_true, Nat.sub_zero]
  cases ha : args[t]? with
  | none => exact .undef ..
  | some x =>
    have hlt : t < cs.size := by have := (List.getElem?_eq_some_iff.1 ha).1; omega
    have := hargs t x cs[t] ha (Array.getElem?_eq_getElem hlt)
    simpa [Array.getD_eq_getD_getElem?, Array.getElem?_append_left hlt, hlt] using this

theorem cFn_inv {pts : List Nat} {fn : Func} {afn : AFn} (hc : cFn P fn pts = some afn) : ∃ b code res, fn.body = some b ∧ cCode P fn.ntmps pts b = some code ∧ (fn.results.toList.mapM fun
    | .tmp t => some (.tmp t)
    | .cell a t => do
      let s ← sizeB P t
      let g ← isAggB P t
      if g = true ∨ s = 1 then pure (.cell a s (!g)) else none) = some res ∧ fn.ntmps ≤ G ∧ afn = ⟨fn.params.size + fn.nfree, res, code⟩ := by
  unfold cFn at hc
  simp only [Option.bind_eq_bind, Option.bind_eq_some_iff, Option.pure_def] at hc
  obtain ⟨b, hbody, code, hcode, res, hres, hc⟩ := hc
  split at hc <;> try (cases hc; done)
  rename_i hle
  exact ⟨b, code, res, hbody, hcode, hres, Nat.le_of_ble_eq_true hle, (Option.some.inj hc).symm⟩

theorem noG (args : List AV) (h : args.length ≤ G) : ghostOf (argsTm 0 args) = none := by
  unfold ghostOf
  rw [look_args, if_pos (Nat.zero_le _), List.getElem?_eq_none (by omega)]
  rfl

theorem CallsA.enter (hm : P.follows .mixedOrders = true) {f : FuncId} {fn : Func} {pts : List Nat} (hf : P.funcs[f]? = some fn) (hname : fn.name ≠ "runtime.NumGoroutine") {afn : AFn} (hc : cFn P fn pts = some afn) {args : List AV} (hn : Nat.ble args.length fn.ntmps = true) {h : AHeap}
    {R : AV → AHeap → Prop} (hb : bodyA P afn args h R) : CallsA P f args h R := by
  have hn := Nat.le_of_ble_eq_true hn
  obtain ⟨b, code, res, hbody, hcode, hres, hG, rfl⟩ := cFn_inv hc
  refine fun E cs H hT hlen hargs => .inl ⟨⟨fn, hf, by rw [hbody]; rfl, hname⟩, ?_⟩
  have hL : Lf none E.S (KB (KT P) E fun _ => False) fn.ntmps h.length E.S.own E ⟨argsTm 0 args, h, h.length, h.length⟩ { tmps := cs ++ Array.replicate (fn.ntmps - cs.size) undef, defers := [] } := by
    refine ⟨⟨fun _ _ h => h, fun _ _ _ h => h, H.rlen⟩, fun _ h => h, ?_, Mk.nil .., ⟨args_rel hlen hargs _, H, rfl, hG, by simp; omega, rfl⟩⟩
    exact ⟨noG args (by omega), fun b h => .inl h, fun b h => h, fun b h => .inl h, WX.refl _ _, hT⟩
  refine calls_Fr (n := 0) (callsIn_of_wp_marks hf hbody trivial (Go.wpIn_mono (wpA_sound hm hcode KB.fn H.len hL hb) fun e a' w' hl => ?_))
  have key : ∀ {e : AExit} {O : Nat → Prop} {E' : Env} {st : St}, E'.w = w' → Lf none E.S (KB (KT P) E fun _ => False) fn.ntmps h.length O E' st a' → finA res R e st →
      LeavesInM (Fr none) 0 P fn a'.tmps (fun e w' => ∃ v r h' E', e = .returned v ∧ R r h' ∧ E'.w = w' ∧ Ext E E' ∧ HRel E' h' ∧ E'.R r v) a'.defers .returning w' := by
    rintro e O E' st rfl L hfin
    obtain ⟨Ds, hds, hdn, _, hdm⟩ := L.m
    rw [hds]
    refine leaves_marks Ds _ hdn (fun D hD => (hdm D hD).2.2) fun w2 X => ?_
    obtain ⟨T2, H2⟩ := L.later hdm X
    have hfin' : ∃ vs, resVs st.tm st.hp res = some vs ∧ ∃ keep fz, okKeep st.n0 st.hn (keep ++ fz) = true ∧ R (ren2 (newNo st.n0 keep) (fzOf (fzAll st.hp fz [])) (tupV vs)) (gcH st.n0 keep fz st.hp) := by
      unfold finA at hfin
      split at hfin
      · exact hfin.elim
      · split at hfin
        · rename_i vs hvs; exact ⟨vs, hvs, hfin⟩
        · exact hfin.elim
    obtain ⟨vs, hvs, keep, fz, hok, hR⟩ := hfin'
    obtain ⟨us, h1, h2⟩ := resVs_sound (P := P) T2 H2 (rs := fn.results.toList) hres hvs
    have h0 : st.n0 ≤ st.hp.length := L.n0 H.len
    rw [L.S.hn] at hok
    obtain ⟨o1, _, _⟩ := okKeep_parts hok
    have hlen3 : (tupV vs) = (if hh : vs.length = 1 then vs[0] else .tup vs) := by
      unfold tupV
      split
      · simp
      · rename_i hne
        rw [dif_neg]
        intro hh
        match vs, hh with
        | [v], _ => exact hne v rfl
    obtain ⟨_, b2, b3, b4, b5, _⟩ := L.k
    have hDnew : ∀ D ∈ Ds, E.w.heap.size ≤ D := fun D hD => by
      obtain ⟨g1, g2, g3⟩ := hdm D hD
      rcases b2 D g1 with h | h
      · rcases H.own_cells h with ⟨c, e, f, hc⟩ | ⟨es, q, hc⟩
        · obtain ⟨c', e', f', hc', _⟩ := b5.cap D c e f hc
          rw [g3] at hc'; cases hc'
        · obtain ⟨es', q', hc'⟩ := b5.mcap D es q hc
          rw [g3] at hc'; cases hc'
      · exact h.1
    have W : WX E.S.own E.w w2 := (b5.trans X).mono fun q hq h => h.elim id fun h => by have := hDnew q h; omega
    have hgF : ∀ b, (Env.gc { E' with w := w2 } st.n0 keep fz st.hp).F b → E'.F b ∨ E'.S.own b := by
      rintro b (h | ⟨k, base, bk, _, m2, m3⟩)
      · exact .inl h
      · exact .inr (H2.own_of m3 m2)
    have hown' : ∀ b, E'.S.own b → E.S.own b ∨ E.w.heap.size ≤ b := fun b hb => (b2 b (L.own b hb)).imp id And.left
    refine ⟨if hh : us.toArray.size = 1 then us.toArray[0] else .tuple us.toArray, ?_, _, _, _, Env.gc { E' with w := w2 } st.n0 keep fz st.hp, rfl, hR, rfl, ?_, H2.gc h0 hok, ?_⟩
    · rw [results_eq, Sem.run_bind, Array.mapM_eq_mapM_toList, Sem.run_map]
      rw [h1]
      rfl
    · have Xg := L.X.gc L.S.H (n0 := st.n0) (keep := keep) (by rw [H.len, L.S.z]; exact Nat.le_refl _) h0
      refine ⟨W.os, W.tape, W.output, W.size, fun b hb => .inl (b3 b hb), W.same, Xg.rho, Xg.sh, Xg.rlen, fun b hb => hown' b (gc_own L.S.H h0 o1 hb), fun b hb => ?_, W.cap, W.mcap, H.off⟩
      rcases hgF b hb with h | h
      · exact b4 b h
      · exact .inr (hown' b h)
    · refine gc_rel H2 h0 hok ?_
      rw [hlen3]
      by_cases h1' : vs.length = 1
      · rw [dif_pos h1', dif_pos (by simp; rw [← h2.1]; exact h1')]
        refine h2.2 0 _ _ (List.getElem?_eq_getElem (by omega)) ?_
        simp
      · rw [dif_neg h1', dif_neg (by simp; rw [← h2.1]; exact h1')]
        exact .tup _ _ _ (by simp [h2.1]) fun i c v hc hv => h2.2 i c v hc (by simpa using hv)
  cases e with
  | normal => obtain ⟨O, E', st, h1, h2, h3⟩ := hl; exact key h1 h2 h3
  | ret => obtain ⟨O, E', st, h1, h2, h3⟩ := hl; exact key h1 h2 h3
  | exit id => obtain ⟨O, E', st, h1, h2, h3⟩ := hl; exact h3.elim
  | _ => exact hl.elim

/-! ### An iterator, entered -/

/-- An iterator's body: it hands over xs, unless it is stopped. -/
def bodyI (P : Program) (fn : AFn) (cap : List AV) (xs : List (List AV)) : Prop :=
  fn.res.isEmpty = true ∧ ∀ l, wpA P fn.code (fun e st => match e with
    | .exit _ => False
    | _ => match look st.tm G with
      | .gh _ b rest => b = true → rest = []
      | _ => False) ⟨(G, .gh l true xs) :: argsTm 0 (.yld l :: cap), [], 0, 0⟩

/-- What an iterator's walk leans on. -/
def KI (l : Nat) (K : KP) : KP := fun g O F w => match g with
  | some (l', b, rest) => l' = l ∧ K (some (l, b, rest)) O F w
  | none => K none O F w

theorem KI.ctx {l : Nat} {K : KP} (hK : KStep K) (hY : Yields P K) (hT : ∀ g O F w, K g O F w → TabW P F w) : Ctx P none (KI l K) where
  step := {
    step := by
      intro g O F w O' F' w' h X ho hf1 hf2
      match g, h with
      | none, h => exact hK.step h X ho hf1 hf2
      | some (l', b, rest), h => exact ⟨h.1, hK.step h.2 X ho hf1 hf2⟩
    forget := by
      intro g O F w h
      match g, h with
      | none, h => exact h
      | some (l', b, rest), h => exact hK.forget h.2 }
  yield := by
    rintro l' x rest O F w vs ⟨rfl, h⟩ hF hl hR n
    obtain ⟨fn, tmps, assign, body, h1, h2⟩ := hY l' x rest O F w vs h hF hl hR n
    refine ⟨fn, tmps, assign, body, h1, h2.mono ?_⟩
    rintro e w' ⟨b, rfl, h3, h4⟩
    exact ⟨b, rfl, ⟨rfl, h3⟩, h4⟩
  record := fun _ h => by cases h
  tab := by
    intro g O F w h
    match g, h with
    | none, h => exact hT _ _ _ _ h
    | some (l', b, rest), h => exact hT _ _ _ _ h.2

theorem IterA.enter (hm : P.follows .mixedOrders = true) {f : FuncId} {fn : Func} {pts : List Nat} (hf : P.funcs[f]? = some fn) (hname : fn.name ≠ "runtime.NumGoroutine") {afn : AFn} (hc : cFn P fn pts = some afn) {cap : List AV} (hn : Nat.ble (cap.length + 1) fn.ntmps = true)
    {xs : List (List AV)} (hb : bodyI P afn cap xs) : IterA P f cap xs := by
  have hn := Nat.le_of_ble_eq_true hn
  obtain ⟨b, code, res, hbody, hcode, hres, hG, rfl⟩ := cFn_inv hc
  obtain ⟨hre, hb⟩ := hb
  refine ⟨⟨fn, hf, by rw [hbody]; rfl, hname⟩, fun l K hK hY hT F w cs hFw hlen hR hk => ?_⟩
  obtain rfl : res = [] := by simpa using hre
  have hrs : fn.results.toList = [] := by
    have := (mapM_get hres).1
    exact List.eq_nil_of_length_eq_zero this.symm
  have H : HRel ⟨w, F, .nil⟩ [] := ⟨rfl, rfl, fun k b hb => by simp at hb, fun k k' b b' cb ba ba' h1 => by simp at h1, hFw⟩
  have hno : ∀ b, ¬ (Shp.nil).own b := fun b ⟨k, base, p, h1, _⟩ => by simp [Shp.nil] at h1
  have T : TRel ⟨w, F, .nil⟩ ((G, .gh l true xs) :: argsTm 0 (.yld l :: cap)) { tmps := (#[Value.func (.yield l) #[] #[]] ++ cs) ++ Array.replicate (fn.ntmps - (#[Value.func (.yield l) #[] #[]] ++ cs).size) undef, defers := [] } := by
    intro t
    simp only [look]
    split
    · rename_i hbt
      rw [← Nat.eq_of_beq_eq_true hbt]
      have : ({ tmps := (#[Value.func (.yield l) #[] #[]] ++ cs) ++ Array.replicate (fn.ntmps - (#[Value.func (.yield l) #[] #[]] ++ cs).size) undef, defers := [] } : Act).tmps.getD G undef = undef := by
        simp only [Array.getD_eq_getD_getElem?]
        rw [Array.getElem?_eq_none (by simp; omega)]; rfl
      rw [this]; exact .gh ..
    · refine args_rel (ds := []) (E := ⟨w, F, .nil⟩) (args := .yld l :: cap) (cs := #[Value.func (.yield l) #[] #[]] ++ cs) (by simp; omega) (fun i x v hx hv => ?_) _ t
      cases i with
      | zero =>
        rw [Array.getElem?_append_left (by simp)] at hv
        simp at hx hv
        subst hx hv
        exact .yld ..
      | succ i =>
        simp only [List.getElem?_cons_succ] at hx
        rw [Array.getElem?_append_right (by simp)] at hv
        exact hR i x v hx (by simpa using hv)
  have hL : Lf none .nil (KI l K) fn.ntmps 0 (fun _ => False) ⟨w, F, .nil⟩ ⟨(G, .gh l true xs) :: argsTm 0 (.yld l :: cap), [], 0, 0⟩ { tmps := (#[Value.func (.yield l) #[] #[]] ++ cs) ++ Array.replicate (fn.ntmps - (#[Value.func (.yield l) #[] #[]] ++ cs).size) undef, defers := [] } := by
    refine ⟨⟨fun _ _ h => h, fun _ _ _ h => h, rfl⟩, fun b hb => (hno b hb).elim, ?_, Mk.nil .., ⟨T, H, rfl, hG, by simp; omega, rfl⟩⟩
    show KI l K (ghostOf ((G, .gh l true xs) :: argsTm 0 (.yld l :: cap))) _ _ _
    rw [ghost_gh]
    exact ⟨rfl, hk⟩
  have C : Ctx P none (KI l K) := KI.ctx hK hY hT
  refine calls_Fr (n := 0) (callsIn_of_wp_marks hf hbody trivial (Go.wpIn_mono (wpA_sound hm hcode C rfl hL (hb l)) fun e a' w' hl => ?_))
  have key : ∀ {O : Nat → Prop} {E' : Env} {st : St}, E'.w = w' → Lf none .nil (KI l K) fn.ntmps 0 O E' st a' → (match look st.tm G with | .gh _ b rest => b = true → rest = [] | _ => False) →
      LeavesInM (Fr none) 0 P fn a'.tmps (fun e w' => (∃ v, e = .returned v) ∧ ∃ O F, K (some (l, true, [])) O F w' ∨ ∃ r, K (some (l, false, r)) O F w') a'.defers .returning w' := by
    rintro O E' st rfl L hfin
    obtain ⟨Ds, hds, hdn, _, hdm⟩ := L.m
    rw [hds]
    refine leaves_marks Ds _ hdn (fun D hD => (hdm D hD).2.2) fun w2 X => ?_
    have hk2 : KI l K (ghostOf st.tm) O E'.F w2 := C.step.step L.k (X.mono fun q _ h => ⟨(hdm q h).1, (hdm q h).2.1⟩) (fun _ h => .inl h) (fun _ h => h) fun _ h => .inl h
    refine ⟨.tuple #[], ?_, ⟨_, rfl⟩, O, E'.F, ?_⟩
    · rw [results_eq, Sem.run_bind, Array.mapM_eq_mapM_toList, Sem.run_map, hrs]
      rfl
    · unfold ghostOf at hk2
      cases hlk : look st.tm G <;> rw [hlk] at hfin hk2 <;> try (exact hfin.elim)
      rename_i l' b rest
      obtain ⟨rfl, hk3⟩ := hk2
      cases b with
      | true => obtain rfl := hfin rfl; exact .inl hk3
      | false => exact .inr ⟨rest, hk3⟩
  cases e with
  | normal => obtain ⟨O, E', st, h1, h2, h3⟩ := hl; exact key h1 h2 h3
  | ret => obtain ⟨O, E', st, h1, h2, h3⟩ := hl; exact key h1 h2 h3
  | exit id => obtain ⟨O, E', st, h1, h2, h3⟩ := hl; exact h3.elim
  | _ => exact hl.elim

/-- The body of an iterator that is lent blocks. -/
def bodyIL (P : Program) (fn : AFn) (cap : List AV) (h : AHeap) (xs : List (List AV)) (h' : AHeap) : Prop :=
  fn.res.isEmpty = true ∧ ∀ l, wpA P fn.code (fun e st => match e with
    | .exit _ => False
    | _ => match look st.tm G with
      | .gh _ b rest => b = true → rest = [] ∧ ∃ keep fz, okKeep st.n0 st.hn (keep ++ fz) = true ∧ gcH st.n0 keep fz st.hp = h'
      | _ => False) ⟨(G, .gh l true xs) :: argsTm 0 (.yld l :: cap), h, h.length, h.length⟩

theorem IterL.enter (hm : P.follows .mixedOrders = true) {f : FuncId} {fn : Func} {pts : List Nat} (hf : P.funcs[f]? = some fn) (hname : fn.name ≠ "runtime.NumGoroutine") {afn : AFn} (hc : cFn P fn pts = some afn) {cap : List AV} (hn : Nat.ble (cap.length + 1) fn.ntmps = true)
    {h h' : AHeap} {xs : List (List AV)} (hb : bodyIL P afn cap h xs h') : IterL P f cap h xs h' := by
  have hn := Nat.le_of_ble_eq_true hn
  obtain ⟨b, code, res, hbody, hcode, hres, hG, rfl⟩ := cFn_inv hc
  obtain ⟨hre, hb⟩ := hb
  refine ⟨⟨fn, hf, by rw [hbody]; rfl, hname⟩, fun l K hK hY hT E cs H hlen hR hk => ?_⟩
  obtain rfl : res = [] := by simpa using hre
  have hrs : fn.results.toList = [] := by
    have := (mapM_get hres).1
    exact List.eq_nil_of_length_eq_zero this.symm
  have T : TRel E ((G, .gh l true xs) :: argsTm 0 (.yld l :: cap)) { tmps := (#[Value.func (.yield l) #[] #[]] ++ cs) ++ Array.replicate (fn.ntmps - (#[Value.func (.yield l) #[] #[]] ++ cs).size) undef, defers := [] } := by
    intro t
    simp only [look]
    split
    · rename_i hbt
      rw [← Nat.eq_of_beq_eq_true hbt]
      have : ({ tmps := (#[Value.func (.yield l) #[] #[]] ++ cs) ++ Array.replicate (fn.ntmps - (#[Value.func (.yield l) #[] #[]] ++ cs).size) undef, defers := [] } : Act).tmps.getD G undef = undef := by
        simp only [Array.getD_eq_getD_getElem?]
        rw [Array.getElem?_eq_none (by simp; omega)]; rfl
      rw [this]; exact .gh ..
    · refine args_rel (ds := []) (E := E) (args := .yld l :: cap) (cs := #[Value.func (.yield l) #[] #[]] ++ cs) (by simp; omega) (fun i x v hx hv => ?_) _ t
      cases i with
      | zero =>
        rw [Array.getElem?_append_left (by simp)] at hv
        simp at hx hv
        subst hx hv
        exact .yld ..
      | succ i =>
        simp only [List.getElem?_cons_succ] at hx
        rw [Array.getElem?_append_right (by simp)] at hv
        exact hR i x v hx (by simpa using hv)
  have hL : Lf none E.S (KI l K) fn.ntmps h.length E.S.own E ⟨(G, .gh l true xs) :: argsTm 0 (.yld l :: cap), h, h.length, h.length⟩ { tmps := (#[Value.func (.yield l) #[] #[]] ++ cs) ++ Array.replicate (fn.ntmps - (#[Value.func (.yield l) #[] #[]] ++ cs).size) undef, defers := [] } := by
    refine ⟨⟨fun _ _ h => h, fun _ _ _ h => h, H.rlen⟩, fun _ h => h, ?_, Mk.nil .., ⟨T, H, rfl, hG, by simp; omega, rfl⟩⟩
    show KI l K (ghostOf ((G, .gh l true xs) :: argsTm 0 (.yld l :: cap))) _ _ _
    rw [ghost_gh]
    exact ⟨rfl, hk⟩
  have C : Ctx P none (KI l K) := KI.ctx hK hY hT
  refine calls_Fr (n := 0) (callsIn_of_wp_marks hf hbody trivial (Go.wpIn_mono (wpA_sound hm hcode C H.len hL (hb l)) fun e a' w' hl => ?_))
  have key : ∀ {O : Nat → Prop} {E' : Env} {st : St}, E'.w = w' → Lf none E.S (KI l K) fn.ntmps h.length O E' st a' → (match look st.tm G with | .gh _ b rest => b = true → rest = [] ∧ ∃ keep fz, okKeep st.n0 st.hn (keep ++ fz) = true ∧ gcH st.n0 keep fz st.hp = h' | _ => False) →
      LeavesInM (Fr none) 0 P fn a'.tmps (fun e w' => (∃ v, e = .returned v) ∧ ((∃ (O : Nat → Prop) (E' : Env), E'.w = w' ∧ K (some (l, true, [])) O E'.F w' ∧ HRel E' h' ∧ ShpExt E.S E'.S ∧ ∀ b, E'.S.own b → O b) ∨ ∃ O F r, K (some (l, false, r)) O F w')) a'.defers .returning w' := by
    rintro O E' st rfl L hfin
    obtain ⟨Ds, hds, hdn, _, hdm⟩ := L.m
    rw [hds]
    refine leaves_marks Ds _ hdn (fun D hD => (hdm D hD).2.2) fun w2 X => ?_
    obtain ⟨_, H2⟩ := L.later hdm X
    have hk2 : KI l K (ghostOf st.tm) O E'.F w2 := C.step.step L.k (X.mono fun q _ h => ⟨(hdm q h).1, (hdm q h).2.1⟩) (fun _ h => .inl h) (fun _ h => h) fun _ h => .inl h
    refine ⟨.tuple #[], ?_, ⟨_, rfl⟩, ?_⟩
    · rw [results_eq, Sem.run_bind, Array.mapM_eq_mapM_toList, Sem.run_map, hrs]
      rfl
    · unfold ghostOf at hk2
      cases hlk : look st.tm G <;> rw [hlk] at hfin hk2 <;> try (exact hfin.elim)
      rename_i l' b rest
      obtain ⟨rfl, hk3⟩ := hk2
      cases b with
      | true =>
        obtain ⟨rfl, keep, fz, hok, hg⟩ := hfin rfl
        have h0 : st.n0 ≤ st.hp.length := L.n0 H.len
        rw [L.S.hn] at hok
        obtain ⟨o1, _, _⟩ := okKeep_parts hok
        refine .inl ⟨O, Env.gc { E' with w := w2 } st.n0 keep fz st.hp, rfl, ?_, hg ▸ H2.gc h0 hok, L.X.gc L.S.H (n0 := st.n0) (keep := keep) (by rw [H.len, L.S.z]; exact Nat.le_refl _) h0, fun b hb => L.own b (gc_own L.S.H h0 o1 hb)⟩
        refine hK.step hk3 (WX.refl _ _) (fun _ h => .inl h) (fun _ h => .inl h) fun b hb => ?_
        rcases hb with h | ⟨k, base, bk, _, m2, m3⟩
        · exact .inl h
        · exact .inr (.inl (L.own b (H2.own_of m3 m2)))
      | false => exact .inr ⟨_, _, rest, hk3⟩
  cases e with
  | normal => obtain ⟨O, E', st, h1, h2, h3⟩ := hl; exact key h1 h2 h3
  | ret => obtain ⟨O, E', st, h1, h2, h3⟩ := hl; exact key h1 h2 h3
  | exit id => obtain ⟨O, E', st, h1, h2, h3⟩ := hl; exact h3.elim
  | _ => exact hl.elim

end Go.AL
