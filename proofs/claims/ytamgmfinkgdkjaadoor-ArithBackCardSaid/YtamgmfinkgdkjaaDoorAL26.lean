/- A range over a function, sound: the rounds. Seat-independent. -/
import Derived.Test.YtamgmfinkgdkjaaDoorAL25
namespace Go.AL
variable {P : Program}

def jumpOf : AExit → Option Code
  | .normal => none
  | .exit id => some (.exit id)
  | .ret => some .ret

/-- What the caller of an iterator keeps. -/
def Inv (K : KP) (E1 : Env) (l : Nat) (Ds : List Nat) (rec : LoopState → Option Code → Loop) (I : Nat → AHeap → Prop) (xs : List (List AV)) (Q : AExit → St → Prop) (st1 : St) : KP := fun g Oi Fi w =>
  ∃ Oc E hp, E.w = w ∧ Mid K E1 l Ds Oi Fi Oc E hp ∧ E1.S.ρ.length ≤ hp.length ∧ match g with
    | some (l', true, rest) => l' = l ∧ ∃ k, k ≤ xs.length ∧ xs.drop k = rest ∧ I k hp ∧ w.heap[l]? = some (.loop (rec .ready none))
    | some (l', false, _) => l' = l ∧ ∃ c e, w.heap[l]? = some (.loop (rec .done (some c))) ∧ jumpOf e = some c ∧ Q e ⟨st1.tm, hp, hp.length, st1.n0⟩
    | none => True

section
variable {r : Option Nat} {K : KP} {E1 : Env} {l : Nat} {Ds : List Nat} {I : Nat → AHeap → Prop} {xs : List (List AV)} {Q : AExit → St → Prop} {st1 : St} {rec : LoopState → Option Code → Loop}

theorem Inv.kstep (hK : KStep K) : KStep (Inv K E1 l Ds rec I xs Q st1) where
  step := by
    rintro g Oi Fi w Oi' Fi' w' ⟨Oc, E, hp, rfl, M, hlen, hg⟩ X ho hf1 hf2
    obtain ⟨M', hl⟩ := M.step hK X ho hf1 hf2
    refine ⟨_, _, hp, rfl, M', hlen, ?_⟩
    match g, hg with
    | none, _ => trivial
    | some (l', true, rest), hg =>
      obtain ⟨e, k, h1, h2, h3, h4⟩ := hg
      exact ⟨e, k, h1, h2, h3, hl.trans h4⟩
    | some (l', false, rest), hg =>
      obtain ⟨e, c, ex, h1, h2⟩ := hg
      exact ⟨e, c, ex, hl.trans h1, h2⟩
  forget := fun ⟨Oc, E, hp, h1, M, hlen, _⟩ => ⟨Oc, E, hp, h1, M, hlen, trivial⟩

theorem trel_mid {N z : Nat} {S0 : Shp} {O : Nat → Prop} {a : Act} (L1 : Lf r S0 K N z O E1 st1 a) {E1' : Env} (he : E1'.S = E1.S) (hf : E1'.F = E1.F) (hw : ∀ b, E1.F b → E1'.w.heap[b]? = E1.w.heap[b]?)
    (hc : ∀ (b : Nat) c e f, E1.w.heap[b]? = some (Obj.cells c e f) → ∃ c' e' f', E1'.w.heap[b]? = some (Obj.cells c' e' f') ∧ c'.size = c.size)
    {Oi Fi Oc : Nat → Prop} {E : Env} {hp : AHeap} (M : Mid K E1' l Ds Oi Fi Oc E hp) : TRel E st1.tm a := fun t =>
  Rel.mono (w := E1.w) (F := E1.F) (w' := E.w) (F' := E.F) (fun b hb => M.F1 b (by rw [hf]; exact hb)) (fun b o hb => cell_of_heap ((M.W1 b (by rw [hf]; exact hb)).trans (hw b hb)) _ _) (L1.S.T t) _
    (fun k p hp => M.X1.rho k p (by rw [he]; exact hp)) (fun k p q hq hp => by
      have := M.X1.sh k p (by rw [he, ← L1.S.H.rlen]; exact (List.getElem?_eq_some_iff.1 hq).1) hp
      rw [he] at this; exact this)
    fun b c e f h => by
      obtain ⟨c', e', f', h1, h2⟩ := hc b c e f h
      obtain ⟨c'', e'', f'', h3, h4⟩ := M.cap b c' e' f' h1
      exact ⟨c'', e'', f'', h3, h4.trans h2⟩

theorem Inv.yields (C : Ctx P r K) {N : Nat} {a : Act} {ps : Array Tmp} {assign body : Code} {aa ab : ACode} {fn : FuncId} {dl : Nat}
    (hrec : rec = fun st pe => { state := st, pending := pe, fn, tmps := a.tmps, params := ps, assign, body, defers := dl })
    (iha : ∀ {r : Option Nat} {K : KP} {S0 : Shp} {z n : Nat}, Ctx P r K → S0.ρ.length = z → ∀ {Q : AExit → St → Prop} {O : Nat → Prop} {E : Env} {st : St} {a : Act}, Lf r S0 K N z O E st a → wpA P aa Q st → assign.wpIn (Fr r) n P (lift r S0 K N z Q) a E.w)
    (ihb : ∀ {r : Option Nat} {K : KP} {S0 : Shp} {z n : Nat}, Ctx P r K → S0.ρ.length = z → ∀ {Q : AExit → St → Prop} {O : Nat → Prop} {E : Env} {st : St} {a : Act}, Lf r S0 K N z O E st a → wpA P ab Q st → body.wpIn (Fr r) n P (lift r S0 K N z Q) a E.w)
    (hT : ∀ {Oi Fi Oc : Nat → Prop} {E : Env} {hp : AHeap}, Mid K E1 l Ds Oi Fi Oc E hp → TRel E st1.tm a) (hN : a.tmps.size = N) (hNG : N ≤ G) (hps : ∀ p ∈ ps.toList, p < N) (hgh : ghostOf st1.tm = none) (hE1 : E1.S.ρ.length = st1.hn) (hxl : ∀ x ∈ xs, x.length = ps.toList.length)
    (hround : ∀ k x hp, xs[k]? = some x → I k hp → wpA P aa (fun e st' => match e with | .normal => wpA P ab (fun e st' => match e with
      | .normal => ∃ keep fz, okKeep st1.hn st'.hn (keep ++ fz) = true ∧ I (k + 1) (gcH st1.hn keep fz st'.hp)
      | e => ∃ keep fz, okKeep st1.hn st'.hn (keep ++ fz) = true ∧ Q e ⟨st1.tm, gcH st1.hn keep fz st'.hp, st1.hn + keep.length, st1.n0⟩) st' | _ => False) ⟨setPs ps.toList x st1.tm, hp, hp.length, st1.hn⟩) :
    Yields P (Inv K E1 l Ds rec I xs Q st1) := by
  rintro l' x rest Oi Fi w vs ⟨Oc, E, hp, rfl, M, hlen, rfl, k, hk1, hk2, hI, hlr⟩ hFi hxv hR n
  have hkx : xs[k]? = some x := by
    have := congrArg (·[0]?) hk2
    simpa [List.getElem?_drop] using this
  have hk : k < xs.length := (List.getElem?_eq_some_iff.1 hkx).1
  have hrest : xs.drop (k + 1) = rest := by
    have := congrArg List.tail hk2
    simpa [List.tail_drop] using this
  have hxps : x.length = ps.toList.length := hxl x (List.mem_of_getElem? hkx)
  have hy := run_yield (P := P) (args := vs) hlr (by rw [hrec]; simp at hxps ⊢; omega)
  rw [hrec] at hy
  refine ⟨fn, _, assign, body, hy, roundIn_of_wpIn (F := Fence.wide) trivial ?_⟩
  clear hy
  have hmlt : st1.hn ≤ E.S.ρ.length := by rw [M.H.len, ← hE1]; exact hlen
  have hpre : (E.S.pre st1.hn).ρ.length = st1.hn := by simp only [Shp.pre, List.length_take]; omega
  have hlno : ¬ E.S.own l' := (M.spl (.inl rfl)).2
  -- the assignments
  have R0 := M.round C.step
  have H0 : HRel { E with F := fun b => E.F b ∨ Fi b } hp := M.H.moreF (fun b h => .inl h) (fun b h => h.elim (M.H.off b) (M.d2 b)) fun b h => h.elim (M.H.frz b) (hFi b)
  obtain ⟨Oc0, c1, c2, c3⟩ := R0.k
  have C0 : Ctx P (some l') (KB K { E with F := fun b => E.F b ∨ Fi b } Oc0) := KB.ctx C (Es := { E with F := fun b => E.F b ∨ Fi b }) hlr hlno
  obtain ⟨T0, hsz⟩ := setPs_rel (E := { E with F := fun b => E.F b ∨ Fi b }) ps.toList x vs.toList st1.tm a.tmps a.defers [] hxps (by simp at hxps ⊢; omega) (fun p hp => by rw [hN]; exact hps p hp)
    (fun i c v hc hv => ((hR i c v hc (by simpa using hv)).more (fun b h => .inr h)).nil_to _) (fun t => (hT M t).more fun b h => .inl h)
  have hfold : ((ps.zip vs).foldl (fun tmps (t, a) => tmps.setIfInBounds t a) a.tmps) = (ps.toList.zip vs.toList).foldl (fun t (p, v) => t.setIfInBounds p v) a.tmps := by
    rw [← Array.foldl_toList, Array.toList_zip]
  rw [hfold]
  have L0 : Lf (some l') (E.S.pre st1.hn) (KB K { E with F := fun b => E.F b ∨ Fi b } Oc0) N st1.hn E.S.own { E with F := fun b => E.F b ∨ Fi b } ⟨setPs ps.toList x st1.tm, hp, hp.length, st1.hn⟩
      { tmps := (ps.toList.zip vs.toList).foldl (fun t (p, v) => t.setIfInBounds p v) a.tmps, defers := [] } := by
    refine ⟨Shp.pre_ext M.H.rlen _, fun _ h => h, ?_, Mk.nil .., ⟨T0, H0, rfl, hNG, by rw [hsz]; exact hN, rfl⟩⟩
    refine ⟨?_, fun b h => .inl h, fun b h => h, fun b h => .inl h, WX.refl _ _, ?_⟩
    · show ghostOf (setPs ps.toList x st1.tm) = none
      rw [setPs_ghost _ _ _ (fun p hp he => absurd he (Nat.ne_of_lt (Nat.lt_of_lt_of_le (hps p hp) hNG)))]
      exact hgh
    · exact C.step.step c3 (WX.refl _ _) (fun b hb => .inl (hb.elim id (c2 b))) (fun _ h => h) fun _ h => .inl h
  refine Go.wpIn_mono (iha C0 hpre (E := { E with F := fun b => E.F b ∨ Fi b }) L0 (hround k x hp hkx hI)) ?_
  rintro e a2 w2 hl2
  cases e with
  | normal =>
    obtain ⟨O2, E2, st2, rfl, L2, hb⟩ := hl2
    have R2 := R0.kb M c1 (h := L2.k) L2.own
    have hl2 : E2.w.heap[l']? = some (.loop (rec .ready none)) := by
      obtain ⟨_, _, _, _, hwx, _⟩ := L2.k
      exact (hwx.same l' (M.spl (.inl rfl)).1 hlno).trans hlr
    refine ⟨_, run_beginRound hl2 (by rw [hrec]), ?_⟩
    -- the body
    have R2' := R2.put C.step M hl2 (.loop { rec .ready none with state := .busy })
    have hl2' : (E2.w.putObj l' (.loop { rec .ready none with state := .busy })).heap[l']? = some (.loop { rec .ready none with state := .busy }) := World.putObj_heap_same (Array.getElem?_eq_some_iff.1 hl2).1
    have hlno2 : ¬ E2.S.own l' := fun h => R2.noO M (.inl rfl) (R2.own l' h)
    have X2 := wx_put hl2 (by simp) (.loop { rec .ready none with state := .busy })
    have H2' : HRel { E2 with w := E2.w.putObj l' (.loop { rec .ready none with state := .busy }) } st2.hp :=
      L2.S.H.world X2.size (fun b hb => X2.same b (L2.S.H.own_lt hb) fun he => hlno2 (by have he : b = l' := he; exact he ▸ hb)) (fun b hb => X2.same b (L2.S.H.frz b hb) fun he => R2.noF M (.inl rfl) (by have he : b = l' := he; exact he ▸ hb)) X2.cap
    have T2' : TRel { E2 with w := E2.w.putObj l' (.loop { rec .ready none with state := .busy }) } st2.tm a2 := fun t =>
      Rel.world (fun b hb => X2.same b (L2.S.H.frz b hb) fun he => R2.noF M (.inl rfl) (by have he : b = l' := he; exact he ▸ hb)) X2.cap (L2.S.T t)
    obtain ⟨Oc2, e1, e2, e3⟩ := R2'.k
    have C2 : Ctx P (some l') (KB K { E2 with w := E2.w.putObj l' (.loop { rec .ready none with state := .busy }) } Oc2) := KB.ctx C (Es := { E2 with w := E2.w.putObj l' (.loop { rec .ready none with state := .busy }) }) hl2' hlno2
    have L2' : Lf (some l') (E.S.pre st1.hn) (KB K { E2 with w := E2.w.putObj l' (.loop { rec .ready none with state := .busy }) } Oc2) N st1.hn E2.S.own { E2 with w := E2.w.putObj l' (.loop { rec .ready none with state := .busy }) } st2 a2 := by
      refine ⟨L2.X, fun _ h => h, ⟨L2.k.1, fun b h => .inl h, fun b h => h, fun b h => .inl h, WX.refl _ _, ?_⟩, ?_, ⟨T2', H2', L2.S.hn, L2.S.NG, L2.S.N, L2.S.z⟩⟩
      · exact C.step.step e3 (WX.refl _ _) (fun b hb => .inl (hb.elim id fun h => e2 b (R2.own b h))) (fun _ h => h) fun _ h => .inl h
      · obtain ⟨D2, g1, g2, g3, g4⟩ := L2.m
        have hD := g3 (by simp)
        subst hD
        rw [g1]
        exact Mk.nil ..
    refine Go.wpIn_mono (ihb C2 hpre (E := { E2 with w := E2.w.putObj l' (.loop { rec .ready none with state := .busy }) }) L2' hb) ?_
    have fin : ∀ {w3 : World} {O3 : Nat → Prop} {E3 : Env} {st3 : St} {a3 : Act}, E3.w = w3 → Lf (some l') (E.S.pre st1.hn) (KB K { E2 with w := E2.w.putObj l' (.loop { rec .ready none with state := .busy }) } Oc2) N st1.hn O3 E3 st3 a3 →
        ∀ {keep fz : List Nat}, okKeep st1.hn st3.hn (keep ++ fz) = true → ∀ (jump : Option Code), ∃ w5, (Instr.endRound l' jump).run P w3 = .ok (.bool jump.isNone) w5 ∧ YX Oi Fi E.w w5 ∧
          ∃ Oc5 E5, E5.w = w5 ∧ Mid K E1 l' Ds Oi Fi Oc5 E5 (gcH st1.hn keep fz st3.hp) ∧ E1.S.ρ.length ≤ (gcH st1.hn keep fz st3.hp).length ∧ (gcH st1.hn keep fz st3.hp).length = st1.hn + keep.length ∧ w5.heap[l']? = some (.loop (rec (if jump.isNone then .ready else .done) jump)) := by
      rintro w3 O3 E3 st3 a3 rfl L3 keep fz hok jump
      have R3 := R2'.kb M e1 (h := L3.k) L3.own
      have hl3 : E3.w.heap[l']? = some (.loop { rec .ready none with state := .busy }) := by
        obtain ⟨_, _, _, _, hwx, _⟩ := L3.k
        exact (hwx.same l' (Array.getElem?_eq_some_iff.1 hl2').1 hlno2).trans hl2'
      rw [L3.S.hn] at hok
      obtain ⟨⟨Oc5, M5⟩, Y5, hl5, hle, hlen5⟩ := M.back C.step (m := st1.hn) hE1 hmlt hFi R3 L3.S.H L3.X hok hl3 (rec (if jump.isNone then .ready else .done) jump)
      have hend := run_endRound (P := P) jump hl3
      rw [hrec] at hend ⊢
      rw [hrec] at Y5 M5 hl5
      exact ⟨_, hend, Y5, Oc5, _, rfl, M5, by rw [hE1]; exact hle, hlen5, hl5⟩
    rintro e a3 w3 hl3
    cases e with
    | normal =>
      obtain ⟨O3, E3, st3, he3, L3, keep, fz, hok, hI'⟩ := hl3
      obtain ⟨w5, q1, q2, Oc5, E5, q3, q4, q5, _, q6⟩ := fin he3 L3 hok none
      exact ⟨_, w5, q1, true, rfl, ⟨Oc5, E5, _, q3, q4, q5, rfl, k + 1, hk, hrest, hI', q6⟩, q2⟩
    | ret =>
      obtain ⟨O3, E3, st3, he3, L3, keep, fz, hok, hQ⟩ := hl3
      obtain ⟨w5, q1, q2, Oc5, E5, q3, q4, q5, q7, q6⟩ := fin he3 L3 hok (some .ret)
      exact ⟨_, w5, q1, false, rfl, ⟨Oc5, E5, _, q3, q4, q5, rfl, .ret, .ret, q6, rfl, by rw [q7]; exact hQ⟩, q2⟩
    | exit id =>
      obtain ⟨O3, E3, st3, he3, L3, keep, fz, hok, hQ⟩ := hl3
      obtain ⟨w5, q1, q2, Oc5, E5, q3, q4, q5, q7, q6⟩ := fin he3 L3 hok (some (.exit id))
      exact ⟨_, w5, q1, false, rfl, ⟨Oc5, E5, _, q3, q4, q5, rfl, .exit id, .exit id, q6, rfl, by rw [q7]; exact hQ⟩, q2⟩
    | _ => exact hl3.elim
  | exit id => obtain ⟨_, _, _, _, _, h⟩ := hl2; exact h.elim
  | ret => obtain ⟨_, _, _, _, _, h⟩ := hl2; exact h.elim
  | _ => exact hl2.elim

theorem rangef_sound {n : Nat} {S0 : Shp} {N z : Nat} (C : Ctx P r K) (hz : S0.ρ.length = z) {g : Operand} {g' : Opd} (hg : cOpd g = some g') {ps : Array Tmp} (hps : ∀ p ∈ ps.toList, p < N) {assign body : Code} {aa ab : ACode}
    (iha : ∀ {r : Option Nat} {K : KP} {S0 : Shp} {z n : Nat}, Ctx P r K → S0.ρ.length = z → ∀ {Q : AExit → St → Prop} {O : Nat → Prop} {E : Env} {st : St} {a : Act}, Lf r S0 K N z O E st a → wpA P aa Q st → assign.wpIn (Fr r) n P (lift r S0 K N z Q) a E.w)
    (ihb : ∀ {r : Option Nat} {K : KP} {S0 : Shp} {z n : Nat}, Ctx P r K → S0.ρ.length = z → ∀ {Q : AExit → St → Prop} {O : Nat → Prop} {E : Env} {st : St} {a : Act}, Lf r S0 K N z O E st a → wpA P ab Q st → body.wpIn (Fr r) n P (lift r S0 K N z Q) a E.w)
    {O : Nat → Prop} {E : Env} {st : St} {a : Act} (L : Lf r S0 K N z O E st a) (h : LoopR P g' ps.toList (fun Q => wpA P aa fun e st' => match e with | .normal => wpA P ab Q st' | _ => False) Q st) :
    (Code.rangeFunc g ps assign body).wpIn (Fr r) n P (lift r S0 K N z Q) a E.w := by
  obtain ⟨live, keep, fz, hok, hgh, hm⟩ := h
  have L1 := L.norm C.step hz (live := live) hok
  have H1 := L1.S.H
  split at hm <;> try (exact hm.elim)
  rename_i f cap hf
  obtain ⟨hcl, xs, ⟨hent, hiter⟩, hxl, I, hI0, hround, hdone⟩ := hm
  have hR := cOpd_rel L1.S.T hg
  rw [hf] at hR
  obtain ⟨vs, hge, hcs, hcr⟩ : ∃ vs : Array Value, a.eval g = .func (.func f) #[] vs ∧ cap.length = vs.size ∧ ∀ (i : Nat) c v, cap[i]? = some c → vs[i]? = some v → (E.gc st.n0 keep fz st.hp).R c v := by
    generalize a.eval g = u at hR
    cases hR with
    | fn _ _ _ vs h1 h2 => exact ⟨vs, rfl, h1, h2⟩
  refine wpIn_rangeFunc fun fn _ => ?_
  obtain ⟨l, Ds, w1, dl, hrun, hlr, hle, hDn, hDr, hDs, X1⟩ := enter_loop (r := r) (w := E.w) (fun l hl => C.record l hl L.k) fn a.tmps ps assign body
  obtain ⟨rec, hrec⟩ : ∃ rec : LoopState → Option Code → Loop, rec = fun st pe => { state := st, pending := pe, fn, tmps := a.tmps, params := ps, assign, body, defers := dl } := ⟨_, rfl⟩
  have hl1 : w1.heap[l]? = some (.loop (rec .ready none)) := by rw [hrec]; exact hlr
  have hl1lt : l < w1.heap.size := (Array.getElem?_eq_some_iff.1 hl1).1
  obtain ⟨Da, hda, hdan, hdar, hdam⟩ := L1.m
  refine ⟨l, Ds.map mark, w1, { target := .fn (.func f) vs, args := #[.func (.yield l) #[] #[]] }, w1, f, #[.func (.yield l) #[] #[]] ++ vs, w1, hrun, ?_, fun _ _ => trivial, ?_, fun h => by simp [Fr, Fence.wide] at h, ?_⟩
  · simp only [resolve, hge]
    simp [go_sem]
  · simp [invoke, go_sem, run_callFunc hent]
  have hw : ∀ b, b < E.w.heap.size → w1.heap[b]? = E.w.heap[b]? := fun b hb => X1.same b hb id
  have hF1 : ∀ b, (E.gc st.n0 keep fz st.hp).F b → b < E.w.heap.size := fun b hb => H1.frz b hb
  have hT : ∀ {Oi Fi Oc : Nat → Prop} {E' : Env} {hp : AHeap}, Mid K { E.gc st.n0 keep fz st.hp with w := w1 } l (Ds ++ Da) Oi Fi Oc E' hp → TRel E' (st.norm live keep fz).tm a :=
    fun M => trel_mid L1 (E1' := { E.gc st.n0 keep fz st.hp with w := w1 }) rfl rfl (fun b hb => hw b (hF1 b hb)) X1.cap M
  have hlen1 : (E.gc st.n0 keep fz st.hp).S.ρ.length = (st.norm live keep fz).hn := by rw [H1.len, L1.S.hn]
  have M0 : Mid K { E.gc st.n0 keep fz st.hp with w := w1 } l (Ds ++ Da) (fun _ => False) (E.gc st.n0 keep fz st.hp).F (fun b => O b ∨ (E.w.heap.size ≤ b ∧ b < w1.heap.size)) { E.gc st.n0 keep fz st.hp with w := w1 } (st.norm live keep fz).hp := by
    have hk := L1.k
    rw [hgh] at hk
    refine ⟨fun b hb => .inl (L1.own b hb), fun b hb => hb.elim, ?_, H1.world X1.size (fun b hb => hw b (H1.own_lt hb)) (fun b hb => hw b (hF1 b hb)) X1.cap, ⟨fun _ _ h => h, fun _ _ _ h => h, H1.rlen⟩, fun _ h => h, fun _ _ => rfl, fun b c e f h => ⟨c, e, f, h, rfl⟩,
      fun b hb => hb.elim, fun b hb => H1.off b hb, fun b hb => hb.elim, fun b hb => .inl hb, fun b hb => hb.elim, fun s hs => ?_, ⟨_, hl1⟩, fun hd => ?_, fun D hD => ?_⟩
    · exact C.step.step hk (X1.mono fun _ _ h => h.elim) (fun _ h => h) (fun _ h => h) fun _ h => .inl h
    · have new : ∀ q, E.w.heap.size ≤ q → q < w1.heap.size → (O q ∨ (E.w.heap.size ≤ q ∧ q < w1.heap.size)) ∧ ¬ False ∧ ¬ (E.gc st.n0 keep fz st.hp).F q ∧ ¬ (E.gc st.n0 keep fz st.hp).F q := fun q h1 h2 =>
        ⟨.inr ⟨h1, h2⟩, id, fun h => by have := hF1 q h; omega, fun h => by have := hF1 q h; omega⟩
      rcases hs with rfl | hs
      · exact new _ hle hl1lt
      · rcases List.mem_append.1 hs with hs | hs
        · obtain ⟨g1, g2, g3⟩ := hDs s hs
          exact new _ g1 (Array.getElem?_eq_some_iff.1 g3).1
        · obtain ⟨g1, g2, g3⟩ := hdam s hs
          exact ⟨.inl g1, id, g2, g2⟩
    · rcases List.mem_append.1 hd with h | h
      · exact (hDs l h).2.1 rfl
      · obtain ⟨g1, g2, g3⟩ := hdam l h
        have := (Array.getElem?_eq_some_iff.1 g3).1
        have this : l < E.w.heap.size := this
        omega
    · rcases List.mem_append.1 hD with h | h
      · exact (hDs D h).2.2
      · obtain ⟨g1, g2, g3⟩ := hdam D h
        exact (hw D (Array.getElem?_eq_some_iff.1 g3).1).trans g3
  have KS := Inv.kstep (E1 := { E.gc st.n0 keep fz st.hp with w := w1 }) (l := l) (Ds := Ds ++ Da) (I := I) (xs := xs) (Q := Q) (st1 := st.norm live keep fz) (rec := rec) C.step
  have YS : Yields P (Inv K { E.gc st.n0 keep fz st.hp with w := w1 } l (Ds ++ Da) rec I xs Q (st.norm live keep fz)) :=
    Inv.yields C hrec @iha @ihb hT L1.S.N L1.S.NG hps hgh hlen1 hxl hround
  have call := hiter l _ KS YS (E.gc st.n0 keep fz st.hp).F w1 vs (fun b hb => Nat.lt_of_lt_of_le (hF1 b hb) X1.size) hcs
    (fun i c v hc hv => Rel.world (E := E.gc st.n0 keep fz st.hp) (fun b hb => hw b (hF1 b hb)) X1.cap (closedU_nil (List.all_eq_true.1 hcl c (List.mem_of_getElem? hc)) (hcr i c v hc hv)))
    ⟨_, _, _, rfl, M0, by rw [← M0.H.len]; exact Nat.le_refl _, rfl, 0, Nat.zero_le _, rfl, hI0, hl1⟩
  -- the state behind the loop
  have fin : ∀ {Oi Fi Oc : Nat → Prop} {E' : Env} {hp : AHeap} (M : Mid K { E.gc st.n0 keep fz st.hp with w := w1 } l (Ds ++ Da) Oi Fi Oc E' hp) {rr : Loop}, E'.w.heap[l]? = some (.loop rr) → ∀ (o : Obj),
      Lf r S0 K N z Oc { E' with w := E'.w.putObj l o } ⟨(st.norm live keep fz).tm, hp, hp.length, (st.norm live keep fz).n0⟩ { a with defers := Ds.map mark ++ a.defers } := by
    intro Oi Fi Oc E' hp M rr hl o
    have X := wx_put hl (by simp) o
    obtain ⟨s1, _, _, s4⟩ := M.sp l (.inl rfl)
    have hlno := (M.spl (s := l) (.inl rfl)).2
    refine ⟨L1.X.trans H1.rlen M.X1, M.own, ?_, ⟨Ds ++ Da, ?_, ?_, fun hr => by rw [hDr hr, hdar hr]; rfl, fun D hD => ?_⟩, ⟨fun t => ?_, ?_, rfl, L1.S.NG, L1.S.N, L1.S.z⟩⟩
    · show K (ghostOf (st.norm live keep fz).tm) Oc E'.F (E'.w.putObj l o)
      rw [hgh]
      exact C.step.step M.k (X.mono fun q _ h => by
        have h : q = l := h
        subst h; exact ⟨s1, s4⟩) (fun _ h => .inl h) (fun _ h => h) fun _ h => .inl h
    · show Ds.map mark ++ a.defers = _
      rw [hda, List.map_append]
    · rw [List.nodup_append]
      refine ⟨hDn, hdan, fun x hx y hy he => ?_⟩
      have h1 := (hDs x hx).1
      have h2 : y < E.w.heap.size := (Array.getElem?_eq_some_iff.1 (hdam y hy).2.2).1
      omega
    · obtain ⟨g1, _, _, g4⟩ := M.sp D (.inr hD)
      refine ⟨g1, g4, ?_⟩
      rw [← M.ds D hD]
      exact World.putObj_heap_other fun he => M.dl (he ▸ hD)
    · exact Rel.world (fun b hb => X.same b (M.H.frz b hb) fun he => s4 (by have he : b = l := he; exact he ▸ hb)) X.cap (hT M t)
    · exact M.H.world X.size (fun b hb => X.same b (M.H.own_lt hb) fun he => hlno (by have he : b = l := he; exact he ▸ hb)) (fun b hb => X.same b (M.H.frz b hb) fun he => s4 (by have he : b = l := he; exact he ▸ hb)) X.cap
  refine callsIn_Fr (call.mono ?_)
  rintro e w' ⟨⟨v, rfl⟩, Of, Ff, hend⟩
  rcases hend with ⟨Oc, E', hp, rfl, M, _, _, k, hk1, hk2, hI, hl⟩ | ⟨rr, Oc, E', hp, rfl, M, _, _, c, ex, hl, hj, hQ⟩
  · have hkx : k = xs.length := by
      have := congrArg List.length hk2
      simp at this; omega
    subst hkx
    exact ⟨none, _, by have := run_endLoop (P := P) hl (by rw [hrec]; simp); rw [hrec] at this; exact this, Oc, _, _, rfl, fin M hl _, hdone hp hI⟩
  · refine ⟨some c, _, by have := run_endLoop (P := P) hl (by rw [hrec]; simp); rw [hrec] at this; exact this, ?_⟩
    cases ex with
    | normal => cases hj
    | exit id =>
      obtain rfl := Option.some.inj hj
      exact wpIn_exit ⟨Oc, _, _, rfl, fin M hl _, hQ⟩
    | ret =>
      obtain rfl := Option.some.inj hj
      exact wpIn_ret ⟨Oc, _, _, rfl, fin M hl _, hQ⟩

end

end Go.AL
