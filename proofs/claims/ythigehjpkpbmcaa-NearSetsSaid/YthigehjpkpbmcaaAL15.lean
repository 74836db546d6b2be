/- **SOUND**: what the abstract reckoning shows holds of the machine. Seat-independent. -/
import Derived.Test.YthigehjpkpbmcaaAL18
import Derived.Orders
namespace Go.AL
variable {P : Program}

/-- The machine's frame and world are as the abstract state tells. -/
structure SRel (E : Env) (N z : Nat) (st : St) (a : Act) : Prop where
  T : TRel E st.tm a
  H : HRel E st.hp
  hn : st.hn = st.hp.length
  N : a.tmps.size = N
  d : a.defers = []
  z : st.n0 = z

theorem ifB_of {b : Bool} {A B : Prop} (h1 : b = true → A) (h2 : b = false → B) : ifB b A B :=
  match b, h1, h2 with
  | true, h1, _ => h1 rfl
  | false, _, h2 => h2 rfl

theorem TRel.put {E : Env} {tm : List (Nat × AV)} {a : Act} (T : TRel E tm a) {dst : Option Nat} {v : AV} {u : Value} (hv : E.R v u) (hd : ∀ d, dst = some d → d < a.tmps.size) : TRel E (putD dst v tm) (a.put dst u) := by
  intro t
  rw [look_putD]
  cases dst with
  | none => simpa [Act.put] using T t
  | some d =>
    have hlt := hd d rfl
    simp only [Act.put, Option.some.injEq]
    by_cases h : d = t
    · subst h
      rw [if_pos rfl]
      simpa [Array.getD, hlt] using hv
    · rw [if_neg h]
      have := T t
      simpa [Array.getElem?_setIfInBounds_ne h, Array.getD_eq_getD_getElem?] using this

theorem TRel.same {E : Env} {tm : List (Nat × AV)} {a : Act} (T : TRel E tm a) {g : Nat} {v : AV} (hg : look tm g = v) : TRel E ((g, v) :: tm) a := by
  intro t
  simp only [look]
  split
  · rename_i hb
    rw [← Nat.eq_of_beq_eq_true hb, ← hg]; exact T g
  · exact T t

theorem put_size (a : Act) (dst : Option Nat) (v : Value) : (a.put dst v).tmps.size = a.tmps.size := by cases dst <;> simp [Act.put]
theorem put_defers (a : Act) (dst : Option Nat) (v : Value) : (a.put dst v).defers = a.defers := by cases dst <;> rfl

theorem SRel.put {E E' : Env} {N z : Nat} {tm : List (Nat × AV)} {hp : AHeap} {hn n0 : Nat} {a : Act} (S : SRel E N z ⟨tm, hp, hn, n0⟩ a) (X : Ext E E') {hp' : AHeap} (H' : HRel E' hp') {hn' : Nat} (hl : hn' = hp'.length)
    {dst : Option Nat} {v : AV} {u : Value} (hv : E'.R v u) (hd : dst.all (· < N) = true) : SRel E' N z ⟨putD dst v tm, hp', hn', n0⟩ (a.put dst u) := by
  refine ⟨(S.T.ext X S.H.frz).put hv fun d hdd => ?_, H', hl, by rw [put_size]; exact S.N, by rw [put_defers]; exact S.d, S.z⟩
  subst hdd
  rw [S.N]
  simpa using hd

theorem yielded_of {E : Env} {ops : Array Oper} {tm : List (Nat × AV)} {a : Act} (T : TRel E tm a) {j t : Nat} (hj : (ops[j]?).bind (·.dst) = some t) {b : Bool} (hb : look tm t = .bool b) :
    yielded ops a.tmps j = some b := by
  have := T t
  rw [hb] at this
  have h1 := rel_bool this
  unfold yielded
  rw [hj]
  simp only [Option.bind_some]
  have : a.tmps[t]? = some (.bool b) := by
    rcases Nat.lt_or_ge t a.tmps.size with h | h
    · rw [Array.getElem?_eq_getElem h]
      simp [Array.getD, h] at h1
      rw [h1]
    · simp [Array.getD, Nat.not_lt.2 h, undef] at h1
  rw [this]

theorem run_callFunc {f : FuncId} (he : Enters P f) (args : Array Value) (w : World) : (callFunc f args).run P w = .ok (.enter f args) w := by
  obtain ⟨fn, h1, h2, h3⟩ := he
  have h4 : fn.body.isNone = false := by cases hb : fn.body <;> simp_all
  have h5 : fn.body ≠ none := by cases hb : fn.body <;> simp_all
  simp [callFunc, h1, h3, h5]

/-- What holds behind an abstract exit, of the machine. -/
def lift (E0 : Env) (N z : Nat) (Q : AExit → St → Prop) : Exit → Act → World → Prop
  | .normal, a, w => ∃ E st, E.w = w ∧ Ext E0 E ∧ SRel E N z st a ∧ Q .normal st
  | .exit id, a, w => ∃ E st, E.w = w ∧ Ext E0 E ∧ SRel E N z st a ∧ Q (.exit id) st
  | .ret, a, w => ∃ E st, E.w = w ∧ Ext E0 E ∧ SRel E N z st a ∧ Q .ret st
  | _, _, _ => False

theorem call_step {E E0 : Env} {N z : Nat} {tm : List (Nat × AV)} {hp : AHeap} {hn n0 : Nat} {a : Act} (S : SRel E N z ⟨tm, hp, hn, n0⟩ a) (X0 : Ext E0 E) {f : FuncId} {args : List AV} {cs : Array Value} {o : Oper}
    (hrun : Enters P f → (execOp a.eval o).run P E.w = .ok (.enter f cs) E.w) (hb : Bes E args cs.toList) (hd : o.dst.all (· < N) = true) {K : St → Prop} {next : Act → World → Prop} {Q : Exit → Act → World → Prop}
    (hc : CallsA P f args hp fun r h' => K ⟨putD o.dst r tm, h', h'.length, n0⟩) (hK : ∀ E' st' a', Ext E0 E' → SRel E' N z st' a' → K st' → next a' E'.w) : o.wp P a E.w next Q := by
  obtain ⟨he, hc⟩ := hc
  have h1 := hc E cs S.H (by have := hb.1; simpa using this) (fun i x v hx hv => hb.2 i x v hx (by simpa using hv))
  unfold Oper.wp
  rw [hrun he, Oper.upon_enter]
  refine h1.mono ?_
  rintro e w' ⟨v, r, h', E', rfl, hr, rfl, X, H', hv⟩
  exact hK E' _ _ (X0.trans X) (S.put X H' rfl hv hd) hr

theorem oper_sound {N z : Nat} {ops : Array Oper} {E0 : Env} {Q : Exit → Act → World → Prop} {next : St → Prop} {Kc : Act → World → Prop} (hK : ∀ E st a, Ext E0 E → SRel E N z st a → next st → Kc a E.w)
    {i : Nat} {ao : AOper} {o : Oper} (ho : ops[i]? = some o) (hco : cOper P N ops o = some ao) {E : Env} {st : St} {a : Act} (X0 : Ext E0 E) (S : SRel E N z st a) (h : stepG P ao st next) : wpOp P ops Q i Kc a E.w := by
  obtain ⟨tm, hp, hn, n0⟩ := st
  unfold cOper at hco
  simp only [Option.bind_eq_bind, Option.bind_eq_some_iff] at hco
  obtain ⟨aop', hop, g, hg, hco⟩ := hco
  split at hco <;> try (cases hco; done)
  rename_i hd
  obtain rfl := Option.some.inj hco
  simp only [wpOp, ho]
  -- the operation itself
  have main : ∀ tm', TRel E tm' a → stepA P aop' o.dst tm' hp hn n0 next → o.wp P a E.w Kc Q := by
    intro tm' T' hm
    have S' : SRel E N z ⟨tm', hp, hn, n0⟩ a := ⟨T', S.H, S.hn, S.N, S.d, S.z⟩
    have hquiet : cQ P o.op = some aop' → (match aop tm' hp hn aop' with
        | some (c, v, e) => need c (f2 v fun v => e.go hp hn fun hp hn => putK o.dst v tm' fun tm => next ⟨tm, hp, hn, n0⟩)
        | none => False) → o.wp P a E.w Kc Q := by
      intro hop' hq
      split at hq <;> try (exact hq.elim)
      rename_i c v e he
      obtain ⟨rfl, hq⟩ := need_iff.1 hq
      rw [f2_iff, Eff.go_iff, putK_iff] at hq
      have hhn : hn = hp.length := S.hn
      rw [hhn] at he
      obtain ⟨E', u, hrun, X, H', hv⟩ := aop_sound hop' S.H T' he (o := o) rfl
      have S2 := S'.put X H' (Eff.hn_eq e hp hn hhn) hv hd
      unfold Oper.wp
      rcases hrun with hrun | ⟨hrun, rfl⟩
      · rw [hrun, Oper.upon_value]
        exact hK E' _ _ (X0.trans X) S2 hq
      · rw [hrun, Oper.upon_skip]
        exact hK E' _ _ (X0.trans X) S2 hq
    have hfn : ∀ {c : Call} {l : List Opd}, c.args.toList.mapM cOpd = some l → Bes E (l.map (ev tm')) (c.args.map a.eval).toList := by
      intro c l hl
      rw [Array.toList_map]
      exact Bes.mapM T' hl
    rcases cOp_inv hop with ⟨f, cargs, ts, l, hoo, hml, rfl⟩ | ⟨x, y, cargs, ts, l, hoo, hy, hml, rfl⟩ | ⟨hq, hqt⟩
    · simp only [stepA, putK_iff] at hm
      refine call_step S' X0 (f := f) (args := l.map (ev tm')) (cs := cargs.map a.eval) (fun he => ?_) (hfn (c := ⟨.value (.func f), cargs, ts⟩) hml) hd hm hK
      simp only [execOp, hoo, resolve, Act.eval, Deferred.ofValue, Sem.run_bind, Sem.run_pure, Result.andThen_ok, invoke]
      rw [run_callFunc he]
      simp
    · simp only [stepA, putK_iff] at hm
      have hR := cOpd_rel T' hy
      split at hm <;> try (exact hm.elim)
      rename_i f cap hf
      rw [hf] at hR
      cases hR' : a.eval x with
      | func fn first vs =>
        rw [hR'] at hR
        have hinv : ∃ cs : Array Value, fn = .func f ∧ first = #[] ∧ Bes E cap vs.toList := by
          cases hR with
          | fn _ _ _ vs h1 h2 => exact ⟨vs, rfl, rfl, by simpa using h1, fun i c v hc hv => h2 i c v hc (by simpa using hv)⟩
        obtain ⟨_, rfl, rfl, hbc⟩ := hinv
        have hba := hfn (c := ⟨.value x, cargs, ts⟩) hml
        refine call_step S' X0 (f := f) (args := l.map (ev tm') ++ cap) (cs := cargs.map a.eval ++ vs) (fun he => ?_) ⟨by have h1 := hba.1; have h2 := hbc.1; simp at h1 h2 ⊢; omega, fun q x v hx hv => ?_⟩ hd hm hK
        · simp only [execOp, hoo, resolve, hR', Deferred.ofValue, Sem.run_bind, Sem.run_pure, Result.andThen_ok, invoke]
          rw [run_callFunc he]
          simp
        · have h1 : (l.map (ev tm')).length = (cargs.map a.eval).toList.length := hba.1
          rw [Array.toList_append, List.getElem?_append] at hv
          rw [List.getElem?_append] at hx
          by_cases hq : q < (l.map (ev tm')).length
          · rw [if_pos hq] at hx
            rw [if_pos (by omega)] at hv
            exact hba.2 q x v hx hv
          · rw [if_neg hq] at hx
            rw [if_neg (by omega), ← h1] at hv
            exact hbc.2 _ x v hx hv
      | _ => rw [hR'] at hR; cases hR
    · cases aop' with
      | call f args => cases hqt
      | callv f args => cases hqt
      | _ => exact hquiet hq hm
  -- its guard
  unfold cGuard at hg
  split at hg
  · rename_i hgu
    obtain rfl := Option.some.inj hg
    simp only [stepG] at h
    rw [if_pos (by simp [Region.wanted, hgu])]
    exact .inl (main tm S.T h)
  · rename_i j want hgu
    simp only [Option.bind_eq_bind, Option.bind_eq_some_iff, Option.pure_def, Option.some.injEq] at hg
    obtain ⟨t, ht, rfl⟩ := hg
    have ht' : (ops[j]?).bind (·.dst) = some t := by rw [Option.bind_eq_some_iff]; exact ht
    simp only [stepG, putK_iff] at h
    split at h <;> try (exact h.elim)
    rename_i b hb
    have hy := yielded_of S.T ht' hb
    have hw : Region.wanted o (yielded ops a.tmps) = (b == want) := by simp [Region.wanted, hgu, hy]
    have T' : TRel E ((t, .bool b) :: tm) a := S.T.same hb
    have S' : SRel E N z ⟨(t, .bool b) :: tm, hp, hn, n0⟩ a := ⟨T', S.H, S.hn, S.N, S.d, S.z⟩
    have skip : ∀ K', next ⟨putD o.dst .undef ((t, .bool b) :: tm), hp, hn, n0⟩ = K' → K' → Kc (a.put o.dst undef) E.w := by
      rintro _ rfl hk
      exact hK E _ _ X0 (S'.put S.H.ext_refl S.H S.hn (.undef ..) hd) hk
    cases b <;> cases want <;> simp only [ifB] at h
    · rw [if_pos (by rw [hw]; rfl)]; exact .inl (main _ T' h)
    · rw [if_neg (by rw [hw]; simp)]; exact skip _ rfl h
    · rw [if_neg (by rw [hw]; simp)]; exact skip _ rfl h
    · rw [if_pos (by rw [hw]; rfl)]; exact .inl (main _ T' h)

theorem wpOps_sound {N z : Nat} {ops : Array Oper} {E0 : Env} {Q : Exit → Act → World → Prop} {K : St → Prop} (hK : ∀ E st a, Ext E0 E → SRel E N z st a → K st → Q .normal a E.w) :
    ∀ (is : List Nat) (aops : List AOper), is.length = aops.length → (∀ (q i : Nat) ao, is[q]? = some i → aops[q]? = some ao → ∃ o, ops[i]? = some o ∧ cOper P N ops o = some ao) →
      ∀ (E : Env) (st : St) (a : Act), Ext E0 E → SRel E N z st a → wpOps P aops st K → Go.wpOps P ops Q is a E.w
  | [], [], _, _, E, st, a, X0, S, h => hK E st a X0 S h
  | [], _ :: _, hl, _, _, _, _, _, _, _ => by simp at hl
  | _ :: _, [], hl, _, _, _, _, _, _, _ => by simp at hl
  | i :: is, ao :: aops, hl, hops, E, st, a, X0, S, h => by
    obtain ⟨o, ho, hco⟩ := hops 0 i ao rfl rfl
    have ih := wpOps_sound hK is aops (by simpa using hl) (fun q i ao h1 h2 => hops (q + 1) i ao (by simpa using h1) (by simpa using h2))
    rw [wpOps_cons]
    exact oper_sound (next := fun st => wpOps P aops st K) ih ho hco X0 S h

/-! ### Whatever order is drawn -/

theorem StEq.srel {E : Env} {N z : Nat} {st st' : St} {a : Act} (S : SRel E N z st a) (h : StEq st st') : SRel E N z st' a :=
  ⟨fun t => by rw [← h.1 t]; exact S.T t, by rw [← h.2.1]; exact S.H, by rw [← h.2.2.1, ← h.2.1]; exact S.hn, S.N, S.d, by rw [← h.2.2.2]; exact S.z⟩

theorem stepD_G {o : AOper} {st : St} {next : St → Prop} (h : stepD P o st next) : stepG P o st next := by
  obtain ⟨tm, hp, hn, n0⟩ := st
  have one : ∀ {tm}, stepAD P o.po o.op o.dst tm hp hn n0 next → stepA P o.op o.dst tm hp hn n0 next := by
    intro tm h
    have push : ∀ (f : FuncId) (args : List AV), CallsA P f args hp (fun r h' => Pushed o.po hp h' (putK o.dst r tm fun tm => next ⟨tm, h', h'.length, n0⟩)) → CallsA P f args hp (fun r h' => putK o.dst r tm fun tm => next ⟨tm, h', h'.length, n0⟩) := by
      intro f args hc
      refine ⟨hc.1, fun E cs H hlen ha => (hc.2 E cs H hlen ha).mono ?_⟩
      rintro e w' ⟨v, r, h', E', h1, h2, h3⟩
      refine ⟨v, r, h', E', h1, ?_, h3⟩
      cases hpo : o.po with
      | false => rw [hpo] at h2; exact h2
      | true => rw [hpo] at h2; exact h2.2
    cases hop : o.op with
    | call f args => rw [hop] at h; exact push f _ h
    | callv f args =>
      rw [hop] at h
      simp only [stepAD] at h
      simp only [stepA]
      split at h <;> try (exact h.elim)
      exact push _ _ h
    | _ =>
      rw [hop] at h
      simp only [stepAD] at h
      simp only [stepA]
      split at h <;> try (exact h.elim)
      rw [need_iff, lays_iff] at h
      rw [need_iff]
      exact ⟨h.1, h.2.2⟩
  unfold stepD at h
  unfold stepG
  simp only at *
  cases hg : o.guard with
  | none => rw [hg] at h; exact one h
  | some gw =>
    obtain ⟨g, want⟩ := gw
    rw [hg] at h
    simp only at *
    split at h <;> try (exact h.elim)
    rename_i b hb
    cases b <;> cases want <;> simp only [ifB] at * <;> first | exact one h | exact h

theorem befFrom_spec {ops : Array Oper} (hd : ∀ i, i < ops.size → ∀ k ∈ direct ops i, k < i) : ∀ (n : Nat) (acc : List Nat), acc.length + n = ops.size →
    (∀ i, i < acc.length → ∀ k, (acc.getD i 0).testBit k = true → k ∈ direct ops i ∨ ∃ m ∈ direct ops i, (acc.getD m 0).testBit k = true) →
    ∀ i, i < ops.size → ∀ k, ((befFrom ops n acc).getD i 0).testBit k = true → k ∈ direct ops i ∨ ∃ m ∈ direct ops i, ((befFrom ops n acc).getD m 0).testBit k = true
  | 0, acc, hn, h, i, hi => h i (by omega)
  | n + 1, acc, hn, h, i, hi => by
    refine befFrom_spec hd n _ (by simp; omega) (fun i hi k hk => ?_) i hi
    have fold : ∀ (l : List Nat) (s : Nat), (l.foldl (fun s k => s ||| 2 ^ k ||| acc.getD k 0) s).testBit k = true → s.testBit k = true ∨ k ∈ l ∨ ∃ m ∈ l, (acc.getD m 0).testBit k = true := by
      intro l
      induction l with
      | nil => intro s hs; exact .inl hs
      | cons x xs ih =>
        intro s hs
        rcases ih _ hs with h1 | h1 | ⟨m, hm, h1⟩
        · rw [Nat.testBit_or, Nat.testBit_or, Bool.or_eq_true, Bool.or_eq_true] at h1
          rcases h1 with (h1 | h1) | h1
          · exact .inl h1
          · rw [Nat.testBit_two_pow] at h1
            have : x = k := by simpa using h1
            exact .inr (.inl (by simp [this]))
          · exact .inr (.inr ⟨x, by simp, h1⟩)
        · exact .inr (.inl (by simp [h1]))
        · exact .inr (.inr ⟨m, by simp [hm], h1⟩)
    have low : ∀ m, m < acc.length → (acc ++ [(direct ops acc.length).foldl (fun s k => s ||| 2 ^ k ||| acc.getD k 0) 0]).getD m 0 = acc.getD m 0 := by
      intro m hm
      simp [List.getD, List.getElem?_append_left hm]
    simp only [List.length_append, List.length_cons, List.length_nil] at hi
    by_cases hlt : i < acc.length
    · rw [low i hlt] at hk
      rcases h i hlt k hk with h1 | ⟨m, hm, h1⟩
      · exact .inl h1
      · refine .inr ⟨m, hm, ?_⟩
        rw [low m (by have := hd i (by omega) m hm; omega)]; exact h1
    · have hie : i = acc.length := by omega
      subst hie
      have e : (acc ++ [(direct ops acc.length).foldl (fun s k => s ||| 2 ^ k ||| acc.getD k 0) 0]).getD acc.length 0 = (direct ops acc.length).foldl (fun s k => s ||| 2 ^ k ||| acc.getD k 0) 0 := by simp [List.getD]
      rw [e] at hk
      rcases fold _ 0 hk with h1 | h1 | ⟨m, hm, h1⟩
      · simp at h1
      · exact .inl h1
      · refine .inr ⟨m, hm, ?_⟩
        rw [low m (hd _ (by omega) m hm)]; exact h1

theorem pairs_spec {bef : List Nat} {l : List AOper} : ∀ {A : List Nat} {j : Nat} {B : List Nat}, pairsOK bef l (A ++ j :: B) = true →
    (∀ i ∈ A, (bef.getD j 0).testBit i = true ∨ ∃ a b, l[i]? = some a ∧ l[j]? = some b ∧ commute a b = true) ∧ pairsOK bef l (A ++ B) = true
  | [], j, B, h => by
    simp only [List.nil_append, pairsOK, Bool.and_eq_true] at h
    exact ⟨by simp, h.2⟩
  | x :: A, j, B, h => by
    simp only [List.cons_append, pairsOK, Bool.and_eq_true, List.all_eq_true] at h
    obtain ⟨h1, h2⟩ := h
    obtain ⟨i1, i2⟩ := pairs_spec h2
    refine ⟨fun i hi => ?_, ?_⟩
    · rcases List.mem_cons.1 hi with rfl | hi
      · have := h1 j (by simp)
        rw [Bool.or_eq_true] at this
        refine this.imp id fun hc => ?_
        split at hc
        · rename_i a b ha hb; exact ⟨a, b, ha, hb, hc⟩
        · cases hc
      · exact i1 i hi
    · simp only [List.cons_append, pairsOK, Bool.and_eq_true, List.all_eq_true]
      exact ⟨fun q hq => h1 q (by simp at hq ⊢; rcases hq with hq | hq <;> simp [hq]), i2⟩

theorem any_sound {N z : Nat} {ops : Array Oper} {aops : List AOper} {E0 : Env} {Q : Exit → Act → World → Prop} {K : St → Prop} (hK : Closed K) (hKQ : ∀ E st a, Ext E0 E → SRel E N z st a → K st → Q .normal a E.w)
    (hlen : aops.length = ops.size) (hops : ∀ (i : Nat) ao, aops[i]? = some ao → ∃ o b, ops[i]? = some o ∧ (cOper P N ops o).map (fun a => { a with po := b }) = some ao) (hd : ∀ i, i < ops.size → ∀ k ∈ direct ops i, k < i) :
    ∀ (fuel : Nat) (L : List Nat) (listed : Array Bool), L.length = fuel → L.Nodup → listed.size = ops.size → (∀ i, i < ops.size → (listed.getD i true = false ↔ i ∈ L)) → (∀ i ∈ L, i < ops.size) →
      (∀ i, i < ops.size → i ∉ L → ∀ m ∈ direct ops i, m ∉ L) → pairsOK (befAll ops) aops L = true →
      ∀ (E : Env) (st : St) (a : Act), Ext E0 E → SRel E N z st a → wpD P (L.filterMap (aops[·]?)) st K → wpAny P .any ops Q fuel listed a E.w := by
  intro fuel
  induction fuel with
  | zero =>
    intro L listed hl hnd hsz hli hlt hcl hp E st a X0 S h
    have hL : L = [] := List.eq_nil_of_length_eq_zero hl
    subst hL
    refine ⟨?_, hKQ E st a X0 S h⟩
    rw [List.eq_nil_iff_forall_not_mem]
    intro j hj
    obtain ⟨h1, o, ho, _⟩ := mem_ready.1 hj
    have hjs : j < ops.size := (Array.getElem?_eq_some_iff.1 ho).1
    have := (hli j hjs).1 h1
    simp at this
  | succ fuel ih =>
    intro L listed hl hnd hsz hli hlt hcl hp E st a X0 S h
    have dir : ∀ {j : Nat} {o : Oper}, ops[j]? = some o → ∀ m, m ∈ direct ops j ↔ ∃ e ∈ o.after, Region.binds .any e = true ∧ e.on = m := by
      intro j o ho m
      simp only [direct, ho, List.mem_map, List.mem_filter, Array.mem_toList_iff]
      constructor
      · rintro ⟨e, ⟨h1, h2⟩, h3⟩; exact ⟨e, h1, h2, h3⟩
      · rintro ⟨e, h1, h2, h3⟩; exact ⟨e, ⟨h1, h2⟩, h3⟩
    refine ⟨fun hnil => ?_, fun j hj => ?_⟩
    · exfalso
      -- the least one may come
      have hne : L ≠ [] := by rintro rfl; simp at hl
      have hex : ∃ i, i ∈ L ∧ ∀ k ∈ L, i ≤ k := by
        clear h hp hcl hli hnil
        induction L with
        | nil => exact absurd rfl hne
        | cons x xs ihx =>
          cases xs with
          | nil => exact ⟨x, by simp, by simp⟩
          | cons y ys =>
            obtain ⟨i, hi, hmin⟩ := (show ∃ i, i ∈ (y :: ys) ∧ ∀ k ∈ (y :: ys), i ≤ k by
              have : ∀ (l : List Nat), l ≠ [] → ∃ i, i ∈ l ∧ ∀ k ∈ l, i ≤ k := by
                intro l
                induction l with
                | nil => intro h; exact absurd rfl h
                | cons p ps ihp =>
                  intro _
                  cases ps with
                  | nil => exact ⟨p, by simp, by simp⟩
                  | cons q qs =>
                    obtain ⟨i, hi, hm⟩ := ihp (by simp)
                    by_cases hpi : p ≤ i
                    · exact ⟨p, by simp, fun k hk => by
                        rcases List.mem_cons.1 hk with rfl | hk
                        · exact Nat.le_refl _
                        · exact Nat.le_trans hpi (hm k hk)⟩
                    · exact ⟨i, by simp [hi], fun k hk => by
                        rcases List.mem_cons.1 hk with rfl | hk
                        · omega
                        · exact hm k hk⟩
              exact this _ (by simp))
            by_cases hxi : x ≤ i
            · exact ⟨x, by simp, fun k hk => by
                rcases List.mem_cons.1 hk with rfl | hk
                · exact Nat.le_refl _
                · exact Nat.le_trans hxi (hmin k hk)⟩
            · exact ⟨i, by simp [hi], fun k hk => by
                rcases List.mem_cons.1 hk with rfl | hk
                · omega
                · exact hmin k hk⟩
      obtain ⟨i, hi, hmin⟩ := hex
      have his := hlt i hi
      have hready : i ∈ Region.ready .any ops listed := by
        refine mem_ready.2 ⟨(hli i his).2 hi, ops[i], by simp [his], fun e he hb => ?_⟩
        have hmem : e.on ∈ direct ops i := (dir (by simp [his]) e.on).2 ⟨e, he, hb, rfl⟩
        have hlt' := hd i his e.on hmem
        have hno : e.on ∉ L := fun hh => by have := hmin e.on hh; omega
        have h3 := mt (hli e.on (by omega)).1 hno
        have : e.on < listed.size := by omega
        simp [Array.getD, this] at h3 ⊢
        exact h3
      rw [hnil] at hready
      cases hready
    · obtain ⟨h1, o, ho, hall⟩ := mem_ready.1 hj
      have hjs : j < ops.size := (Array.getElem?_eq_some_iff.1 ho).1
      have hjL := (hli j hjs).1 h1
      obtain ⟨A, B, rfl⟩ := List.append_of_mem hjL
      obtain ⟨p1, p2⟩ := pairs_spec hp
      have hdj : ∀ m ∈ direct ops j, m ∉ A ++ j :: B := by
        intro m hm hmL
        obtain ⟨e, he, hb, rfl⟩ := (dir ho m).1 hm
        have h2 := hall e he hb
        have hms := hlt _ hmL
        have h3 := (hli _ hms).2 hmL
        have : e.on < listed.size := by omega
        simp [Array.getD, this] at h2 h3
        rw [h2] at h3; cases h3
      have hbj : ∀ n, ∀ j, j < n → j < ops.size → (∀ m ∈ direct ops j, m ∉ A ++ j :: B) → True := fun _ _ _ _ _ => trivial
      clear hbj
      have closure : ∀ (n q : Nat), q < n → q < ops.size → (∀ m ∈ direct ops q, m ∉ A ++ j :: B) → ∀ k, ((befAll ops).getD q 0).testBit k = true → k ∉ A ++ j :: B := by
        intro n
        induction n with
        | zero => intro q hq; omega
        | succ n ihn =>
          intro q hqn hqs hdq k hk
          rcases befFrom_spec hd ops.size [] (by simp) (by intro i hi; simp at hi) q hqs k hk with h2 | ⟨m, hm, h2⟩
          · exact hdq k h2
          · have hmq := hd q hqs m hm
            exact ihn m (by omega) (by omega) (hcl m (by omega) (hdq m hm)) k h2
      have hjo : aops[j]? = some aops[j] := List.getElem?_eq_getElem (by omega)
      have hAcom : ∀ ai ∈ A.filterMap (aops[·]?), commute ai aops[j] = true := by
        intro ai hai
        obtain ⟨i, hi, hii⟩ := List.mem_filterMap.1 hai
        rcases p1 i hi with h2 | ⟨x, y, hx, hy, hc⟩
        · exact absurd (List.mem_append_left _ hi) (closure (j + 1) j (by omega) hjs hdj i h2)
        · rw [hii] at hx
          rw [hjo] at hy
          obtain rfl := Option.some.inj hx
          obtain rfl := Option.some.inj hy
          exact hc
      have hL : (A ++ j :: B).filterMap (aops[·]?) = A.filterMap (aops[·]?) ++ aops[j] :: B.filterMap (aops[·]?) := by
        rw [List.filterMap_append, List.filterMap_cons, hjo]
      rw [hL] at h
      have hb := bubble hK (A.filterMap (aops[·]?)) st hAcom h
      have hb' : stepD P aops[j] st fun st => wpD P (A.filterMap (aops[·]?) ++ B.filterMap (aops[·]?)) st K := hb
      obtain ⟨o', bb, ho', hco⟩ := hops j _ hjo
      rw [Option.map_eq_some_iff] at hco
      obtain ⟨ao0, hco, hbb⟩ := hco
      have hjA : j ∉ A ∧ j ∉ B := by
        rw [List.nodup_append] at hnd
        obtain ⟨n1, n2, n3⟩ := hnd
        rw [List.nodup_cons] at n2
        exact ⟨fun hh => n3 j hh j (by simp) rfl, n2.1⟩
      refine oper_sound (next := fun st => wpD P (A.filterMap (aops[·]?) ++ B.filterMap (aops[·]?)) st K) (fun E st a X S hh => ?_) ho' hco X0 S (by have := stepD_G hb'; rw [← hbb] at this; exact this)
      refine ih (A ++ B) (listed.setIfInBounds j true) (by simp at hl ⊢; omega) ?_ (by simpa using hsz) (fun i hi => ?_) (fun i hi => hlt i (by simp at hi ⊢; rcases hi with hi | hi <;> simp [hi])) (fun i hi hni m hm hmL => ?_) p2 E st a X S (by rw [List.filterMap_append]; exact hh)
      · rw [List.nodup_append] at hnd ⊢
        obtain ⟨n1, n2, n3⟩ := hnd
        rw [List.nodup_cons] at n2
        exact ⟨n1, n2.2, fun a ha b hb => n3 a ha b (by simp [hb])⟩
      · by_cases hij : j = i
        · subst hij
          have : j < listed.size := by omega
          simp [Array.getD, this, hjA.1, hjA.2]
        · have : (listed.setIfInBounds j true).getD i true = listed.getD i true := by
            simp [Array.getD_eq_getD_getElem?, Array.getElem?_setIfInBounds_ne hij]
          rw [this, hli i hi]
          simp only [List.mem_append, List.mem_cons]
          have : i ≠ j := fun h => hij h.symm
          simp [this]
      · by_cases hij : i = j
        · subst hij; exact hdj m hm (by simp at hmL ⊢; rcases hmL with hmL | hmL <;> simp [hmL])
        · exact hcl i hi (by simp at hni ⊢; exact ⟨hni.1, hij, hni.2⟩) m hm (by simp at hmL ⊢; rcases hmL with hmL | hmL <;> simp [hmL])

theorem nodupB_spec : ∀ {l : List Nat}, nodupB l = true → l.Nodup
  | [], _ => List.nodup_nil
  | x :: xs, h => by
    simp only [nodupB, Bool.and_eq_true, Bool.not_eq_true'] at h
    rw [List.nodup_cons]
    exact ⟨fun hx => by have := h.1; simp at this; exact this hx, nodupB_spec h.2⟩

theorem mapM_filterMap {α β : Type} {f : α → Option β} : ∀ {l : List α} {r : List β}, l.mapM f = some r → l.filterMap f = r
  | [], r, h => by simp at h; subst h; rfl
  | x :: l, r, h => by
    simp only [List.mapM_cons, Option.bind_eq_bind, Option.bind_eq_some_iff, Option.pure_def, Option.some.injEq] at h
    obtain ⟨y, hy, ys, hys, rfl⟩ := h
    rw [List.filterMap_cons, hy, mapM_filterMap hys]

theorem draw_sound {N z : Nat} {ops : Array Oper} {aops : List AOper} {E0 : Env} {Q : Exit → Act → World → Prop} {K : St → Prop} (hm : P.follows .mixedOrders = true) (hKQ : ∀ E st a, Ext E0 E → SRel E N z st a → K st → Q .normal a E.w)
    (hlen : aops.length = ops.size) (hops : ∀ (i : Nat) ao, aops[i]? = some ao → ∃ o b, ops[i]? = some o ∧ (cOper P N ops o).map (fun a => { a with po := b }) = some ao) {ord : List Nat} (hok : drawOK ops aops ord = true) {l' : List AOper}
    (hl' : ord.mapM (aops[·]?) = some l') {id : Nat} {E : Env} {st : St} {a : Act} (X0 : Ext E0 E) (S : SRel E N z st a) (h : wpD P l' st K) : (Code.region id ops true).wp P Q a E.w := by
  simp only [drawOK, Bool.and_eq_true, List.all_eq_true, List.mem_range, decide_eq_true_eq] at hok
  obtain ⟨⟨⟨⟨k1, k2⟩, k3⟩, k4⟩, k5⟩ := hok
  have hnd := nodupB_spec k3
  have hperm : ord.length = ops.size := by
    have h1 : ord.Perm (List.range ops.size) := by
      rw [List.perm_ext_iff_of_nodup hnd List.nodup_range]
      intro q
      rw [List.mem_range]
      exact ⟨fun hq => k1 q hq, fun hq => by have := k2 q hq; simpa using this⟩
    simpa using h1.length_eq
  let K' : St → Prop := fun st => ∃ st', StEq st' st ∧ K st'
  have hK' : Closed K' := fun a b hab ⟨st', h1, h2⟩ => ⟨st', h1.trans hab, h2⟩
  refine wp_region_any hm ?_
  have Sd : SRel E.drew N z st a := ⟨S.T.ext S.H.ext_drew S.H.frz, S.H.drew, S.hn, S.N, S.d, S.z⟩
  refine any_sound (P := P) (K := K') hK' (fun E st a X S ⟨st', h1, h2⟩ => hKQ E st' a X (StEq.srel S h1.symm) h2) hlen hops (fun i hi k hk => k4 i hi k hk) ops.size ord (Array.replicate ops.size false) hperm hnd (by simp)
    (fun i hi => ?_) (fun i hi => k1 i hi) (fun i hi hni => ?_) k5 E.drew st a (X0.trans S.H.ext_drew) Sd ?_
  · have := k2 i hi
    simp [Array.getD, hi]
    simpa using this
  · have := k2 i hi
    exact absurd (by simpa using this) hni
  · rw [mapM_filterMap hl']
    exact wpD_mono (fun st hst => ⟨st, StEq.refl st, hst⟩) l' st h

theorem wp_loop_n {c : Code} {Q : Exit → Act → World → Prop} {a : Act} {w : World} (I : Nat → Act → World → Prop) {n0 : Nat} (h₀ : I n0 a w)
    (round : ∀ n a w, I n a w → c.wp P (Exit.then (fun a' w' => ∃ m, m < n ∧ I m a' w') Q) a w) : (Code.loop c).wp P Q a w := by
  intro b k cs
  have key : ∀ n a w, I n a w → ∃ e a' w', Q e a' w' ∧ Arrives P (lone (b.at a (.code c :: .inLoop c :: k)) cs w) b k cs e a' w' := by
    intro n
    induction n using Nat.strongRecOn with
    | _ n ih =>
      intro a w hI
      obtain ⟨e, a₁, w₁, hq, harr⟩ := round n a w hI b (.inLoop c :: k) cs
      cases e with
      | normal =>
        obtain ⟨m, hlt, hI₁⟩ := hq
        obtain ⟨e₂, a₂, w₂, hq₂, harr₂⟩ := ih m hlt a₁ w₁ hI₁
        exact ⟨e₂, a₂, w₂, hq₂, .of_steps (Steps.trans harr (.one step_inLoop)) harr₂⟩
      | exit id => exact ⟨_, a₁, w₁, hq, .pass (x := .inLoop c) rfl (fun _ _ => .inl (by simp)) harr⟩
      | goto l => exact ⟨_, a₁, w₁, hq, .pass (x := .inLoop c) rfl (fun _ _ => .inl (by simp)) harr⟩
      | ret => exact ⟨_, a₁, w₁, hq, .pass (x := .inLoop c) rfl (fun _ _ => .inl (by simp)) harr⟩
      | panic ch => exact ⟨_, a₁, w₁, hq, .pass (x := .inLoop c) rfl (fun _ _ => .inl (by simp)) harr⟩
      | outgrown => exact ⟨_, a₁, w₁, hq, .pass (x := .inLoop c) rfl (fun _ _ => .inl (by simp)) harr⟩
  obtain ⟨e, a', w', hq, harr⟩ := key n0 a w h₀
  exact ⟨e, a', w', hq, .of_steps (.one step_loop) harr⟩

theorem look_norm {σ : Nat → Option Nat} {tm : List (Nat × AV)} : ∀ (live : List Nat) (t : Nat), look (live.map fun t => (t, ren2 σ (look tm t))) t = .undef ∨ look (live.map fun t => (t, ren2 σ (look tm t))) t = ren2 σ (look tm t)
  | [], _ => .inl rfl
  | l :: ls, t => by
    simp only [List.map_cons, look]
    split
    · rename_i hb
      rw [← Nat.eq_of_beq_eq_true hb]; exact .inr rfl
    · exact look_norm ls t

theorem SRel.norm {E E0 : Env} {N z : Nat} {st : St} {a : Act} (S : SRel E N z st a) (X0 : Ext E0 E) (h0 : E0.S.ρ.length = z) {live keep : List Nat} (hok : okKeep st.n0 st.hn keep = true) :
    SRel (E.gc st.n0 keep) N z (st.norm live keep) a ∧ Ext E0 (E.gc st.n0 keep) := by
  have h0 : E0.S.ρ.length = st.n0 := h0.trans S.z.symm
  have hl := S.H.len
  have hle : st.n0 ≤ st.hp.length := by
    rcases Nat.eq_zero_or_pos st.n0 with h | h
    · omega
    · have hlt : st.n0 - 1 < E0.S.ρ.length := by omega
      have := X0.rho _ _ (List.getElem?_eq_getElem hlt)
      have := (List.getElem?_eq_some_iff.1 this).1
      omega
  rw [S.hn] at hok
  have hk := okKeep_mem hok
  have hσ : ∀ b b', newNo st.n0 keep b = some b' → (E.S.gc st.n0 keep).ρ[b']? = E.S.ρ[b]? ∧ (E.S.gc st.n0 keep).sh[b']? = E.S.sh[b]? :=
    fun b b' hb => gc_get S.H.rlen (by omega) (by rw [hl]; exact hk) hb
  refine ⟨⟨fun t => ?_, S.H.gc hle hok, ?_, S.N, S.d, S.z⟩, X0.gc S.H h0 hok⟩
  · have := look_norm (σ := newNo st.n0 keep) (tm := st.tm) live t
    simp only [St.norm]
    rcases this with h | h <;> rw [h]
    · exact .undef ..
    · exact ren2_rel hσ (S.T t)
  · simp [St.norm, gcH]; omega

theorem lift_mono {E0 : Env} {N z : Nat} {Q Q' : AExit → St → Prop} (h : ∀ e st, Q e st → Q' e st) {e : Exit} {a : Act} {w : World} (hl : lift E0 N z Q e a w) : lift E0 N z Q' e a w := by
  cases e <;> first | exact hl.elim | (obtain ⟨E, st, h1, h2, h3, h4⟩ := hl; exact ⟨E, st, h1, h2, h3, h _ _ h4⟩)

theorem wpA_sound (hm : P.follows .mixedOrders = true) {N z : Nat} {E0 : Env} (h0 : E0.S.ρ.length = z) : ∀ {c : Code} {ac : ACode}, cCode P N c = some ac → ∀ {Q : AExit → St → Prop} {E : Env} {st : St} {a : Act}, Ext E0 E → SRel E N z st a →
    wpA P ac Q st → c.wp P (lift E0 N z Q) a E.w := by
  intro c
  induction c with
  | skip =>
    intro ac hc Q E st a X S h
    simp only [cCode, Option.some.injEq] at hc; subst hc
    exact wp_skip ⟨E, st, rfl, X, S, h⟩
  | region id ops draw =>
    intro ac hc Q E st a X S h
    simp only [cCode, Option.bind_eq_bind, Option.bind_eq_some_iff] at hc
    obtain ⟨l, hl, hc⟩ := hc
    obtain ⟨h1, h2⟩ := mapM_get hl
    cases draw with
    | true =>
      simp only [if_true, cDraw] at hc
      split at hc <;> try (cases hc; done)
      rename_i l' hl'
      have hops : ∀ (i : Nat) ao, (withPo l (poAll (befAll ops) l [] (canon ops l ops.size [])))[i]? = some ao → ∃ o b, ops[i]? = some o ∧ (cOper P N ops o).map (fun a => { a with po := b }) = some ao := by
        intro i ao hao
        simp only [withPo, List.getElem?_map, Option.map_eq_some_iff] at hao
        obtain ⟨⟨i', o'⟩, hz, rfl⟩ := hao
        rw [List.getElem?_zip_eq_some] at hz
        obtain ⟨hz1, hz2⟩ := hz
        have hlt : i < ops.size := by have := (List.getElem?_eq_some_iff.1 hz2).1; simp at h1; omega
        have hg : ops.toList[i]? = some ops[i] := by simp [hlt]
        exact ⟨ops[i], _, by simp [hlt], by rw [h2 i _ _ hg hz2]; rfl⟩
      split at hc <;> try (cases hc; done)
      rename_i hok
      obtain rfl := Option.some.inj hc
      simp only [wpA] at h
      exact draw_sound (E0 := E0) (K := Q .normal) hm (fun E st a X S hk => ⟨E, st, rfl, X, S, hk⟩) (by simpa [withPo] using h1) hops hok hl' X S h
    | false =>
      simp only [Bool.false_eq_true, if_false, Option.some.injEq] at hc
      subst hc
      simp only [wpA] at h
      refine wp_region (wpOps_sound (E0 := E0) (K := Q .normal) (fun E st a X S hk => ⟨E, st, rfl, X, S, hk⟩) (List.range ops.size) l (by simp [h1]) (fun q i ao hq hao => ?_) E st a X S h)
      have hlt : q < ops.size := by have := (List.getElem?_eq_some_iff.1 hq).1; simpa using this
      rw [List.getElem?_range hlt] at hq
      obtain rfl := Option.some.inj hq
      have hg : ops.toList[q]? = some ops[q] := by simp [hlt]
      exact ⟨ops[q], by simp [hlt], h2 q _ _ hg hao⟩
  | seq x y ihx ihy =>
    intro ac hc Q E st a X S h
    simp only [cCode, Option.bind_eq_bind, Option.bind_eq_some_iff, Option.pure_def, Option.some.injEq] at hc
    obtain ⟨ax, hx, ay, hy, rfl⟩ := hc
    simp only [wpA] at h
    refine wp_seq (wp_mono (ihx hx X S h) fun e a' w' hl => ?_)
    cases e with
    | normal =>
      obtain ⟨E', st', rfl, X', S', hq⟩ := hl
      exact ihy hy X' S' hq
    | exit id => exact hl
    | ret => exact hl
    | _ => exact hl.elim
  | cond x c1 c2 ih1 ih2 =>
    intro ac hc Q E st a X S h
    simp only [cCode, Option.bind_eq_bind, Option.bind_eq_some_iff, Option.pure_def, Option.some.injEq] at hc
    obtain ⟨x', hx, a1, h1, a2, h2, rfl⟩ := hc
    simp only [wpA] at h
    have hR := cOpd_rel S.T hx
    split at h <;> try (exact h.elim)
    rename_i t ht
    rw [ht] at hR
    cases t with
    | true => exact wp_cond_true (rel_bool hR) (ih1 h1 X S h)
    | false => exact wp_cond_false (rel_bool hR) (ih2 h2 X S h)
  | block id c ih =>
    intro ac hc Q E st a X S h
    simp only [cCode, Option.bind_eq_bind, Option.bind_eq_some_iff, Option.pure_def, Option.some.injEq] at hc
    obtain ⟨a1, h1, rfl⟩ := hc
    simp only [wpA] at h
    refine wp_block (wp_mono (ih h1 X S h) fun e a' w' hl => ?_)
    cases e with
    | normal => exact hl
    | exit id' =>
      obtain ⟨E', st', rfl, X', S', hq⟩ := hl
      simp only [Exit.inBlock]
      cases hb : Nat.beq id' id with
      | true =>
        simp only [hb] at hq
        rw [if_pos (Nat.eq_of_beq_eq_true hb)]
        exact ⟨E', st', rfl, X', S', hq⟩
      | false =>
        simp only [hb] at hq
        rw [if_neg (fun he => by subst he; simp at hb)]
        exact ⟨E', st', rfl, X', S', hq⟩
    | ret => exact hl
    | _ => exact hl.elim
  | loop c ih =>
    intro ac hc Q E st a X S h
    simp only [cCode, Option.bind_eq_bind, Option.bind_eq_some_iff, Option.pure_def, Option.some.injEq] at hc
    obtain ⟨a1, h1, rfl⟩ := hc
    simp only [wpA] at h
    obtain ⟨I, ⟨n, live, keep, hok, hI⟩, hround⟩ := h
    obtain ⟨S', X'⟩ := S.norm X h0 (live := live) hok
    refine wp_loop_n (fun n a w => ∃ E st, E.w = w ∧ Ext E0 E ∧ SRel E N z st a ∧ I n st) (n0 := n) ⟨_, _, rfl, X', S', hI⟩ ?_
    rintro n a' w' ⟨E', st', rfl, X', S', hI⟩
    refine wp_mono (ih h1 X' S' (hround n st' hI)) fun e a2 w2 hl => ?_
    cases e with
    | normal =>
      obtain ⟨E2, st2, rfl, X2, S2, m, live, keep, hlt, hok, hI2⟩ := hl
      obtain ⟨S3, X3⟩ := S2.norm X2 h0 (live := live) hok
      exact ⟨m, hlt, E2.gc st2.n0 keep, st2.norm live keep, rfl, X3, S3, hI2⟩
    | exit id => exact hl
    | ret => exact hl
    | _ => exact hl.elim
  | exit id =>
    intro ac hc Q E st a X S h
    simp only [cCode, Option.some.injEq] at hc; subst hc
    exact wp_exit ⟨E, st, rfl, X, S, h⟩
  | ret =>
    intro ac hc Q E st a X S h
    simp only [cCode, Option.some.injEq] at hc; subst hc
    exact wp_ret ⟨E, st, rfl, X, S, h⟩
  | _ => intro ac hc; simp [cCode] at hc

/-! ### A function, entered -/

def resV (tm : List (Nat × AV)) (hp : AHeap) : ARes → Option AV
  | .tmp t => some (look tm t)
  | .cell a n => match readAt hp (look tm a) n with
    | some (true, l) => some (.agg l)
    | _ => none

def resVs (tm : List (Nat × AV)) (hp : AHeap) : List ARes → Option (List AV)
  | [] => some []
  | r :: rs => match resV tm hp r with
    | some v => match resVs tm hp rs with
      | some vs => some (v :: vs)
      | none => none
    | none => none

def tupV : List AV → AV
  | [v] => v
  | vs => .tup vs

/-- What a function hands back: its results, with what is left of the heap. -/
def finA (res : List ARes) (R : AV → AHeap → Prop) (e : AExit) (st : St) : Prop :=
  match e with
  | .exit _ => False
  | _ => match resVs st.tm st.hp res with
    | some vs => ∃ keep, okKeep st.n0 st.hn keep = true ∧ R (ren2 (newNo st.n0 keep) (tupV vs)) (gcH st.n0 keep st.hp)
    | none => False

def argsTm : Nat → List AV → List (Nat × AV)
  | _, [] => []
  | i, v :: vs => (i, v) :: argsTm (i + 1) vs

/-- A function's body from its arguments. -/
def bodyA (P : Program) (fn : AFn) (args : List AV) (h : AHeap) (R : AV → AHeap → Prop) : Prop :=
  wpA P fn.code (finA fn.res R) ⟨argsTm 0 args, h, h.length, h.length⟩

theorem look_args : ∀ (vs : List AV) (i t : Nat), look (argsTm i vs) t = if i ≤ t then (vs[t - i]?).getD .undef else .undef
  | [], i, t => by simp [argsTm, look]
  | v :: vs, i, t => by
    simp only [argsTm, look]
    split
    · rename_i hb
      obtain rfl := Nat.eq_of_beq_eq_true hb
      simp
    · rename_i hb
      rw [look_args vs (i + 1) t]
      have hne : i ≠ t := fun he => by subst he; simp at hb
      by_cases h1 : i + 1 ≤ t
      · rw [if_pos h1, if_pos (by omega), show t - i = t - (i + 1) + 1 by omega]; simp
      · rw [if_neg h1, if_neg (by omega)]

def resSem (tmps : Array Value) : ResultVar → Sem Value
  | .tmp t => pure (tmps.getD t undef)
  | .cell a t => do loadVar t (← asAddr (tmps.getD a undef))

theorem results_eq (fn : Func) (tmps : Array Value) : results fn tmps = (do
    let vs ← fn.results.mapM (resSem tmps)
    pure (if h : vs.size = 1 then vs[0] else .tuple vs)) := rfl

theorem resVs_sound {E : Env} {tm : List (Nat × AV)} {hp : AHeap} {a : Act} (T : TRel E tm a) (H : HRel E hp) : ∀ {rs : List ResultVar} {ars : List ARes},
    (rs.mapM fun | .tmp t => some (.tmp t) | .cell a t => do
      let s ← sizeB P t
      if (← isAggB P t) then pure (.cell a s) else none) = some ars → ∀ {vs : List AV}, resVs tm hp ars = some vs →
    ∃ us : List Value, (rs.mapM (resSem a.tmps)).run P E.w = .ok us E.w ∧ Bes E vs us
  | [], ars, hm, vs, hv => by
    simp at hm; subst hm
    simp [resVs] at hv; subst hv
    exact ⟨[], by simp, rfl, by simp⟩
  | r :: rs, ars, hm, vs, hv => by
    rw [List.mapM_cons] at hm
    simp only [Option.bind_eq_bind, Option.bind_eq_some_iff, Option.pure_def, Option.some.injEq] at hm
    obtain ⟨ar, har, ars', hars, rfl⟩ := hm
    simp only [resVs] at hv
    split at hv <;> try (cases hv; done)
    rename_i v hv1
    split at hv <;> try (cases hv; done)
    rename_i vs' hvs
    obtain rfl := Option.some.inj hv
    obtain ⟨us, h1, h2⟩ := resVs_sound T H hars hvs
    have one : ∃ u, (resSem a.tmps r).run P E.w = .ok u E.w ∧ E.R v u := by
      cases r with
      | tmp t =>
        simp only [Option.some.injEq] at har
        subst har
        simp only [resV, Option.some.injEq] at hv1
        subst hv1
        exact ⟨_, rfl, T t⟩
      | cell x t =>
        simp only [Option.bind_eq_some_iff] at har
        obtain ⟨s, hs, g, hg, har⟩ := har
        split at har <;> try (cases har; done)
        rename_i hgt
        subst hgt
        obtain rfl := Option.some.inj har
        simp only [resV] at hv1
        split at hv1 <;> try (cases hv1; done)
        rename_i l hr
        obtain rfl := Option.some.inj hv1
        obtain ⟨ad, ws, e1, e2, e3, e4, e5⟩ := readAt_sound H (T x) hr
        have := run_loadCells_list (P := P) E.w ad ws e4
        rw [e2] at this
        refine ⟨.agg ws.toArray, ?_, agg_rel ⟨by simp [e3, e2], by simpa using e5⟩⟩
        simp only [resSem, e1, asAddr, Sem.run_bind, Sem.run_pure, Result.andThen_ok, loadVar, run_isAgg' hg, run_sizeOf' hs, this, if_true]
    obtain ⟨u, g1, g2⟩ := one
    refine ⟨u :: us, ?_, by simp [h2.1], fun q x y hx hy => ?_⟩
    · rw [List.mapM_cons, Sem.run_bind, g1, Result.andThen_ok, Sem.run_bind, h1, Result.andThen_ok, Sem.run_pure]
    · cases q with
      | zero => simp only [List.getElem?_cons_zero, Option.some.injEq] at hx hy; subst hx hy; exact g2
      | succ q => exact h2.2 q x y (by simpa using hx) (by simpa using hy)

theorem CallsA.enter (hm : P.follows .mixedOrders = true) {f : FuncId} {fn : Func} (hf : P.funcs[f]? = some fn) (hname : fn.name ≠ "runtime.NumGoroutine") {afn : AFn} (hc : cFn P fn = some afn) {args : List AV} (hn : Nat.ble args.length fn.ntmps = true) {h : AHeap}
    {R : AV → AHeap → Prop} (hb : bodyA P afn args h R) : CallsA P f args h R := by
  have hn := Nat.le_of_ble_eq_true hn
  unfold cFn at hc
  simp only [Option.bind_eq_bind, Option.bind_eq_some_iff, Option.pure_def] at hc
  obtain ⟨b, hbody, code, hcode, res, hres, hc⟩ := hc
  split at hc <;> try (cases hc; done)
  obtain rfl := Option.some.inj hc
  refine ⟨⟨fn, hf, by rw [hbody]; rfl, hname⟩, fun E cs H hlen hargs => ?_⟩
  have hS : SRel E fn.ntmps h.length ⟨argsTm 0 args, h, h.length, h.length⟩ { tmps := cs ++ Array.replicate (fn.ntmps - cs.size) undef, defers := [] } := by
    refine ⟨fun t => ?_, H, rfl, by simp; omega, rfl, rfl⟩
    rw [look_args]
    simp only [Nat.zero_le, if_true, Nat.sub_zero]
    cases ha : args[t]? with
    | none => exact .undef ..
    | some x =>
      have hlt : t < cs.size := by have := (List.getElem?_eq_some_iff.1 ha).1; omega
      have := hargs t x cs[t] ha (Array.getElem?_eq_getElem hlt)
      simpa [Array.getD_eq_getD_getElem?, Array.getElem?_append_left hlt, hlt] using this
  refine calls_of_wp hf hbody (wp_mono (wpA_sound hm (E0 := E) (z := h.length) H.len hcode H.ext_refl hS hb) fun e a' w' hl => ?_)
  have key : ∀ {e : AExit} {E' : Env} {st : St}, E'.w = w' → Ext E E' → SRel E' fn.ntmps h.length st a' → finA res R e st → a'.defers = [] ∧ ∃ v, (results fn a'.tmps).run P w' = .ok v w' ∧
      ∃ v' r h' E', Ending.returned v = .returned v' ∧ R r h' ∧ E'.w = w' ∧ Ext E E' ∧ HRel E' h' ∧ E'.R r v' := by
    rintro e E' st rfl X S hfin
    refine ⟨S.d, ?_⟩
    have hfin' : ∃ vs, resVs st.tm st.hp res = some vs ∧ ∃ keep, okKeep st.n0 st.hn keep = true ∧ R (ren2 (newNo st.n0 keep) (tupV vs)) (gcH st.n0 keep st.hp) := by
      unfold finA at hfin
      split at hfin
      · exact hfin.elim
      · split at hfin
        · rename_i vs hvs; exact ⟨vs, hvs, hfin⟩
        · exact hfin.elim
    obtain ⟨vs, hvs, keep, hok, hR⟩ := hfin'
    obtain ⟨us, h1, h2⟩ := resVs_sound (P := P) S.T S.H (rs := fn.results.toList) hres hvs
    have hz := S.z
    obtain ⟨S3, X3⟩ := S.norm X (h0 := H.len) (live := []) (keep := keep) hok
    have hlen3 : (tupV vs) = (if hh : vs.length = 1 then vs[0] else .tup vs) := by
      unfold tupV
      split
      · simp
      · rename_i hne
        rw [dif_neg]
        intro hh
        match vs, hh with
        | [v], _ => exact hne v rfl
    refine ⟨if hh : us.toArray.size = 1 then us.toArray[0] else .tuple us.toArray, ?_, _, _, _, E'.gc st.n0 keep, rfl, hR, rfl, X3, S3.H, ?_⟩
    · rw [results_eq, Sem.run_bind, Array.mapM_eq_mapM_toList, Sem.run_map]
      rw [h1]
      rfl
    · have hl := S.H.len
      rw [S.hn] at hok
      have hk := okKeep_mem hok
      have hle : st.n0 ≤ st.hp.length := by
        rw [hz, ← hl, ← H.len]
        rcases Nat.eq_zero_or_pos E.S.ρ.length with h | h
        · omega
        · have := X.rho _ _ (List.getElem?_eq_getElem (show E.S.ρ.length - 1 < E.S.ρ.length by omega))
          have := (List.getElem?_eq_some_iff.1 this).1
          omega
      have hσ : ∀ b b', newNo st.n0 keep b = some b' → (E'.S.gc st.n0 keep).ρ[b']? = E'.S.ρ[b]? ∧ (E'.S.gc st.n0 keep).sh[b']? = E'.S.sh[b]? :=
        fun b b' hb => gc_get S.H.rlen (by omega) (by rw [hl]; exact hk) hb
      refine ren2_rel hσ ?_
      rw [hlen3]
      by_cases h1' : vs.length = 1
      · rw [dif_pos h1', dif_pos (by simp; rw [← h2.1]; exact h1')]
        refine h2.2 0 _ _ (List.getElem?_eq_getElem (by omega)) ?_
        simp
      · rw [dif_neg h1', dif_neg (by simp; rw [← h2.1]; exact h1')]
        exact .tup _ _ _ (by simp [h2.1]) fun i c v hc hv => h2.2 i c v hc (by simpa using hv)
  cases e with
  | normal => obtain ⟨E', st, h1, h2, h3, h4⟩ := hl; exact key h1 h2 h3 h4
  | ret => obtain ⟨E', st, h1, h2, h3, h4⟩ := hl; exact key h1 h2 h3 h4
  | exit id => obtain ⟨E', st, h1, h2, h3, h4⟩ := hl; exact h4.elim
  | _ => exact hl.elim

end Go.AL
