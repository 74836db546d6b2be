/- One operation of the machine, by the abstract one. Seat-independent. -/
import Derived.Test.YtdjnndcdplgojaaAL17
import Derived.Orders
namespace Go.AL
variable {P : Program}

/-- The machine's frame and world are as the abstract state tells. -/
structure SRel (E : Env) (N z : Nat) (st : St) (a : Act) : Prop where
  T : TRel E st.tm a
  H : HRel E st.hp
  hn : st.hn = st.hp.length
  NG : N ≤ G
  N : a.tmps.size = N
  z : st.n0 = z

theorem ifB_of {b : Bool} {A B : Prop} (h1 : b = true → A) (h2 : b = false → B) : ifB b A B :=
  match b, h1, h2 with
  | true, h1, _ => h1 rfl
  | false, _, h2 => h2 rfl

theorem HRel.world {E : Env} {h : AHeap} (H : HRel E h) {w' : World} (hs : E.w.heap.size ≤ w'.heap.size) (hown : ∀ b, E.S.own b → w'.heap[b]? = E.w.heap[b]?) (hF : ∀ b, E.F b → w'.heap[b]? = E.w.heap[b]?)
    (hc : ∀ (b : Nat) c e f, E.w.heap[b]? = some (Obj.cells c e f) → ∃ c' e' f', w'.heap[b]? = some (Obj.cells c' e' f') ∧ c'.size = c.size ∧ e' = e) : HRel { E with w := w' } h := by
  refine ⟨H.sh, H.len, fun k b hk => ?_, H.inj, fun b hb => Nat.lt_of_lt_of_le (H.frz b hb) hs⟩
  obtain ⟨h0, cb, base, c, e, g1, g2, g3, g4, g5⟩ := H.blk k b hk
  refine ⟨h0, cb, base, c, e, g1, ?_, g3, g4, fun i j x hx => ?_⟩
  · exact (hown cb (H.own_of hk g1)).trans g2
  · obtain ⟨v, hv, hR⟩ := g5 i j x hx
    exact ⟨v, hv, Rel.mono (fun _ h => h) (fun b _ hb => cell_of_heap (hF b hb) _ _) hR _ (fun _ _ h => h) (fun _ _ _ _ h => h) hc⟩

theorem Rel.world {E : Env} {w' : World} (hF : ∀ b, E.F b → w'.heap[b]? = E.w.heap[b]?)
    (hc : ∀ (b : Nat) c e f, E.w.heap[b]? = some (Obj.cells c e f) → ∃ c' e' f', w'.heap[b]? = some (Obj.cells c' e' f') ∧ c'.size = c.size ∧ e' = e) {S : Shp} {x : AV} {v : Value} (h : Go.AL.Rel E.w E.F S x v) : Go.AL.Rel w' E.F S x v :=
  Rel.mono (fun _ h => h) (fun b _ hb => cell_of_heap (hF b hb) _ _) h _ (fun _ _ h => h) (fun _ _ _ _ h => h) hc

theorem TRel.put {E : Env} {tm : List (Nat × AV)} {a : Act} (T : TRel E tm a) {dst : Option Nat} {v : AV} {u : Value} (hv : E.R v u) (hd : ∀ d, dst = some d → d < a.tmps.size) : TRel E (putD dst v tm) (a.put dst u) := by
  intro t
  rw [look_putD]
  cases dst with
  | none => simpa [Act.put] using T t
  | some d =>
    have hlt := hd d rfl
    simp only [Act.put, Option.some.injEq]
    by_cases h : d = t
    · subst h
      rw [if_pos rfl]
      simpa [Array.getD, hlt] using hv
    · rw [if_neg h]
      have := T t
      simpa [Array.getElem?_setIfInBounds_ne h, Array.getD_eq_getD_getElem?] using this

theorem TRel.same {E : Env} {tm : List (Nat × AV)} {a : Act} (T : TRel E tm a) {g : Nat} {v : AV} (hg : look tm g = v) : TRel E ((g, v) :: tm) a := by
  intro t
  simp only [look]
  split
  · rename_i hb
    rw [← Nat.eq_of_beq_eq_true hb, ← hg]; exact T g
  · exact T t

theorem put_size (a : Act) (dst : Option Nat) (v : Value) : (a.put dst v).tmps.size = a.tmps.size := by cases dst <;> simp [Act.put]
theorem put_defers (a : Act) (dst : Option Nat) (v : Value) : (a.put dst v).defers = a.defers := by cases dst <;> rfl

theorem SRel.put {E E' : Env} {N z : Nat} {tm : List (Nat × AV)} {hp : AHeap} {hn n0 : Nat} {a : Act} (S : SRel E N z ⟨tm, hp, hn, n0⟩ a) (X : Ext E E') {hp' : AHeap} (H' : HRel E' hp') {hn' : Nat} (hl : hn' = hp'.length)
    {dst : Option Nat} {v : AV} {u : Value} (hv : E'.R v u) (hd : dst.all (· < N) = true) : SRel E' N z ⟨putD dst v tm, hp', hn', n0⟩ (a.put dst u) := by
  refine ⟨(S.T.ext X S.H.frz).put hv fun d hdd => ?_, H', hl, S.NG, by rw [put_size]; exact S.N, S.z⟩
  subst hdd
  rw [S.N]
  simpa using hd

theorem yielded_of {E : Env} {ops : Array Oper} {tm : List (Nat × AV)} {a : Act} (T : TRel E tm a) {j t : Nat} (hj : (ops[j]?).bind (·.dst) = some t) {b : Bool} (hb : look tm t = .bool b) :
    yielded ops a.tmps j = some b := by
  have := T t
  rw [hb] at this
  have h1 := rel_bool this
  unfold yielded
  rw [hj]
  simp only [Option.bind_some]
  have : a.tmps[t]? = some (.bool b) := by
    rcases Nat.lt_or_ge t a.tmps.size with h | h
    · rw [Array.getElem?_eq_getElem h]
      simp [Array.getD, h] at h1
      rw [h1]
    · simp [Array.getD, Nat.not_lt.2 h, undef] at h1
  rw [this]

theorem run_callFunc {f : FuncId} (he : Enters P f) (args : Array Value) (w : World) : (callFunc f args).run P w = .ok (.enter f args) w := by
  obtain ⟨fn, h1, h2, h3⟩ := he
  have h4 : fn.body.isNone = false := by cases hb : fn.body <;> simp_all
  have h5 : fn.body ≠ none := by cases hb : fn.body <;> simp_all
  simp [callFunc, h1, h3, h5]

/-- A fence that lets all by. -/
def Fr (r : Option Nat) : Fence := { Fence.wide with round := r }

theorem Fr.room (r : Option Nat) (k : Nat) : (Fr r).room k := fun _ h => by simp [Fr, Fence.wide] at h

theorem callsIn_Fr {r : Option Nat} {n : Nat} {f : FuncId} {args : Array Value} {w : World} {R : Ending → World → Prop} (h : Calls P f args w R) : CallsIn (Fr r) n P f args w R :=
  (callsIn_wide.2 h : CallsIn Fence.wide n P f args w R)

theorem calls_Fr {n : Nat} {f : FuncId} {args : Array Value} {w : World} {R : Ending → World → Prop} (h : CallsIn (Fr none) n P f args w R) : Calls P f args w R :=
  callsIn_wide.1 (show CallsIn Fence.wide n P f args w R from h)

theorem roundIn_Fr {r : Option Nat} {n l : Nat} {f : FuncId} {tmps : Array Value} {assign body : Code} {w : World} {R : Ending → World → Prop} (h : RoundIn Fence.wide n P l f tmps assign body w R) :
    RoundIn (Fr r) n P l f tmps assign body w R := h

/-- A mark among the deferred calls. -/
def mark (D : Nat) : Deferred := { target := .collected D, args := #[] }

def Mk (r : Option Nat) (O F : Nat → Prop) (w : World) (ds : List Deferred) : Prop := ∃ Ds : List Nat, ds = Ds.map mark ∧ Ds.Nodup ∧ (r ≠ none → Ds = []) ∧ ∀ D ∈ Ds, O D ∧ ¬ F D ∧ w.heap[D]? = some (.deferred (some []))

theorem Mk.nil (r : Option Nat) (O F : Nat → Prop) (w : World) : Mk r O F w [] := ⟨[], rfl, List.nodup_nil, fun _ => rfl, by simp⟩

/-- What is so at each moment of a walk. -/
structure Lf (r : Option Nat) (S0 : Shp) (K : KP) (N z : Nat) (O : Nat → Prop) (E : Env) (st : St) (a : Act) : Prop where
  X : ShpExt S0 E.S
  own : ∀ b, E.S.own b → O b
  k : K (ghostOf st.tm) O E.F E.w
  m : Mk r O E.F E.w a.defers
  S : SRel E N z st a

theorem HRel.le {E : Env} {h h' : AHeap} (H : HRel E h) (hl : h.length = h'.length) (hp : ∀ (k : Nat) x y, h[k]? = some x → h'[k]? = some y → oleB x y) : HRel E h' := by
  have back : ∀ (k : Nat) b, h'[k]? = some (some b) → ∃ b0, h[k]? = some (some b0) ∧ b0.le b := by
    intro k b hk
    have hlt : k < h.length := by rw [hl]; exact (List.getElem?_eq_some_iff.1 hk).1
    have h1 := hp k h[k] (some b) (List.getElem?_eq_getElem hlt) hk
    cases hb : h[k] with
    | none => rw [hb] at h1; exact h1.elim
    | some b0 => rw [hb] at h1; exact ⟨b0, by rw [List.getElem?_eq_getElem hlt, hb], h1⟩
  have shape : ∀ {b b' : ABlk}, b.le b' → b.shape = b'.shape := by
    intro b b' hle
    cases b <;> cases b' <;> first | (simp only [ABlk.shape]; rw [hle.1]) | (cases hle; rfl) | cases hle
  refine ⟨?_, by rw [H.len, hl], fun k b hk => ?_, fun k k' b b' cb base base' h1 h2 h3 h4 => ?_, H.frz⟩
  · rw [H.sh]
    apply List.ext_getElem?
    intro k
    rw [List.getElem?_map, List.getElem?_map]
    by_cases hk : k < h.length
    · have hk' : k < h'.length := by omega
      rw [List.getElem?_eq_getElem hk, List.getElem?_eq_getElem hk']
      have h1 := hp k h[k] h'[k] (List.getElem?_eq_getElem hk) (List.getElem?_eq_getElem hk')
      generalize h[k] = x at h1
      generalize h'[k] = y at h1
      match x, y, h1 with
      | none, none, _ => rfl
      | some b, some b', h1 => simp [shape (show b.le b' from h1)]
    · rw [List.getElem?_eq_none (by omega), List.getElem?_eq_none (by omega)]
  · obtain ⟨b0, h0, hle⟩ := back k b hk
    obtain ⟨g0, cb, base, c, e, g1, g2, g3, g4, g5⟩ := H.blk k b0 h0
    cases b0 with
    | box cs =>
      cases b with
      | box ds =>
        refine ⟨trivial, cb, base, c, e, g1, g2, g3, by rw [ABlk.room_of rfl, ← shape hle]; exact g4, fun i j x hx => ?_⟩
        simp only [ABlk.cell] at hx
        split at hx <;> try (cases hx; done)
        rename_i hi
        subst hi
        have hj : j < cs.length := by rw [hle.1]; exact (List.getElem?_eq_some_iff.1 hx).1
        obtain ⟨v, hv, hR⟩ := g5 0 j cs[j] (by simp [ABlk.cell, hj])
        rw [shape hle] at hv
        exact ⟨v, hv, hle.2 j _ x (List.getElem?_eq_getElem hj) hx _ _ _ _ hR⟩
      | ia => cases hle
      | arr => cases hle
      | mp => cases hle
    | mp => cases b <;> first | (cases hle; exact ⟨g0, cb, base, c, e, g1, g2, g3, g4, g5⟩) | cases hle
    | ia => cases b <;> first | (cases hle; exact ⟨g0, cb, base, c, e, g1, g2, g3, g4, g5⟩) | cases hle
    | arr => cases b <;> first | (cases hle; exact ⟨g0, cb, base, c, e, g1, g2, g3, g4, g5⟩) | cases hle
  · obtain ⟨c1, d1, _⟩ := back k b h1
    obtain ⟨c2, d2, _⟩ := back k' b' h2
    exact H.inj k k' c1 c2 cb base base' d1 d2 h3 h4

theorem Lf.le {r : Option Nat} {S0 : Shp} {K : KP} {N z : Nat} {O : Nat → Prop} {E : Env} {st st' : St} {a : Act} (L : Lf r S0 K N z O E st a) (hle : st.le st') : Lf r S0 K N z O E st' a where
  X := L.X
  own := L.own
  k := by
    have : ghostOf st'.tm = ghostOf st.tm := by unfold ghostOf; rw [hle.g]
    rw [this]; exact L.k
  m := L.m
  S := ⟨fun t => hle.tm t _ _ _ _ (L.S.T t), L.S.H.le hle.hl hle.hp, by rw [← hle.hn, L.S.hn, hle.hl], L.S.NG, L.S.N, by rw [← hle.n0]; exact L.S.z⟩

/-- From one moment to the next: what lies beside the own blocks. -/
structure Stp (O : Nat → Prop) (E : Env) (O' : Nat → Prop) (E' : Env) : Prop where
  size : E.w.heap.size ≤ E'.w.heap.size
  same : ∀ b : Nat, b < E.w.heap.size → O b → ¬ E.S.own b → E'.w.heap[b]? = E.w.heap[b]?
  own : ∀ b, E'.S.own b → E.S.own b ∨ E.w.heap.size ≤ b
  nf : ∀ b, E'.F b → E.F b ∨ E.S.own b ∨ E.w.heap.size ≤ b
  more : ∀ b, O b → O' b

theorem Ext.stp {E E' : Env} (Y : Ext E E') (O : Nat → Prop) : Stp O E (fun b => O b ∨ (E.w.heap.size ≤ b ∧ b < E'.w.heap.size)) E' :=
  ⟨Y.size, fun b hb _ hn => Y.same b hb hn, Y.own, Y.nfrz, fun _ h => .inl h⟩

/-- What the walk leans on. -/
structure Ctx (P : Program) (r : Option Nat) (K : KP) : Prop where
  step : KStep K
  yield : Yields P K
  record : ∀ l, r = some l → ∀ {g O F w}, K g O F w → ∃ r₀, w.heap[l]? = some (.loop r₀)
  tab : ∀ g O F w, K g O F w → TabW P F w

theorem HRel.own_cells {E : Env} {h : AHeap} (H : HRel E h) {b : Nat} (hb : E.S.own b) : (∃ c e f, E.w.heap[b]? = some (Obj.cells c e f)) ∨ ∃ es e, E.w.heap[b]? = some (Obj.map es e) := by
  obtain ⟨k, base, p, h1, h2⟩ := hb
  obtain ⟨bk, hk, _⟩ := H.live.1 h2
  obtain ⟨_, cb, base', c, e, g1, g2, _⟩ := H.blk k bk hk
  rw [h1] at g1
  obtain ⟨rfl, rfl⟩ := Prod.mk.inj (Option.some.inj g1)
  rcases bk.obj_cases c e with h | ⟨es, h⟩ <;> rw [h] at g2
  · exact .inl ⟨c, e, _, g2⟩
  · exact .inr ⟨es, e, g2⟩

theorem Ext.wx {E E' : Env} {h : AHeap} (Y : Ext E E') (H : HRel E h) {O : Nat → Prop} (ho : ∀ b, E.S.own b → O b) : WX (fun b => O b ∧ ¬ E.F b) E.w E'.w :=
  ⟨Y.os, Y.tape, Y.output, Y.size, fun b hb hn => Y.same b hb fun hown => hn ⟨ho b hown, fun hf => H.off b hf hown⟩, Y.cap, Y.mcap⟩

theorem Mk.ext {E E' : Env} {h : AHeap} (Y : Ext E E') (H : HRel E h) {O : Nat → Prop} {r : Option Nat} {ds : List Deferred} (M : Mk r O E.F E.w ds) : Mk r (fun b => O b ∨ (E.w.heap.size ≤ b ∧ b < E'.w.heap.size)) E'.F E'.w ds := by
  obtain ⟨Ds, rfl, h1, hr, h2⟩ := M
  refine ⟨Ds, rfl, h1, hr, fun D hD => ?_⟩
  obtain ⟨g1, g2, g3⟩ := h2 D hD
  have hlt : D < E.w.heap.size := (Array.getElem?_eq_some_iff.1 g3).1
  have hno : ¬ E.S.own D := fun ho => by
    rcases H.own_cells ho with ⟨c, e, f, hc⟩ | ⟨es, e, hc⟩ <;> (rw [g3] at hc; cases hc)
  refine ⟨.inl g1, fun hf => ?_, by rw [Y.same D hlt hno]; exact g3⟩
  rcases Y.nfrz D hf with h | h | h
  · exact g2 h
  · exact hno h
  · omega

theorem Lf.ext {r : Option Nat} {S0 : Shp} {K : KP} {N z : Nat} {O : Nat → Prop} {E E' : Env} {st st' : St} {a a' : Act} (L : Lf r S0 K N z O E st a) (hK : KStep K) (Y : Ext E E') (S' : SRel E' N z st' a')
    (hg : ghostOf st'.tm = ghostOf st.tm) (hd : a'.defers = a.defers) : Lf r S0 K N z (fun b => O b ∨ (E.w.heap.size ≤ b ∧ b < E'.w.heap.size)) E' st' a' where
  X := L.X.ext Y
  own b hb := (Y.own b hb).imp (L.own b) fun h => ⟨h, S'.H.own_lt hb⟩
  k := by
    rw [hg]
    exact hK.step L.k (Y.wx L.S.H L.own) (fun b h => h) Y.frz fun b hb => (Y.nfrz b hb).imp id fun h => h.imp (L.own b) fun h => ⟨h, S'.H.frz b hb⟩
  m := by rw [hd]; exact L.m.ext Y L.S.H
  S := S'

/-- What holds behind an abstract exit, of the machine. -/
def lift (r : Option Nat) (S0 : Shp) (K : KP) (N z : Nat) (Q : AExit → St → Prop) : Exit → Act → World → Prop
  | .normal, a, w => ∃ O E st, E.w = w ∧ Lf r S0 K N z O E st a ∧ Q .normal st
  | .exit id, a, w => ∃ O E st, E.w = w ∧ Lf r S0 K N z O E st a ∧ Q (.exit id) st
  | .ret, a, w => ∃ O E st, E.w = w ∧ Lf r S0 K N z O E st a ∧ Q .ret st
  | _, _, _ => False

theorem ghost_put {dst : Option Nat} {v : AV} {tm : List (Nat × AV)} {N : Nat} (hd : dst.all (· < N) = true) (hN : N ≤ G) : ghostOf (putD dst v tm) = ghostOf tm := by
  unfold ghostOf
  rw [look_putD, if_neg]
  rintro rfl
  simp at hd
  omega

theorem ghost_gh {tm : List (Nat × AV)} {l : Nat} {r : Bool} {rest : List (List AV)} : ghostOf ((G, .gh l r rest) :: tm) = some (l, r, rest) := by
  simp [ghostOf, look]

theorem cOp_nodefer {op : Op} {ao : AOp} (h : cOp P op = some ao) : ∀ c, op ≠ .defer c := by
  rintro c rfl
  simp [cOp, cQ] at h

theorem semAt_eq {o : Oper} {ao : AOp} (h : cOp P o.op = some ao) (r : Option Nat) (ρ : Operand → Value) : o.semAt (Fr r).round ρ = execOp ρ o := by
  cases r with
  | none => exact Oper.semAt_none ..
  | some l => exact Oper.semAt_some l ρ o (cOp_nodefer h)

section
variable {r : Option Nat} {n : Nat} {K : KP} {S0 : Shp} {N z : Nat} {ops : Array Oper} {Q : Exit → Act → World → Prop}

theorem call_step (C : Ctx P r K) {O : Nat → Prop} {E : Env} {tm : List (Nat × AV)} {hp : AHeap} {hn n0 : Nat} {a : Act} (L : Lf r S0 K N z O E ⟨tm, hp, hn, n0⟩ a) {f : FuncId} {args : List AV} {cs : Array Value} {o : Oper} {ao : AOp}
    (hop : cOp P o.op = some ao) (hrun : (execOp a.eval o).run P E.w = (callFunc f cs).run P E.w) (hb : Bes E args cs.toList) (hd : o.dst.all (· < N) = true) {Kn : St → Prop} {next : Act → World → Prop}
    (hc : CallsA P f args hp fun r h' => Kn ⟨putD o.dst r tm, h', h'.length, n0⟩)
    (hK : ∀ O' E' st' a', Lf r S0 K N z O' E' st' a' → Kn st' → (∃ u, a' = a.put o.dst u) → Stp O E O' E' → next a' E'.w) : o.wpIn (Fr r) n P a E.w next Q := by
  have h1 := hc E cs L.S.H (C.tab _ _ _ _ L.k) (by have := hb.1; simpa using this) (fun i x v hx hv => hb.2 i x v hx (by simpa using hv))
  refine ⟨fun _ _ => trivial, ?_⟩
  rw [semAt_eq hop, hrun]
  rcases h1 with ⟨he, h1⟩ | ⟨u, w', h1, v, r, h', E', hu, hr, hE, Y, H', hv⟩
  · rw [run_callFunc he, Oper.uponIn_enter]
    refine ⟨fun h => by simp [Fr, Fence.wide] at h, callsIn_Fr (h1.mono ?_)⟩
    rintro e w' ⟨v, r, h', E', rfl, hr, rfl, Y, H', hv⟩
    exact hK _ E' _ _ (L.ext C.step Y (L.S.put Y H' rfl hv hd) (ghost_put hd L.S.NG) (put_defers ..)) hr ⟨_, rfl⟩ (Y.stp O)
  · cases hu
    rw [h1, Oper.uponIn_value]
    subst hE
    exact hK _ E' _ _ (L.ext C.step Y (L.S.put Y H' rfl hv hd) (ghost_put hd L.S.NG) (put_defers ..)) hr ⟨_, rfl⟩ (Y.stp O)

/-- A moment behind a round that the walk has called for. -/
theorem Lf.yielded {O : Nat → Prop} {E : Env} {tm : List (Nat × AV)} {hp : AHeap} {hn n0 : Nat} {a : Act} (L : Lf r S0 K N z O E ⟨tm, hp, hn, n0⟩ a) {w' : World} {l : Nat} {b : Bool} {rest : List (List AV)}
    (hk : K (some (l, b, rest)) O E.F w') (Y : YX O E.F E.w w') {dst : Option Nat} (hd : dst.all (· < N) = true) :
    Lf r S0 K N z O { E with w := w' } ⟨putD dst (.bool b) ((G, .gh l b rest) :: tm), hp, hn, n0⟩ (a.put dst (.bool b)) := by
  have hown : ∀ q, E.S.own q → w'.heap[q]? = E.w.heap[q]? := fun q hq => Y.same q (L.S.H.own_lt hq) (.inl (L.own q hq))
  have hF : ∀ q, E.F q → w'.heap[q]? = E.w.heap[q]? := fun q hq => Y.same q (L.S.H.frz q hq) (.inr hq)
  have H' : HRel { E with w := w' } hp := L.S.H.world Y.size hown hF Y.cap
  refine ⟨L.X, L.own, by rw [ghost_put hd L.S.NG, ghost_gh]; exact hk, ?_, ⟨?_, H', L.S.hn, L.S.NG, by rw [put_size]; exact L.S.N, L.S.z⟩⟩
  · rw [put_defers]
    obtain ⟨Ds, h0, h1, hr, h2⟩ := L.m
    refine ⟨Ds, h0, h1, hr, fun D hD => ?_⟩
    obtain ⟨g1, g2, g3⟩ := h2 D hD
    exact ⟨g1, g2, by rw [← g3]; exact Y.same D (Array.getElem?_eq_some_iff.1 g3).1 (.inl g1)⟩
  · refine TRel.put (E := { E with w := w' }) (fun t => ?_) (.bool ..) fun d hdd => ?_
    · simp only [look]
      split
      · rename_i hb
        rw [← Nat.eq_of_beq_eq_true hb]
        have : a.tmps.getD G undef = undef := by
          have h1 := L.S.N
          have h2 := L.S.NG
          simp [Array.getD, show ¬ G < a.tmps.size by omega]
        rw [this]; exact .gh ..
      · exact Rel.world hF Y.cap (L.S.T t)
    · subst hdd
      rw [L.S.N]
      simpa using hd

theorem oper_sound' (C : Ctx P r K) {next : St → Prop} {Kc : Act → World → Prop}
    {i : Nat} {fz : Bool} {ao : AOper} {o : Oper} (ho : ops[i]? = some o) (hco : cOper P N ops fz o = some ao) {O : Nat → Prop} {E : Env} {st : St} {a : Act} (L : Lf r S0 K N z O E st a) (h : stepG P ao st next)
    (hK : ∀ O' E' st' a', Lf r S0 K N z O' E' st' a' → next st' → (∃ u, a' = a.put o.dst u) → Stp O E O' E' → Kc a' E'.w) : wpOpIn (Fr r) n P ops Q i Kc a E.w := by
  obtain ⟨tm, hp, hn, n0⟩ := st
  unfold cOper at hco
  simp only [Option.bind_eq_bind, Option.bind_eq_some_iff] at hco
  obtain ⟨aop', hop, g, hg, hco⟩ := hco
  split at hco <;> try (cases hco; done)
  rename_i hd
  obtain rfl := Option.some.inj hco
  simp only [wpOpIn, ho]
  have hdG := ghost_put (v := .undef) (tm := tm) hd L.S.NG
  -- the operation itself
  have main : ∀ tm', TRel E tm' a → ghostOf tm' = ghostOf tm → stepA P (aop'.frz fz) o.dst tm' hp hn n0 next → o.wpIn (Fr r) n P a E.w Kc Q := by
    intro tm' T' hgh hm
    have L' : Lf r S0 K N z O E ⟨tm', hp, hn, n0⟩ a := ⟨L.X, L.own, by rw [hgh]; exact L.k, L.m, ⟨T', L.S.H, L.S.hn, L.S.NG, L.S.N, L.S.z⟩⟩
    have hquiet : cQ P o.op = some aop' → (match aop tm' hp hn (aop'.frz fz) with
        | some (c, v, e) => need c (f2 v fun v => e.go hp hn fun hp hn => putK o.dst v tm' fun tm => next ⟨tm, hp, hn, n0⟩)
        | none => False) → o.wpIn (Fr r) n P a E.w Kc Q := by
      intro hop' hq
      split at hq <;> try (exact hq.elim)
      rename_i c v e he
      obtain ⟨rfl, hq⟩ := need_iff.1 hq
      rw [f2_iff, Eff.go_iff, putK_iff] at hq
      have hhn : hn = hp.length := L.S.hn
      rw [hhn] at he
      obtain ⟨E', u, hrun, Y, H', hv⟩ := aop_frz_sound hop' fz L.S.H T' he (o := o) rfl
      have L2 := L'.ext C.step Y (L'.S.put Y H' (Eff.hn_eq e hp hn hhn) hv hd) (ghost_put hd L.S.NG) (put_defers ..)
      refine ⟨fun _ _ => trivial, ?_⟩
      rw [semAt_eq hop]
      rcases hrun with hrun | ⟨hrun, rfl⟩
      · rw [hrun, Oper.uponIn_value]
        exact hK _ E' _ _ L2 hq ⟨_, rfl⟩ (Y.stp O)
      · rw [hrun, Oper.uponIn_skip]
        exact hK _ E' _ _ L2 hq ⟨_, rfl⟩ (Y.stp O)
    have hfn : ∀ {c : Call} {l : List Opd}, c.args.toList.mapM cOpd = some l → Bes E (l.map (ev tm')) (c.args.map a.eval).toList := by
      intro c l hl
      rw [Array.toList_map]
      exact Bes.mapM T' hl
    rcases cOp_inv hop with ⟨f, cargs, ts, l, hoo, hml, rfl⟩ | ⟨x, y, cargs, ts, l, hoo, hy, hml, rfl⟩ | ⟨hq, hqt⟩
    · simp only [AOp.frz, stepA, putK_iff] at hm
      refine call_step C L' hop (f := f) (args := l.map (ev tm')) (cs := cargs.map a.eval) ?_ (hfn (c := ⟨.value (.func f), cargs, ts⟩) hml) hd hm hK
      simp only [execOp, hoo, resolve, Act.eval, Deferred.ofValue, Sem.run_bind, Sem.run_pure, Result.andThen_ok, invoke]
      simp
    · simp only [AOp.frz, stepA, putK_iff] at hm
      have hR := cOpd_rel T' hy
      split at hm <;> try (exact hm.elim)
      · rename_i f cap hf
        rw [hf] at hR
        cases hR' : a.eval x with
        | func fn first vs =>
          rw [hR'] at hR
          have hinv : ∃ cs : Array Value, fn = .func f ∧ first = #[] ∧ Bes E cap vs.toList := by
            cases hR with
            | fn _ _ _ vs h1 h2 => exact ⟨vs, rfl, rfl, by simpa using h1, fun i c v hc hv => h2 i c v hc (by simpa using hv)⟩
          obtain ⟨_, rfl, rfl, hbc⟩ := hinv
          have hba := hfn (c := ⟨.value x, cargs, ts⟩) hml
          refine call_step C L' hop (f := f) (args := l.map (ev tm') ++ cap) (cs := cargs.map a.eval ++ vs) ?_ ⟨by have h1 := hba.1; have h2 := hbc.1; simp at h1 h2 ⊢; omega, fun q x v hx hv => ?_⟩ hd hm hK
          · simp only [execOp, hoo, resolve, hR', Deferred.ofValue, Sem.run_bind, Sem.run_pure, Result.andThen_ok, invoke]
            simp
          · have h1 : (l.map (ev tm')).length = (cargs.map a.eval).toList.length := hba.1
            rw [Array.toList_append, List.getElem?_append] at hv
            rw [List.getElem?_append] at hx
            by_cases hq : q < (l.map (ev tm')).length
            · rw [if_pos hq] at hx
              rw [if_pos (by omega)] at hv
              exact hba.2 q x v hx hv
            · rw [if_neg hq] at hx
              rw [if_neg (by omega), ← h1] at hv
              exact hbc.2 _ x v hx hv
        | _ => rw [hR'] at hR; cases hR
      · rename_i ly hf
        rw [hf] at hR
        have hR' : a.eval x = .func (.yield ly) #[] #[] := by generalize a.eval x = v at hR; cases hR; rfl
        unfold yieldA at hm
        split at hm <;> try (exact hm.elim)
        rename_i l' b xy rest hlk
        simp only [putK_iff] at hm
        obtain ⟨⟨rfl, rfl, hargs, hcl⟩, hm1, hm2⟩ := hm
        have hba := hfn (c := ⟨.value x, cargs, ts⟩) hml
        rw [hargs] at hba
        have hkg : K (some (l', true, xy :: rest)) O E.F E.w := by
          have := L'.k
          simp only [ghostOf, hlk] at this
          exact this
        obtain ⟨fn, tmps, assign, body, hrun, hround⟩ := C.yield l' xy rest O E.F E.w (cargs.map a.eval) hkg L.S.H.frz (by have := hba.1; simpa using this)
          (fun i c v hc hv => by
            have h1 := hba.2 i c v hc (by simpa using hv)
            have h2 := List.all_eq_true.1 hcl c (List.mem_of_getElem? hc)
            exact closed1_nil h2 h1) (n - 1)
        refine ⟨fun _ _ => trivial, ?_⟩
        rw [semAt_eq hop]
        have hexec : (execOp a.eval o).run P E.w = (Instr.yield l' (cargs.map a.eval)).run P E.w := by
          simp only [execOp, hoo, resolve, hR', Deferred.ofValue, Sem.run_bind, Sem.run_pure, Result.andThen_ok, invoke]
          simp
        rw [hexec, hrun, Oper.uponIn_round]
        refine ⟨fun h => by simp [Fr, Fence.wide] at h, roundIn_Fr (hround.mono ?_)⟩
        rintro e w' ⟨b, rfl, hk', hY⟩
        have L3 := L'.yielded hk' hY hd
        refine hK O { E with w := w' } _ _ L3 ?_ ⟨_, rfl⟩ ⟨hY.size, fun q hq ho _ => hY.same q hq (.inl ho), fun _ h => .inl h, fun _ h => .inl h, fun _ h => h⟩
        cases b
        · exact hm2
        · exact hm1
    · cases aop' with
      | call f args => cases hqt
      | callv f args => cases hqt
      | bslice s z len ps =>
        cases fz with
        | true => exact hquiet hq hm
        | false => exact hquiet hq hm
      | mkslice y s z l c =>
        cases fz with
        | true => exact hquiet hq hm
        | false => exact hquiet hq hm
      | _ => exact hquiet hq hm
  -- its guard
  unfold cGuard at hg
  split at hg
  · rename_i hgu
    obtain rfl := Option.some.inj hg
    simp only [stepG] at h
    rw [if_pos (by simp [Region.wanted, hgu])]
    exact main tm L.S.T rfl h
  · rename_i j want hgu
    simp only [Option.bind_eq_bind, Option.bind_eq_some_iff, Option.pure_def, Option.some.injEq] at hg
    obtain ⟨t, ht, rfl⟩ := hg
    have ht' : (ops[j]?).bind (·.dst) = some t := by rw [Option.bind_eq_some_iff]; exact ht
    simp only [stepG, putK_iff] at h
    split at h <;> try (exact h.elim)
    rotate_left
    · rename_i vs hb
      have hw : Region.wanted o (yielded ops a.tmps) = false := by
        have hv := L.S.T t
        rw [hb] at hv
        have hnb : ∀ b, a.tmps[t]? ≠ some (.bool b) := by
          intro b hb'
          have e : a.tmps.getD t undef = .bool b := by simp [Array.getD_eq_getD_getElem?, hb']
          rw [e] at hv; cases hv
        simp only [Region.wanted, hgu, yielded, ht', Option.bind_some]
        first
        | rfl
        | (split
           · rename_i b' hb'; exact absurd hb' (hnb _)
           · rfl)
      rw [if_neg (by rw [hw]; simp)]
      exact ⟨fun _ _ => trivial, hK _ E _ _ (L.ext C.step L.S.H.ext_refl (L.S.put L.S.H.ext_refl L.S.H L.S.hn (.tup _ _ _ rfl (fun i c v h => by simp at h)) hd) (ghost_put hd L.S.NG) (put_defers ..)) h ⟨_, rfl⟩ (L.S.H.ext_refl.stp O)⟩
    rename_i b hb
    have hy := yielded_of L.S.T ht' hb
    have hw : Region.wanted o (yielded ops a.tmps) = (b == want) := by simp [Region.wanted, hgu, hy]
    have T' : TRel E ((t, .bool b) :: tm) a := L.S.T.same hb
    have hgh : ghostOf ((t, .bool b) :: tm) = ghostOf tm := by unfold ghostOf; rw [look_same hb]
    have L' : Lf r S0 K N z O E ⟨(t, .bool b) :: tm, hp, hn, n0⟩ a := ⟨L.X, L.own, by rw [hgh]; exact L.k, L.m, ⟨T', L.S.H, L.S.hn, L.S.NG, L.S.N, L.S.z⟩⟩
    have skip : ∀ K', next ⟨putD o.dst (.tup []) ((t, .bool b) :: tm), hp, hn, n0⟩ = K' → K' → Kc (a.put o.dst undef) E.w := by
      rintro _ rfl hk
      exact hK _ E _ _ (L'.ext C.step L.S.H.ext_refl (L'.S.put L.S.H.ext_refl L.S.H L.S.hn (.tup _ _ _ rfl (fun i c v h => by simp at h)) hd) (ghost_put hd L.S.NG) (put_defers ..)) hk ⟨_, rfl⟩ (L.S.H.ext_refl.stp O)
    cases b <;> cases want <;> simp only [ifB] at h
    · rw [if_pos (by rw [hw]; rfl)]; exact main _ T' hgh h
    · rw [if_neg (by rw [hw]; simp)]; exact ⟨fun _ _ => trivial, skip _ rfl h⟩
    · rw [if_neg (by rw [hw]; simp)]; exact ⟨fun _ _ => trivial, skip _ rfl h⟩
    · rw [if_pos (by rw [hw]; rfl)]; exact main _ T' hgh h

theorem wpOps_sound (C : Ctx P r K) {next : St → Prop} (hK : ∀ O E st a, Lf r S0 K N z O E st a → next st → Q .normal a E.w) :
    ∀ (is : List Nat) (aops : List AOper), is.length = aops.length → (∀ (q i : Nat) ao, is[q]? = some i → aops[q]? = some ao → ∃ o fz, ops[i]? = some o ∧ cOper P N ops fz o = some ao) →
      ∀ (O : Nat → Prop) (E : Env) (st : St) (a : Act), Lf r S0 K N z O E st a → wpOps P aops st next → Go.wpOpsIn (Fr r) n P ops Q is a E.w
  | [], [], _, _, O, E, st, a, L, h => hK O E st a L h
  | [], _ :: _, hl, _, _, _, _, _, _, _ => by simp at hl
  | _ :: _, [], hl, _, _, _, _, _, _, _ => by simp at hl
  | i :: is, ao :: aops, hl, hops, O, E, st, a, L, h => by
    obtain ⟨o, fz, ho, hco⟩ := hops 0 i ao rfl rfl
    have ih := wpOps_sound C hK is aops (by simpa using hl) (fun q i ao h1 h2 => hops (q + 1) i ao (by simpa using h1) (by simpa using h2))
    rw [wpOpsIn_cons]
    exact oper_sound' C (next := fun st => wpOps P aops st next) ho hco L h fun O' E' st' a' L' h' _ _ => ih O' E' st' a' L' h'
end

/-! ### Whatever order is drawn -/

theorem StEq.srel {E : Env} {N z : Nat} {st st' : St} {a : Act} (S : SRel E N z st a) (h : StEq st st') : SRel E N z st' a :=
  ⟨fun t => by rw [← h.1 t]; exact S.T t, by rw [← h.2.1]; exact S.H, by rw [← h.2.2.1, ← h.2.1]; exact S.hn, S.NG, S.N, by rw [← h.2.2.2]; exact S.z⟩

theorem stepD_G {o : AOper} {st : St} {next : St → Prop} (h : stepD P o st next) : stepG P o st next := by
  obtain ⟨tm, hp, hn, n0⟩ := st
  have one : ∀ {tm}, stepAD P o.po o.rs o.op o.dst tm hp hn n0 next → stepA P o.op o.dst tm hp hn n0 next := by
    intro tm h
    have push : ∀ (f : FuncId) (args : List AV), CallsA P f args hp (fun r h' => Pushed o.po o.rs tm hp hn h' (putK o.dst r tm fun tm => next ⟨tm, h', h'.length, n0⟩)) → CallsA P f args hp (fun r h' => putK o.dst r tm fun tm => next ⟨tm, h', h'.length, n0⟩) := by
      intro f args hc
      refine fun E cs H hT hlen ha => (hc E cs H hT hlen ha).mono ?_
      rintro e w' ⟨v, r, h', E', h1, h2, h3⟩
      refine ⟨v, r, h', E', h1, ?_, h3⟩
      cases hpo : o.po with
      | false => rw [hpo] at h2; exact h2
      | true => rw [hpo] at h2; exact h2.2
    cases hop : o.op with
    | call f args => rw [hop] at h; exact push f _ h
    | callv f args =>
      rw [hop] at h
      simp only [stepAD] at h
      simp only [stepA]
      split at h <;> try (exact h.elim)
      · exact push _ _ h
      · exact h
    | _ =>
      rw [hop] at h
      simp only [stepAD] at h
      simp only [stepA]
      split at h <;> try (exact h.elim)
      rw [need_iff, lays_iff] at h
      rw [need_iff]
      exact ⟨h.1, h.2.2⟩
  unfold stepD at h
  unfold stepG
  simp only at *
  cases hg : o.guard with
  | none => rw [hg] at h; exact one h
  | some gw =>
    obtain ⟨g, want⟩ := gw
    rw [hg] at h
    simp only at *
    split at h <;> try (exact h.elim)
    · rename_i b hb
      cases b <;> cases want <;> simp only [ifB] at * <;> first | exact one h | exact h
    · exact h

theorem bit_lt {acc : List Nat} {m k : Nat} (h : (acc.getD m 0).testBit k = true) : m < acc.length := by
  rcases Nat.lt_or_ge m acc.length with hh | hh
  · exact hh
  · rw [List.getD_eq_getElem?_getD, List.getElem?_eq_none hh] at h; simp at h

theorem befFrom_spec {ops : Array Oper} : ∀ (n : Nat) (acc : List Nat), acc.length + n = ops.size →
    (∀ i, i < acc.length → ∀ k, (acc.getD i 0).testBit k = true → k ∈ direct ops i ∨ ∃ m ∈ direct ops i, (acc.getD m 0).testBit k = true) →
    ∀ i, i < ops.size → ∀ k, ((befFrom ops n acc).getD i 0).testBit k = true → k ∈ direct ops i ∨ ∃ m ∈ direct ops i, ((befFrom ops n acc).getD m 0).testBit k = true
  | 0, acc, hn, h, i, hi => h i (by omega)
  | n + 1, acc, hn, h, i, hi => by
    refine befFrom_spec n _ (by simp; omega) (fun i hi k hk => ?_) i hi
    have fold : ∀ (l : List Nat) (s : Nat), (l.foldl (fun s k => s ||| 2 ^ k ||| acc.getD k 0) s).testBit k = true → s.testBit k = true ∨ k ∈ l ∨ ∃ m ∈ l, (acc.getD m 0).testBit k = true := by
      intro l
      induction l with
      | nil => intro s hs; exact .inl hs
      | cons x xs ih =>
        intro s hs
        rcases ih _ hs with h1 | h1 | ⟨m, hm, h1⟩
        · rw [Nat.testBit_or, Nat.testBit_or, Bool.or_eq_true, Bool.or_eq_true] at h1
          rcases h1 with (h1 | h1) | h1
          · exact .inl h1
          · rw [Nat.testBit_two_pow] at h1
            have : x = k := by simpa using h1
            exact .inr (.inl (by simp [this]))
          · exact .inr (.inr ⟨x, by simp, h1⟩)
        · exact .inr (.inl (by simp [h1]))
        · exact .inr (.inr ⟨m, by simp [hm], h1⟩)
    have low : ∀ m, m < acc.length → (acc ++ [(direct ops acc.length).foldl (fun s k => s ||| 2 ^ k ||| acc.getD k 0) 0]).getD m 0 = acc.getD m 0 := by
      intro m hm
      simp [List.getD, List.getElem?_append_left hm]
    simp only [List.length_append, List.length_cons, List.length_nil] at hi
    by_cases hlt : i < acc.length
    · rw [low i hlt] at hk
      rcases h i hlt k hk with h1 | ⟨m, hm, h1⟩
      · exact .inl h1
      · refine .inr ⟨m, hm, ?_⟩
        rw [low m (bit_lt h1)]; exact h1
    · have hie : i = acc.length := by omega
      subst hie
      have e : (acc ++ [(direct ops acc.length).foldl (fun s k => s ||| 2 ^ k ||| acc.getD k 0) 0]).getD acc.length 0 = (direct ops acc.length).foldl (fun s k => s ||| 2 ^ k ||| acc.getD k 0) 0 := by simp [List.getD]
      rw [e] at hk
      rcases fold _ 0 hk with h1 | h1 | ⟨m, hm, h1⟩
      · simp at h1
      · exact .inl h1
      · refine .inr ⟨m, hm, ?_⟩
        rw [low m (bit_lt h1)]; exact h1

theorem befFrom_len {ops : Array Oper} : ∀ (n : Nat) (acc : List Nat), (befFrom ops n acc).length = acc.length + n
  | 0, acc => rfl
  | n + 1, acc => by rw [befFrom, befFrom_len n]; simp; omega

/-- What the marks say. -/
def Bef (ops : Array Oper) (acc : List Nat) : Prop := ∀ i k, (acc.getD i 0).testBit k = true → k ∈ direct ops i ∨ ∃ m ∈ direct ops i, (acc.getD m 0).testBit k = true

theorem befMore_spec {ops : Array Oper} : ∀ (l : List Nat) (acc : List Nat), Bef ops acc → Bef ops (befMore ops acc l)
  | [], acc, h => h
  | i :: r, acc, h => by
    refine befMore_spec r _ ?_
    have fold : ∀ (l : List Nat) (s k : Nat), (l.foldl (fun s k => s ||| 2 ^ k ||| acc.getD k 0) s).testBit k = true → s.testBit k = true ∨ k ∈ l ∨ ∃ m ∈ l, (acc.getD m 0).testBit k = true := by
      intro l
      induction l with
      | nil => intro s k hs; exact .inl hs
      | cons x xs ih =>
        intro s k hs
        rcases ih _ k hs with h1 | h1 | ⟨m, hm, h1⟩
        · rw [Nat.testBit_or, Nat.testBit_or, Bool.or_eq_true, Bool.or_eq_true] at h1
          rcases h1 with (h1 | h1) | h1
          · exact .inl h1
          · rw [Nat.testBit_two_pow] at h1
            have : x = k := by simpa using h1
            exact .inr (.inl (by simp [this]))
          · exact .inr (.inr ⟨x, by simp, h1⟩)
        · exact .inr (.inl (by simp [h1]))
        · exact .inr (.inr ⟨m, by simp [hm], h1⟩)
    have at' : ∀ (q y : Nat), (lset acc i y).getD q 0 = if i = q ∧ i < acc.length then y else acc.getD q 0 := by
      intro q y
      rw [lset_eq, List.getD_eq_getElem?_getD, List.getElem?_set]
      split
      · rename_i hq; subst hq
        split
        · rename_i hl; simp [hl]
        · rename_i hl; simp [hl, List.getD_eq_getElem?_getD]
      · rename_i hq; simp [hq, List.getD_eq_getElem?_getD]
    have mono : ∀ m k, (acc.getD m 0).testBit k = true → ((lset acc i (acc.getD i 0 ||| (direct ops i).foldl (fun s k => s ||| 2 ^ k ||| acc.getD k 0) 0)).getD m 0).testBit k = true := by
      intro m k hk
      rw [at']
      split
      · rename_i hq; rw [Nat.testBit_or, hq.1, hk]; rfl
      · exact hk
    intro q k hk
    rw [at'] at hk
    have old : ∀ {q}, (acc.getD q 0).testBit k = true → k ∈ direct ops q ∨ ∃ m ∈ direct ops q, ((lset acc i (acc.getD i 0 ||| (direct ops i).foldl (fun s k => s ||| 2 ^ k ||| acc.getD k 0) 0)).getD m 0).testBit k = true := by
      intro q hk
      rcases h q k hk with h1 | ⟨m, hm, h1⟩
      · exact .inl h1
      · exact .inr ⟨m, hm, mono m k h1⟩
    split at hk
    · rename_i hq
      obtain ⟨rfl, _⟩ := hq
      rw [Nat.testBit_or, Bool.or_eq_true] at hk
      rcases hk with hk | hk
      · exact old hk
      · rcases fold _ 0 k hk with h1 | h1 | ⟨m, hm, h1⟩
        · simp at h1
        · exact .inl h1
        · exact .inr ⟨m, hm, mono m k h1⟩
    · exact old hk

theorem befOf_spec (ops : Array Oper) : Bef ops (befOf ops) := by
  have h0 : Bef ops (befAll ops) := by
    intro i k hk
    by_cases hi : i < ops.size
    · exact befFrom_spec ops.size [] (by simp) (by intro i hi; simp at hi) i hi k hk
    · have := bit_lt hk
      rw [befAll, befFrom_len] at this
      simp at this; omega
  unfold befOf
  split
  · exact h0
  · exact befMore_spec _ _ (befMore_spec _ _ h0)

theorem topo_spec {ops : Array Oper} : ∀ {l : List Nat}, topoOK ops l = true → l.Nodup → ∀ {q m : Nat}, q ∈ l → m ∈ l → m ∈ direct ops q → l.idxOf m < l.idxOf q
  | [], _, _, q, m, hq, _, _ => by simp at hq
  | x :: r, h, hnd, q, m, hq, hm, hd => by
    simp only [topoOK, Bool.and_eq_true, Bool.not_eq_true', List.all_eq_true, List.contains_eq_mem, decide_eq_false_iff_not] at h
    obtain ⟨⟨h1, h2⟩, h3⟩ := h
    rw [List.nodup_cons] at hnd
    rcases List.mem_cons.1 hq with rfl | hq
    · rcases List.mem_cons.1 hm with rfl | hm
      · exact absurd hd h1
      · exact absurd hd (h2 m hm)
    · have hqx : x ≠ q := fun he => hnd.1 (by rw [he]; exact hq)
      rcases List.mem_cons.1 hm with rfl | hm
      · rw [List.idxOf_cons_self, List.idxOf_cons, beq_false_of_ne hqx]; simp
      · have hmx : x ≠ m := fun he => hnd.1 (by rw [he]; exact hm)
        have := topo_spec h3 hnd.2 hq hm hd
        rw [List.idxOf_cons, List.idxOf_cons, beq_false_of_ne hqx, beq_false_of_ne hmx]
        simpa using this

theorem pairs_spec {bef : List Nat} {l : List AOper} : ∀ {A : List Nat} {j : Nat} {B : List Nat}, pairsOK bef l (A ++ j :: B) = true →
    (∀ i ∈ A, (bef.getD j 0).testBit i = true ∨ ∃ a b, l[i]? = some a ∧ l[j]? = some b ∧ (commute (tagged i b) a b || latecom a b) = true) ∧ pairsOK bef l (A ++ B) = true ∧ ∀ i ∈ A, (bef.getD i 0).testBit j = false
  | [], j, B, h => by
    simp only [List.nil_append, pairsOK, Bool.and_eq_true] at h
    exact ⟨by simp, h.2, by simp⟩
  | x :: A, j, B, h => by
    simp only [List.cons_append, pairsOK, Bool.and_eq_true, List.all_eq_true] at h
    obtain ⟨h1, h2⟩ := h
    obtain ⟨i1, i2, i3⟩ := pairs_spec h2
    refine ⟨fun i hi => ?_, ?_, fun i hi => ?_⟩
    · rcases List.mem_cons.1 hi with rfl | hi
      · have := (h1 j (by simp)).2
        rw [Bool.or_eq_true] at this
        refine this.imp id fun hc => ?_
        split at hc
        · rename_i a b ha hb; exact ⟨a, b, ha, hb, hc⟩
        · cases hc
      · exact i1 i hi
    · simp only [List.cons_append, pairsOK, Bool.and_eq_true, List.all_eq_true]
      exact ⟨fun q hq => h1 q (by simp at hq ⊢; rcases hq with hq | hq <;> simp [hq]), i2⟩
    · rcases List.mem_cons.1 hi with rfl | hi
      · have := (h1 j (by simp)).1
        simpa using this
      · exact i3 i hi

theorem pairs_pw {bef : List Nat} {l : List AOper} : ∀ {L : List Nat}, pairsOK bef l L = true → L.Pairwise fun i j => (bef.getD i 0).testBit j = false
  | [], _ => .nil
  | x :: L, h => by
    simp only [pairsOK, Bool.and_eq_true, List.all_eq_true] at h
    rw [List.pairwise_cons]
    exact ⟨fun j hj => by have := (h.1 j hj).1; simpa using this, pairs_pw h.2⟩

theorem tagged_spec {i : Nat} {j : AOper} (h : tagged i j = true) : ∃ x ∈ j.rs, x.1 = i := by
  simp only [tagged, List.any_eq_true] at h
  obtain ⟨x, hx, he⟩ := h
  exact ⟨x, hx, Nat.eq_of_beq_eq_true he⟩

theorem rel_spec {bef : List Nat} {l : List AOper} (h : relOK bef l = true) {j q : Nat} {b o : AOper} (hj : l[j]? = some b) (hq : l[q]? = some o) {x : Nat × AOp} (hx : x ∈ b.rs) (h1 : q = x.1 ∨ (bef.getD x.1 0).testBit q = false)
    (h2 : (bef.getD q 0).testBit j = false) : notIn o.dst x.2.looks = true := by
  simp only [relOK, List.all_eq_true, List.mem_range] at h
  have hj' := h j (List.getElem?_eq_some_iff.1 hj).1
  rw [hj] at hj'
  simp only [List.all_eq_true, List.mem_range] at hj'
  have := hj' x hx q (List.getElem?_eq_some_iff.1 hq).1
  rw [hq, h2, Bool.or_false, Bool.or_eq_true] at this
  rcases this with h3 | h3
  · simp only [Bool.and_eq_true, Bool.not_eq_true'] at h3
    rcases h1 with rfl | h1
    · simp at h3
    · rw [h1] at h3; simp at h3
  · exact h3

theorem commute_alloc {m : Bool} {i j : AOper} (ha : j.op.isA = true) (h : commute m i j = true) : commute false i j = true := by
  simp only [commute, Bool.and_eq_true, Bool.or_eq_true] at h ⊢
  exact ⟨⟨⟨h.1.1.1, h.1.1.2.imp id fun h => ⟨h.1, .inl (.inr ha)⟩⟩, h.1.2⟩, h.2⟩

end Go.AL
