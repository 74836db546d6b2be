/- Operations that call nothing. Seat-independent. -/
import Derived.Test.YtamgmfinkgdkjaaDoorAL6
import Derived.Laws.NewFold
namespace Go.AL
variable {E : Env} {h : AHeap} {P : Program}

theorem mapM_get {α β : Type} {f : α → Option β} : ∀ {l : List α} {r : List β}, l.mapM f = some r →
    r.length = l.length ∧ ∀ (i : Nat) x y, l[i]? = some x → r[i]? = some y → f x = some y
  | [], r, h => by simp at h; subst h; simp
  | x :: l, r, h => by
    simp only [List.mapM_cons, Option.bind_eq_bind, Option.bind_eq_some_iff, Option.pure_def, Option.some.injEq] at h
    obtain ⟨y, hy, ys, hys, rfl⟩ := h
    obtain ⟨h1, h2⟩ := mapM_get hys
    refine ⟨by simp [h1], fun i a b ha hb => ?_⟩
    cases i with
    | zero => simp at ha hb; subst ha hb; exact hy
    | succ i => exact h2 i a b (by simpa using ha) (by simpa using hb)

theorem cLeaf_rel {v : Value} {x : AV} (hc : cLeaf v = some x) (w F S) : Rel w F S x v := by
  unfold cLeaf at hc
  split at hc <;> simp at hc <;> subst hc
  · exact .int ..
  · exact .bool ..
  · exact .str ..
  · exact .pnil ..
  · exact .snil ..
  · exact .fnil ..
  · exact .inil ..

theorem cLeaf_leaf {v : Value} {x : AV} (hc : cLeaf v = some x) : leaf x = true ∧ closed x = true := by
  unfold cLeaf at hc
  split at hc <;> simp at hc <;> subst hc <;> exact ⟨rfl, rfl⟩

theorem cVal_rel {v : Value} {x : AV} (hc : cVal v = some x) (w F S) : Rel w F S x v := by
  unfold cVal at hc
  split at hc
  · rename_i cs
    simp only [Option.map_eq_some_iff] at hc
    obtain ⟨l, hl, rfl⟩ := hc
    obtain ⟨h1, h2⟩ := mapM_get hl
    refine .agg _ _ _ (by simpa using h1) fun i c v hc hv => ?_
    exact cLeaf_rel (h2 i v c (by simpa using hv) hc) w F S
  · split at hc
    · obtain rfl := Option.some.inj hc; exact .undef ..
    · cases hc
  · exact cLeaf_rel hc w F S

def TRel (E : Env) (tm : List (Nat × AV)) (a : Act) : Prop := ∀ t : Nat, E.R (look tm t) (a.tmps.getD t undef)

theorem cOpd_rel {tm : List (Nat × AV)} {a : Act} (T : TRel E tm a) {x : Operand} {y : Opd} (hc : cOpd x = some y) : E.R (ev tm y) (a.eval x) := by
  unfold cOpd at hc
  split at hc
  · obtain rfl := Option.some.inj hc; exact T _
  · simp only [Option.map_eq_some_iff] at hc
    obtain ⟨v, hv, rfl⟩ := hc
    exact cVal_rel hv ..
  · obtain rfl := Option.some.inj hc
    exact .fn _ _ _ _ rfl (by simp)
  · cases hc

theorem TRel.ext {E E' : Env} {tm : List (Nat × AV)} {a : Act} (T : TRel E tm a) (X : Ext E E') (hz : ∀ b, E.F b → b < E.w.heap.size) : TRel E' tm a :=
  fun t => Rel.ext X hz (T t)

/-- What an operation comes to. -/
def Runs (P : Program) (s : Sem Next) (E : Env) (hp : AHeap) (v : AV) (e : Eff) : Prop :=
  ∃ E' u, (s.run P E.w = .ok (.value u) E'.w ∨ (s.run P E.w = .ok .skip E'.w ∧ u = undef)) ∧ Ext E E' ∧ HRel E' (e.app hp) ∧ E'.R v u

theorem Runs.keep (H : HRel E h) {s : Sem Next} {v : AV} {u : Value} (hr : s.run P E.w = .ok (.value u) E.w) (hv : E.R v u) : Runs P s E h v .keep :=
  ⟨E, u, .inl hr, H.ext_refl, H, hv⟩

theorem run_sizeOf' {t : TypeId} {s : Nat} (h : sizeB P t = some s) (w : World) : (sizeOf t).run P w = .ok s w := by
  unfold sizeB at h
  cases hi : P.info? t with
  | none => simp [hi] at h
  | some i => simp [hi] at h; simp [sizeOf, typeInfo, hi, h]

theorem run_isAgg' {t : TypeId} {g : Bool} (h : isAggB P t = some g) (w : World) : (isAgg t).run P w = .ok g w := by
  unfold isAggB at h
  unfold isAgg
  cases hd : P.underlying t with
  | none => simp [hd] at h
  | some d =>
    rw [hd] at h
    cases d <;> simp at h <;> subst h <;> simp [run_underlying hd]

theorem bes_one {x : AV} {v : Value} (h : E.R x v) : Bes E [x] [v] :=
  ⟨rfl, fun q y u hy hu => by
    match q, hy, hu with
    | 0, hy, hu =>
      simp only [List.getElem?_cons_zero, Option.some.injEq] at hy hu
      subst hy hu
      exact h⟩

/-- The cells of a value. -/
theorem cells_bes {x : AV} {v : Value} (hr : E.R x v) (hl : x ≠ .undef) : Bes E x.cells v.cells.toList := by
  have h0 := hr
  cases hr with
  | undef => exact absurd rfl hl
  | agg _ cs vs h1 h2 => exact ⟨by simpa [AV.cells, Value.cells] using h1, fun q x v hx hv => h2 q x v hx (by simpa [Value.cells] using hv)⟩
  | _ => exact bes_one h0

theorem rel_bool {b : Bool} {v : Value} (h : E.R (.bool b) v) : v = .bool b := by cases h; rfl
theorem rel_int {k : IntKind} {n : Int} {v : Value} (h : E.R (.int k n) v) : v = .int k n := by cases h; rfl
theorem rel_str {s : ByteArray} {v : Value} (h : E.R (.str s) v) : v = .string s := by cases h; rfl
theorem rel_agg {cs : List AV} {v : Value} (h : E.R (.agg cs) v) : ∃ vs : Array Value, v = .agg vs ∧ Bes E cs vs.toList := by
  cases h with
  | agg _ _ vs h1 h2 => exact ⟨vs, rfl, by simpa using h1, fun q x v hx hv => h2 q x v hx (by simpa using hv)⟩
theorem rel_tup {cs : List AV} {v : Value} (h : E.R (.tup cs) v) : ∃ vs : Array Value, v = .tuple vs ∧ Bes E cs vs.toList := by
  cases h with
  | tup _ _ vs h1 h2 => exact ⟨vs, rfl, by simpa using h1, fun q x v hx hv => h2 q x v hx (by simpa using hv)⟩
theorem agg_rel {cs : List AV} {vs : Array Value} (h : Bes E cs vs.toList) : E.R (.agg cs) (.agg vs) :=
  .agg _ _ _ (by simpa using h.1) fun i c v hc hv => h.2 i c v hc (by simpa using hv)

theorem Bes.get {xs : List AV} {vs : List Value} (h : Bes E xs vs) {q : Nat} {x : AV} (hx : xs[q]? = some x) : ∃ v, vs[q]? = some v ∧ E.R x v := by
  have hlt : q < vs.length := by rw [← h.1]; exact (List.getElem?_eq_some_iff.1 hx).1
  exact ⟨vs[q], List.getElem?_eq_getElem hlt, h.2 q x _ hx (List.getElem?_eq_getElem hlt)⟩

/-- A box is made. -/
theorem push_box (H : HRel E h) {xs : List AV} {c : Array Value} (hb : Bes E xs c.toList) (e : TypeId) :
    Ext E (E.push (.cells c e) (xs.length, 1)) ∧ HRel (E.push (.cells c e) (xs.length, 1)) (h ++ [some (.box xs)]) ∧
      (E.push (.cells c e) (xs.length, 1)).R (.bp h.length 0) (.pointer (some ⟨E.w.heap.size, 0, none⟩)) := by
  refine ⟨H.ext_push _ _, H.push (.box xs) c e trivial (by have := hb.1; simp [ABlk.shape]; simp at this; omega) fun i j x hx => ?_, ?_⟩
  · simp only [ABlk.cell] at hx
    split at hx
    · rename_i hi
      subst hi
      obtain ⟨v, hv, hR⟩ := hb.get hx
      exact ⟨v, by simpa using hv, hR⟩
    · cases hx
  · refine .bp _ _ _ E.w.heap.size 0 _ ?_ rfl
    simp [Env.push, ← H.len]

theorem zeroB_info {t : TypeId} {z : List AV} (hz : zeroB P t = some z) : ∃ i v, P.info? t = some i ∧ i.zero = some v ∧ (∀ E : Env, Bes E z v.cells.toList) ∧
    (∀ x ∈ z, leaf x = true ∧ closed x = true) := by
  unfold zeroB at hz
  simp only [Option.bind_eq_bind, Option.bind_eq_some_iff] at hz
  obtain ⟨i, hi, v, hv, hm⟩ := hz
  obtain ⟨h1, h2⟩ := mapM_get hm
  refine ⟨i, v, hi, hv, fun E => ⟨h1, fun q x u hx hu => cLeaf_rel (h2 q u x hu hx) ..⟩, fun x hx => ?_⟩
  obtain ⟨q, hq, rfl⟩ := List.getElem_of_mem hx
  exact cLeaf_leaf (h2 q _ _ (List.getElem?_eq_getElem (by omega)) (List.getElem?_eq_getElem hq))

theorem op_alloc (H : HRel E h) {t : TypeId} {z : List AV} (hz : zeroB P t = some z) :
    Runs P (do pure (.value (← Instr.alloc t true (.tuple #[])))) E h (.bp h.length 0) (.push (.box z)) := by
  obtain ⟨i, v, hi, hv, hb, _⟩ := zeroB_info hz
  obtain ⟨x1, x2, x3⟩ := push_box H (hb E) t
  refine ⟨_, _, .inl ?_, x1, x2, x3⟩
  simp [Instr.alloc, zeroValue, typeInfo, hi, hv, newVar, newRow, Env.push]

theorem op_box (H : HRel E h) (t : TypeId) {x : AV} {v : Value} (hr : E.R x v) :
    Runs P (do pure (.value (← Instr.box t v))) E h (.bp h.length 0) (.push (.box x.cells)) := by
  by_cases hx : x = .undef
  · subst hx
    have X := H.ext_push (.cells v.cells t) (0, 1)
    refine ⟨E.push (.cells v.cells t) (0, 1), .pointer (some ⟨E.w.heap.size, 0, none⟩), .inl ?_, X, H.push (.box []) v.cells t trivial (by simp [ABlk.shape]) (fun i j x hx => ?_), ?_⟩
    · simp [Instr.box, newVar, newRow, Env.push]
    · simp [ABlk.cell] at hx
    · refine .bp _ _ _ E.w.heap.size 0 _ ?_ rfl
      simp [Env.push, ← H.len]
  · obtain ⟨x1, x2, x3⟩ := push_box H (cells_bes hr hx) t
    refine ⟨_, _, .inl ?_, x1, x2, x3⟩
    simp [Instr.box, newVar, newRow, Env.push]

theorem op_load1 (H : HRel E h) {t : TypeId} (ht : isAggB P t = some false) {a : AV} {va : Value} (ha : E.R a va) {v : AV} (hr : readAt h a 1 = some (true, [v])) :
    Runs P (do pure (.value (← Instr.loadAt t va))) E h v .keep := by
  obtain ⟨ad, vs, rfl, h1, _, h2, h3⟩ := readAt_sound H ha hr
  match vs, h1 with
  | [u], _ =>
    refine .keep H (u := u) ?_ (h3 0 v u rfl rfl)
    have := h2 0 u rfl
    have hz : ad.add 0 = ad := by simp [Addr.add]
    rw [hz] at this
    simp [Instr.loadAt, Instr.sureAddr, loadVar, run_isAgg' ht, this]

theorem op_loadN (H : HRel E h) {t : TypeId} (ht : isAggB P t = some true) {n : Nat} (hs : sizeB P t = some n) {a : AV} {va : Value} (ha : E.R a va) {l : List AV}
    (hr : readAt h a n = some (true, l)) : Runs P (do pure (.value (← Instr.loadAt t va))) E h (.agg l) .keep := by
  obtain ⟨ad, vs, rfl, h1, h0, h2, h3⟩ := readAt_sound H ha hr
  refine .keep H (u := .agg vs.toArray) ?_ (agg_rel ⟨by simp [h0, h1], by simpa using h3⟩)
  have := run_loadCells_list (P := P) E.w ad vs h2
  rw [h1] at this
  simp [Instr.loadAt, Instr.sureAddr, loadVar, run_isAgg' ht, run_sizeOf' hs, this]

theorem op_store (H : HRel E h) {t : TypeId} {n : Nat} (hn : n ≠ 0) (hs : sizeB P t = some n) {a x : AV} {va vx : Value} (ha : E.R a va) (hx : E.R x vx) (hl : x.cells.length = n) {e : Eff}
    (hw : writeAt h a x.cells = some (true, e)) : Runs P (do Instr.storeAt t va vx; pure .skip) E h .undef e := by
  have hxu : x ≠ .undef := by rintro rfl; simp [AV.cells] at hl; omega
  have hb := cells_bes hx hxu
  obtain ⟨ad, E', rfl, h1, h2, h3⟩ := writeAt_sound P H ha hb hw
  refine ⟨E', undef, .inr ⟨?_, rfl⟩, h2, h3, .undef ..⟩
  have hsz : vx.cells.size = n := by have := hb.1; simp at this; omega
  simp [Instr.storeAt, Instr.sureAddr, storeVar, run_sizeOf' hs, hsz, h1]

end Go.AL
