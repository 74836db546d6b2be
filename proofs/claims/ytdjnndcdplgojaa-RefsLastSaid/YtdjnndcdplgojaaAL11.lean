/- Operations of maps whose keys are numbers. Seat-independent. -/
import Derived.Test.YtdjnndcdplgojaaAL10
import Derived.ChangeMaps4
namespace Go.AL
variable {E : Env} {h : AHeap} {P : Program}

theorem flatE_get : ∀ (ms : List MapEntry) (i : Nat), (flatE ms)[3 * i]? = (ms[i]?).map (·.key) ∧ (flatE ms)[3 * i + 1]? = (ms[i]?).map (·.val)
  | [], i => by simp [flatE]
  | m :: r, 0 => by simp [flatE]
  | m :: r, i + 1 => by
    obtain ⟨h1, h2⟩ := flatE_get r i
    rw [show 3 * (i + 1) = 3 * i + 1 + 1 + 1 by omega]
    exact ⟨by simpa [flatE] using h1, by simpa [flatE] using h2⟩

/-- A map's entries are the machine's. -/
structure Ents (w : World) (F : Nat → Prop) (es : List (Int × AV)) (ms : List MapEntry) : Prop where
  len : ms.length = es.length
  at' : ∀ (i : Nat) n x, es[i]? = some (n, x) → ∃ m, ms[i]? = some m ∧ m.key = .int .i64 n ∧ Go.AL.Rel w F .nil x m.val

theorem map_of (H : HRel E h) {b : Nat} {es : List (Int × AV)} (hb : h[b]? = some (some (.mp es))) {cb base : Nat} (hr : E.S.ρ[b]? = some (cb, base)) :
    ∃ ms clock, E.w.heap[cb]? = some (.map ms.toArray clock) ∧ MapKept.Stamped ms.toArray clock ∧ ¬ E.F cb ∧ base = 0 ∧ Ents E.w E.F es ms := by
  obtain ⟨_, cb', base', c, e, h1, h2, h3, ⟨h4, ms, rfl, h5, h6⟩, h7⟩ := H.blk b _ hb
  rw [hr] at h1
  obtain ⟨rfl, rfl⟩ := Prod.mk.inj (Option.some.inj h1)
  refine ⟨ms, e, by simpa [ABlk.obj, entsOf_flat] using h2, h6, h3, h4, h5, fun i n x hx => ?_⟩
  obtain ⟨v0, g1, g2⟩ := h7 i 0 (.int .i64 n) (by simp [ABlk.cell, hx])
  obtain ⟨v1, g3, g4⟩ := h7 i 1 x (by simp [ABlk.cell, hx])
  obtain ⟨f1, f2⟩ := flatE_get ms i
  have hlt : i < ms.length := by rw [h5]; exact (List.getElem?_eq_some_iff.1 hx).1
  simp only [ABlk.shape, h4, Nat.zero_add, List.getElem?_toArray, Nat.add_zero, Nat.mul_comm i 3, f1, f2, List.getElem?_eq_getElem hlt, Option.map_some, Option.some.injEq] at g1 g3
  subst g1 g3
  refine ⟨ms[i], List.getElem?_eq_getElem hlt, ?_, g4⟩
  have := rel_int (E := ⟨E.w, E.F, .nil⟩) g2
  exact this

/-- A block holds another map. -/
def Env.setB (E : Env) (cb : Nat) (o : Obj) : Env := { E with w := { E.w with heap := E.w.heap.setIfInBounds cb o } }

theorem setB_other (E : Env) {cb b : Nat} (o : Obj) (hb : b ≠ cb) : (E.setB cb o).w.heap[b]? = E.w.heap[b]? := by
  show (E.w.heap.setIfInBounds cb o)[b]? = _
  rw [Array.getElem?_setIfInBounds, if_neg (fun h => hb h.symm)]

theorem HRel.ext_setB (H : HRel E h) {cb : Nat} (hown : E.S.own cb) {ms : Array MapEntry} {clock : Nat} (hc : E.w.heap[cb]? = some (.map ms clock)) (o : Obj)
    (ho : ∃ es q, (E.setB cb o).w.heap[cb]? = some (.map es q)) : Ext E (E.setB cb o) where
  os := rfl
  tape := rfl
  output := rfl
  size := by simp [Env.setB]
  frz _ h := h
  same b _ hn := setB_other E o (fun e => hn (e ▸ hown))
  rho _ _ h := h
  sh _ _ _ h := h
  rlen := H.rlen
  own _ h := .inl h
  nfrz _ h := .inl h
  cap b c₀ e₀ f₀ hb := by
    by_cases hbg : b = cb
    · subst hbg; rw [hc] at hb; cases hb
    · exact ⟨c₀, e₀, f₀, by rw [setB_other E o hbg]; exact hb, rfl, rfl⟩
  mcap b es q hb := by
    by_cases hbg : b = cb
    · subst hbg; exact ho
    · exact ⟨es, q, by rw [setB_other E o hbg]; exact hb⟩
  off := H.off

theorem HRel.setM (H : HRel E h) {b : Nat} {es : List (Int × AV)} (hb : h[b]? = some (some (.mp es))) {cb base : Nat} (hr : E.S.ρ[b]? = some (cb, base)) {ms0 : Array MapEntry} {clock0 : Nat}
    (hc : E.w.heap[cb]? = some (.map ms0 clock0)) {es' : List (Int × AV)} {ms : List MapEntry} {clock : Nat} (hst : MapKept.Stamped ms.toArray clock) (hE : Ents E.w E.F es' ms) :
    Ext E (E.setB cb (.map ms.toArray clock)) ∧ HRel (E.setB cb (.map ms.toArray clock)) (lset h b (some (.mp es'))) := by
  obtain ⟨_, _, _, _, hnF, hbase, _⟩ := map_of H hb hr
  have hblt : b < h.length := (List.getElem?_eq_some_iff.1 hb).1
  have hcl : cb < E.w.heap.size := (Array.getElem?_eq_some_iff.1 hc).1
  have hnew : (E.setB cb (.map ms.toArray clock)).w.heap[cb]? = some (.map ms.toArray clock) := by
    show (E.w.heap.setIfInBounds cb _)[cb]? = _
    rw [Array.getElem?_setIfInBounds, if_pos rfl, if_pos hcl]
  have hX := H.ext_setB (H.own_of hb hr) hc (.map ms.toArray clock) ⟨_, _, hnew⟩
  refine ⟨hX, ?_, ?_, fun k bk hk => ?_, fun k k' bk bk' c ba ba' h1 h2 h3 h4 => ?_, fun x hx => Nat.lt_of_lt_of_le (H.frz x hx) hX.size⟩
  · show E.S.sh = _
    rw [H.sh, lset_eq]
    apply List.ext_getElem?
    intro i
    rw [List.getElem?_map, List.getElem?_map, List.getElem?_set]
    by_cases hi : b = i
    · subst hi; rw [if_pos rfl, if_pos hblt, hb]; simp [ABlk.shape]
    · simp [hi]
  · show E.S.ρ.length = _
    rw [H.len, lset_eq, List.length_set]
  · rw [lset_eq, List.getElem?_set] at hk
    by_cases hbk : b = k
    · subst hbk
      rw [if_pos rfl, if_pos hblt] at hk
      obtain rfl := Option.some.inj (Option.some.inj hk)
      refine ⟨trivial, cb, base, (flatE ms).toArray, clock, hr, ?_, hnF, ⟨hbase, ms, rfl, hE.len, hst⟩, fun i j x hx => ?_⟩
      · rw [hnew]; simp [ABlk.obj, entsOf_flat]
      · simp only [ABlk.cell, Option.bind_eq_some_iff] at hx
        obtain ⟨⟨n, y⟩, hi, hj⟩ := hx
        obtain ⟨m, g1, g2, g3⟩ := hE.at' i n y hi
        obtain ⟨f1, f2⟩ := flatE_get ms i
        rw [g1] at f1 f2
        simp only [ABlk.shape, hbase, Nat.zero_add, List.getElem?_toArray, Nat.mul_comm i 3]
        match j, hj with
        | 0, hj =>
          simp only [List.getElem?_cons_zero, Option.some.injEq] at hj
          subst hj
          refine ⟨m.key, by simpa using f1, ?_⟩
          rw [g2]; exact .int ..
        | 1, hj =>
          simp only [List.getElem?_cons_succ, List.getElem?_cons_zero, Option.some.injEq] at hj
          subst hj
          exact ⟨m.val, by simpa using f2, Rel.mono (w := E.w) (F := E.F) (w' := (E.setB cb (.map ms.toArray clock)).w) (F' := E.F) (fun _ h => h) (fun x o hx => cell_of_heap (setB_other E _ (fun he => hnF (by rw [← he]; exact hx))) _ _) g3 _ (fun _ _ h => h) (fun _ _ _ _ h => h) hX.cap⟩
        | j + 2, hj => simp at hj
    · rw [if_neg hbk] at hk
      obtain ⟨h0, cb₁, base₁, c₁, e₁, h1, h2, h3, h4, h5⟩ := H.blk k bk hk
      have hne : cb₁ ≠ cb := fun hcb => by
        subst hcb
        exact hbk (H.inj b k _ bk _ _ _ hb hk hr h1)
      refine ⟨h0, cb₁, base₁, c₁, e₁, h1, by rw [← h2]; exact setB_other E _ hne, h3, h4, fun i j x hx => ?_⟩
      obtain ⟨v, hv1, hv2⟩ := h5 i j x hx
      exact ⟨v, hv1, inner_mono hX H.frz _ hv2⟩
  · have back : ∀ (j : Nat) bj, (lset h b (some (.mp es')))[j]? = some (some bj) → ∃ bj', h[j]? = some (some bj') := by
      intro j bj hj
      rw [lset_eq, List.getElem?_set] at hj
      by_cases hkj : b = j
      · subst hkj; exact ⟨_, hb⟩
      · rw [if_neg hkj] at hj; exact ⟨bj, hj⟩
    obtain ⟨_, q1⟩ := back k bk h1
    obtain ⟨_, q2⟩ := back k' bk' h2
    exact H.inj k k' _ _ c ba ba' q1 q2 h3 h4

/-- Where a key stands, in both. -/
theorem find_ent {w : World} {F : Nat → Prop} (n : Int) (y : AV) : ∀ (es : List (Int × AV)) (ms : List MapEntry) (i0 : Nat), Ents w F es ms →
    (mpGet n es = none ∧ Instr.findNow (.int .i64) (.int .i64 n) ms i0 = some none ∧ mpSet n y es = es ++ [(n, y)] ∧ mpDel n es = es ∧ ∀ m ∈ ms, m.key ≠ .int .i64 n) ∨
    (∃ k x m, es[k]? = some (n, x) ∧ ms[k]? = some m ∧ m.key = .int .i64 n ∧ Go.AL.Rel w F .nil x m.val ∧ mpGet n es = some x ∧
      Instr.findNow (.int .i64) (.int .i64 n) ms i0 = some (some (i0 + k, m.val)) ∧ mpSet n y es = es.set k (n, y) ∧ mpDel n es = es.eraseIdx k)
  | [], ms, i0, hE => by
    obtain rfl : ms = [] := List.eq_nil_of_length_eq_zero hE.len
    exact .inl ⟨rfl, rfl, rfl, rfl, by simp⟩
  | (q, x) :: es, ms, i0, hE => by
    obtain ⟨m, g1, g2, g3⟩ := hE.at' 0 q x rfl
    match ms, g1, hE with
    | m' :: ms, g1, hE =>
      obtain rfl : m' = m := by simpa using g1
      have hT : Ents w F es ms := ⟨by simpa using hE.len, fun i n x hx => by simpa using hE.at' (i + 1) n x (by simpa using hx)⟩
      by_cases hq : n = q
      · subst hq
        refine .inr ⟨0, x, m', rfl, rfl, g2, g3, by simp [mpGet], ?_, by simp [mpSet], by simp [mpDel]⟩
        simp [Instr.findNow, g2, Instr.sameNow]
      · rcases find_ent n y es ms (i0 + 1) hT with ⟨r1, r2, r3, r4, r5⟩ | ⟨k, x', m2, r1, r2, r3, r4, r5, r6, r7, r8⟩
        · refine .inl ⟨by simp [mpGet, hq, r1], ?_, by simp [mpSet, hq, r3], by simp [mpDel, hq, r4], ?_⟩
          · have : (n == q) = false := by simpa using hq
            simp [Instr.findNow, g2, Instr.sameNow, this, r2]
          · intro m3 hm3
            rcases List.mem_cons.1 hm3 with rfl | hm3
            · rw [g2]; intro he; injection he with _ he; exact hq he.symm
            · exact r5 m3 hm3
        · refine .inr ⟨k + 1, x', m2, by simpa using r1, by simpa using r2, r3, r4, by simp [mpGet, hq, r5], ?_, by simp [mpSet, hq, r7], by simp [mpDel, hq, r8]⟩
          have : (n == q) = false := by simpa using hq
          simp only [Instr.findNow, g2, Instr.sameNow, this, if_true, r6]
          rw [show i0 + 1 + k = i0 + (k + 1) by omega]

theorem closedU_nil {w : World} {F : Nat → Prop} {S : Shp} {x : AV} {v : Value} (hc : closedU x = true) (hr : Go.AL.Rel w F S x v) : Go.AL.Rel w F .nil x v := by
  cases x with
  | undef => exact .undef ..
  | _ => exact closed_nil hc hr

theorem closed1_nil {w : World} {F : Nat → Prop} {S : Shp} {x : AV} {v : Value} (hc : closed1 x = true) (hr : Go.AL.Rel w F S x v) : Go.AL.Rel w F .nil x v := by
  cases x with
  | agg cs =>
    cases hr with
    | agg _ _ vs h1 h2 => exact .agg _ _ _ h1 fun i c v hc' hv => closedU_nil (List.all_eq_true.1 hc c (List.mem_of_getElem? hc')) (h2 i c v hc' hv)
  | _ => exact closed_nil hc hr

theorem op_mkmap (H : HRel E h) (t : TypeId) : Runs P (do pure (.value (← Instr.makeMap t none))) E h (.map h.length) (.push (.mp [])) := by
  have Hp := H.pushB (.mp []) #[] 0 trivial ⟨rfl, [], rfl, rfl, MapKept.stamped_empty _⟩ (fun i j x hx => by simp [ABlk.cell] at hx)
  refine ⟨_, .map (some E.w.heap.size), .inl ?_, H.ext_push _ _, Hp, ?_⟩
  · rfl
  · refine .map _ _ E.w.heap.size 0 ?_
    show (E.S.ρ ++ [(E.w.heap.size, 0)])[h.length]? = _
    rw [← H.len]; simp

theorem rel_map {x : AV} {b : Nat} {vx : Value} (hx : E.R x vx) (he : x = .map b) : ∃ cb base, vx = .map (some cb) ∧ E.S.ρ[b]? = some (cb, base) := by
  subst he
  cases hx with
  | map _ _ cb base h1 => exact ⟨cb, base, rfl, h1⟩

theorem op_mlen (H : HRel E h) {t ty k e : TypeId} (ht : P.underlying t = some (.map k e)) {b : Nat} {es : List (Int × AV)} (hb : nth h b = some (some (.mp es))) {vx : Value} (hx : E.R (.map b) vx) :
    Runs P (do pure (.value (← Builtin.len_ #[t] ty #[vx]))) E h (.int .i64 es.length) .keep := by
  rw [nth_eq] at hb
  obtain ⟨cb, base, rfl, hr⟩ := rel_map hx rfl
  obtain ⟨ms, clock, h1, _, _, _, hE⟩ := map_of H hb hr
  refine .keep H (u := .int .i64 es.length) ?_ (.int ..)
  simp [Builtin.len_, run_underlying ht, MapKept.run_getObj_map h1, goInt, hE.len]

theorem op_mlook (H : HRel E h) {t k e : TypeId} (ht : P.underlying t = some (.map k e)) (hk : P.underlying k = some (.int .i64)) {i : TypeInfo} (hi : P.info? e = some i) {zv : Value} (hz : i.zero = some zv)
    {z : AV} (hzz : cVal zv = some z) (ok : Bool) {b : Nat} {es : List (Int × AV)} (hb : nth h b = some (some (.mp es))) {vx : Value} (hx : E.R (.map b) vx) (n : Int) :
    Runs P (do pure (.value (← Instr.lookup t vx (.int .i64 n) ok))) E h (mpAns ok (mpGet n es) z) .keep := by
  rw [nth_eq] at hb
  obtain ⟨cb, base, rfl, hr⟩ := rel_map hx rfl
  obtain ⟨ms, clock, h1, _, _, _, hE⟩ := map_of H hb hr
  have hkey : MapKept.IsKey (.int .i64) (.int .i64 n) := rfl
  have hzr : ∀ w, (zeroValue e).run P w = .ok zv w := by intro w; simp [zeroValue, typeInfo, hi, hz]
  rcases find_ent n .undef es ms 0 hE with ⟨r1, r2, _⟩ | ⟨q, x, m, _, _, _, r4, r5, r6, _⟩
  · rw [r1]
    cases ok
    · refine .keep H (u := zv) ?_ (cVal_rel hzz ..)
      simp [Instr.lookup, run_underlying ht, MapKept.run_getObj_map h1, MapKept.run_checkKey hk hkey, MapKept.run_findKey hk r2, hzr]
    · refine .keep H (u := .tuple #[zv, .bool false]) ?_ ?_
      · simp [Instr.lookup, run_underlying ht, MapKept.run_getObj_map h1, MapKept.run_checkKey hk hkey, MapKept.run_findKey hk r2, hzr]
      · refine .tup _ _ _ rfl fun i c v hc hv => ?_
        match i, hc, hv with
        | 0, hc, hv => simp at hc hv; subst hc hv; exact cVal_rel hzz ..
        | 1, hc, hv => simp at hc hv; subst hc hv; exact .bool ..
        | i + 2, hc, _ => simp at hc
  · rw [r5]
    cases ok
    · refine .keep H (u := m.val) ?_ (r4.nil_to _)
      simp [Instr.lookup, run_underlying ht, MapKept.run_getObj_map h1, MapKept.run_checkKey hk hkey, MapKept.run_findKey hk r6]
    · refine .keep H (u := .tuple #[m.val, .bool true]) ?_ ?_
      · simp [Instr.lookup, run_underlying ht, MapKept.run_getObj_map h1, MapKept.run_checkKey hk hkey, MapKept.run_findKey hk r6]
      · refine .tup _ _ _ rfl fun i c v hc hv => ?_
        match i, hc, hv with
        | 0, hc, hv => simp at hc hv; subst hc hv; exact r4.nil_to _
        | 1, hc, hv => simp at hc hv; subst hc hv; exact .bool ..
        | i + 2, hc, _ => simp at hc

theorem Ents.push {w : World} {F : Nat → Prop} {es : List (Int × AV)} {ms : List MapEntry} (hE : Ents w F es ms) (n : Int) {x : AV} {v : Value} (hv : Go.AL.Rel w F .nil x v) (c : Nat) :
    Ents w F (es ++ [(n, x)]) (ms ++ [⟨.int .i64 n, v, c⟩]) := by
  refine ⟨by simp [hE.len], fun i q y hi => ?_⟩
  rw [List.getElem?_append] at hi ⊢
  rw [hE.len]
  split at hi
  · rename_i hlt
    rw [if_pos hlt]; exact hE.at' i q y hi
  · rename_i hlt
    rw [if_neg hlt]
    match h0 : i - es.length, hi with
    | 0, hi =>
      simp at hi
      obtain ⟨rfl, rfl⟩ := hi
      exact ⟨_, rfl, rfl, hv⟩
    | q + 1, hi => simp at hi

theorem Ents.set {w : World} {F : Nat → Prop} {es : List (Int × AV)} {ms : List MapEntry} (hE : Ents w F es ms) (n : Int) {x : AV} {v : Value} (hv : Go.AL.Rel w F .nil x v) (k : Nat) (m : MapEntry) :
    Ents w F (es.set k (n, x)) (ms.set k { m with key := .int .i64 n, val := v }) := by
  refine ⟨by simp [hE.len], fun i q y hi => ?_⟩
  rw [List.getElem?_set] at hi ⊢
  rw [hE.len]
  split at hi
  · rename_i hki
    subst hki
    split at hi <;> try (cases hi; done)
    rename_i hlt
    rw [if_pos rfl, if_pos hlt]
    simp at hi
    obtain ⟨rfl, rfl⟩ := hi
    exact ⟨_, rfl, rfl, hv⟩
  · rename_i hki
    rw [if_neg hki]; exact hE.at' i q y hi

theorem Ents.erase {w : World} {F : Nat → Prop} {es : List (Int × AV)} {ms : List MapEntry} (hE : Ents w F es ms) (k : Nat) : Ents w F (es.eraseIdx k) (ms.eraseIdx k) := by
  refine ⟨by simp [List.length_eraseIdx, hE.len], fun i q y hi => ?_⟩
  rw [List.getElem?_eraseIdx] at hi ⊢
  split at hi
  · rename_i hlt
    rw [if_pos hlt]; exact hE.at' i q y hi
  · rename_i hlt
    rw [if_neg hlt]; exact hE.at' (i + 1) q y hi

theorem op_mdel (H : HRel E h) {t k e ty : TypeId} (ht : P.underlying t = some (.map k e)) (hk : P.underlying k = some (.int .i64)) {b : Nat} {es : List (Int × AV)} (hb : nth h b = some (some (.mp es)))
    {vx : Value} (hx : E.R (.map b) vx) (n : Int) {ats : Array TypeId} (hat : ats[0]? = some t) :
    Runs P (do pure (.value (← Builtin.delete_ ats ty #[vx, .int .i64 n]))) E h (.tup []) (.put b (.mp (mpDel n es))) := by
  rw [nth_eq] at hb
  obtain ⟨cb, base, rfl, hr⟩ := rel_map hx rfl
  obtain ⟨ms, clock, h1, hst, _, _, hE⟩ := map_of H hb hr
  have hkey : MapKept.IsKey (.int .i64) (.int .i64 n) := rfl
  rcases find_ent n .undef es ms 0 hE with ⟨r1, r2, _, r4, _⟩ | ⟨q, x, m, g1, g2, g3, r4, r5, r6, _, r8⟩
  · rw [r4]
    obtain ⟨X, HH⟩ := H.setM hb hr h1 hst hE
    refine ⟨_, .tuple #[], .inl ?_, X, HH, .tup _ _ _ rfl (by simp)⟩
    simp [Builtin.delete_, hat, run_underlying ht, MapKept.run_getObj_map h1, MapKept.run_checkKey hk hkey, MapKept.run_findKey hk r2, MapKept.run_setObj_map _ h1, Env.setB]
  · rw [r8]
    have hlt : q < ms.length := (List.getElem?_eq_some_iff.1 g2).1
    have her : (ms.toArray.eraseIdxIfInBounds q) = (ms.eraseIdx q).toArray := by
      unfold Array.eraseIdxIfInBounds
      rw [dif_pos (by simpa using hlt)]
      simp
    have hst' := MapKept.stamped_erase hst q
    rw [her] at hst'
    obtain ⟨X, HH⟩ := H.setM hb hr h1 hst' (hE.erase q)
    refine ⟨_, .tuple #[], .inl ?_, X, HH, .tup _ _ _ rfl (by simp)⟩
    simp [Builtin.delete_, hat, run_underlying ht, MapKept.run_getObj_map h1, MapKept.run_checkKey hk hkey, MapKept.run_findKey hk r6, MapKept.run_setObj_map _ h1, Env.setB]

theorem op_mset (H : HRel E h) {t k e : TypeId} (ht : P.underlying t = some (.map k e)) (hk : P.underlying k = some (.int .i64)) {b : Nat} {es : List (Int × AV)} (hb : nth h b = some (some (.mp es)))
    {vx : Value} (hx : E.R (.map b) vx) (n : Int) {y : AV} {vy : Value} (hy : Go.AL.Rel E.w E.F .nil y vy) :
    Runs P (do Instr.mapUpdate t vx (.int .i64 n) vy; pure .skip) E h .undef (.put b (.mp (mpSet n y es))) := by
  rw [nth_eq] at hb
  obtain ⟨cb, base, rfl, hr⟩ := rel_map hx rfl
  obtain ⟨ms, clock, h1, hst, _, _, hE⟩ := map_of H hb hr
  have hkey : MapKept.IsKey (.int .i64) (.int .i64 n) := rfl
  rcases find_ent n y es ms 0 hE with ⟨r1, r2, r3, r4, r5⟩ | ⟨q, x, m, g1, g2, g3, r4, r5, r6, r7, _⟩
  · rw [r3]
    have hst' := MapKept.stamped_push (key := .int .i64 n) (val := vy) hst (by simpa using r5)
    obtain ⟨X, HH⟩ := H.setM hb hr h1 (ms := ms ++ [⟨.int .i64 n, vy, clock⟩]) (clock := clock + 1) (by simpa using hst') (hE.push n hy clock)
    refine ⟨_, undef, .inr ⟨?_, rfl⟩, X, HH, .undef ..⟩
    simp [Instr.mapUpdate, run_underlying ht, MapKept.run_getObj_map h1, MapKept.run_checkKey hk hkey, MapKept.run_findKey hk r2, MapKept.run_setObj_map _ h1, Env.setB]
  · rw [r7]
    have hlt : q < ms.length := (List.getElem?_eq_some_iff.1 g2).1
    have hmod : (ms.toArray.modify q fun e' => { e' with key := .int .i64 n, val := vy }) = (ms.set q { m with key := .int .i64 n, val := vy }).toArray := by
      apply Array.ext_getElem?
      intro i
      rw [Array.getElem?_modify, List.getElem?_toArray, List.getElem?_toArray, List.getElem?_set]
      by_cases hqi : q = i
      · subst hqi; rw [if_pos rfl, if_pos rfl, if_pos hlt, g2]; rfl
      · rw [if_neg hqi, if_neg hqi]
    have hst' : MapKept.Stamped (ms.toArray.modify q fun e' => { e' with key := .int .i64 n, val := vy }) clock := MapKept.stamped_modify hst _ _ (fun _ _ => rfl) fun e' _ he' => by
      have : e' = m := by simpa [g2] using he'.symm
      subst this; exact g3.symm
    rw [hmod] at hst'
    obtain ⟨X, HH⟩ := H.setM hb hr h1 hst' (hE.set n hy q m)
    refine ⟨_, undef, .inr ⟨?_, rfl⟩, X, HH, .undef ..⟩
    have hmodL : (ms.modify q fun e' => { e' with key := .int .i64 n, val := vy }) = ms.set q { m with key := .int .i64 n, val := vy } := by
      have := congrArg Array.toList hmod
      simpa using this
    simp [Instr.mapUpdate, run_underlying ht, MapKept.run_getObj_map h1, MapKept.run_checkKey hk hkey, MapKept.run_findKey hk r6, g2, g3, MapKept.run_keyThatStays hkey, MapKept.run_setObj_map _ h1, Env.setB, hmodL]

end Go.AL
