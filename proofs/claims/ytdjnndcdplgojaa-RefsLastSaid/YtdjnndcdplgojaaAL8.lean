/- The other operations that call nothing. Seat-independent. -/
import Derived.Test.YtdjnndcdplgojaaAL6
import Derived.Laws.Append
namespace Go.AL
variable {E : Env} {h : AHeap} {P : Program}

theorem op_nilc (H : HRel E h) {x : AV} {vx : Value} (hx : E.R x vx) (hk : (match x with | .bp .. | .bt .. | .ep .. | .rp .. | .fn .. => true | _ => false) = true) {o : Oper} {y : Operand} {a : Act}
    (ho : o.op = .nilCheck y) (hy : a.eval y = vx) : Runs P (execOp a.eval o) E h x .keep := by
  refine .keep H (u := vx) ?_ hx
  simp only [execOp, ho, hy]
  cases hx <;> simp at hk <;> rfl

def ptrAdd (a : AV) (n : Nat) : Option AV :=
  match a with
  | .bp b j => some (.bp b (j + n))
  | .bt b _ _ => some (.bp b n)
  | .ep b i j => some (.ep b i (j + n))
  | .rp r j => some (.rp r (j + n))
  | _ => none

theorem op_fld (H : HRel E h) {t : TypeId} {fields : Array Field} (ht : P.underlying t = some (.struct fields)) {f : Field} {i : Nat} (hf : fields[i]? = some f) {s : Nat} (hs : sizeB P f.type = some s) (h0 : s ≠ 0)
    {a : AV} {va : Value} (ha : E.R a va) {v : AV}
    (hv : ptrAdd a f.offset = some v) :
    Runs P (do pure (.value (← Instr.fieldAt t va i))) E h v .keep := by
  have key : ∀ ad, va = .pointer (some ad) → (Instr.fieldAt t va i).run P E.w = .ok (.pointer (some (ad.add f.offset))) E.w := by
    rintro ad rfl
    simp [Instr.fieldAt, run_underlying ht, hf, Instr.sureAddr, fieldPlace, run_sizeOf' hs, h0]
  cases ha <;> simp [ptrAdd] at hv <;> subst hv
  · rename_i b j cb base off h1 h2
    refine .keep H (by simp [key _ rfl]; rfl) ?_
    rw [add_plain]
    exact .bp _ _ _ cb base _ ‹_› (by omega)
  · rename_i b i j cb base off h1 h2
    refine .keep H (by simp [key _ rfl]; rfl) ?_
    rw [add_plain]
    refine .ep _ _ _ _ _ _ _ h1 fun s N hN => ?_
    rw [h2 s N hN]; omega
  · rename_i row j cb base off vs h1 h2 h3 h4
    refine .keep H (by simp [key _ rfl]; rfl) ?_
    rw [add_plain]
    exact .rp _ _ _ cb base _ vs h1 (by omega) h3 h4
  · rename_i b T n cb c f h1 h2 h3
    refine .keep H (by simp [key _ rfl]; rfl) ?_
    rw [add_plain]
    exact .bp _ _ _ cb 0 _ ‹_› (by omega)

theorem run_part1 {t : TypeId} (hg : isAggB P t = some false) {vs : Array Value} {off : Nat} {u : Value} (hu : vs[off]? = some u) (w : World) : (Go.part t vs off).run P w = .ok u w := by
  simp [Go.part, run_isAgg' hg, hu]

theorem run_partN {t : TypeId} (hg : isAggB P t = some true) {s : Nat} (hs : sizeB P t = some s) {vs : Array Value} {off : Nat} (w : World) :
    (Go.part t vs off).run P w = .ok (.agg (vs.extract off (off + s))) w := by
  simp [Go.part, run_isAgg' hg, run_sizeOf' hs]

theorem bes_part {cs : List AV} {vs : Array Value} (hb : Bes E cs vs.toList) {off n : Nat} {l : List AV} (hp : part cs off n = some l) : Bes E l (vs.extract off (off + n)).toList := by
  obtain ⟨p1, p2⟩ := part_get hp
  have hle := (part_some hp).1
  have hsz : vs.size = cs.length := by have := hb.1; simp at this; omega
  refine ⟨by simp; omega, fun q x v hx hv => ?_⟩
  have hq : q < n := by have := (List.getElem?_eq_some_iff.1 hx).1; omega
  refine hb.2 (off + q) x v (p2 q x hx) ?_
  simp only [Array.toList_extract, List.getElem?_take, List.getElem?_drop, List.extract_eq_take_drop] at hv
  split at hv
  · exact hv
  · cases hv

/-- A part of a struct or an array by value. -/
theorem part_sound {t : TypeId} {g : Bool} (hg : isAggB P t = some g) {s : Nat} (hs : sizeB P t = some s) (hgs : g = true ∨ s = 1) {cs : List AV} {vs : Array Value} (hb : Bes E cs vs.toList) {off : Nat} {v : AV}
    (hv : (match (!g), part cs off s with | true, some [v] => some v | false, some l => some (AV.agg l) | _, _ => none) = some v) :
    ∃ u, (Go.part t vs off).run P E.w = .ok u E.w ∧ E.R v u := by
  cases g with
  | true =>
    simp only [Bool.not_true] at hv
    cases hp : part cs off s with
    | none => rw [hp] at hv; simp at hv
    | some l =>
      rw [hp] at hv
      simp only [Option.some.injEq] at hv
      subst hv
      exact ⟨_, run_partN hg hs _, agg_rel (bes_part hb hp)⟩
  | false =>
    obtain rfl : s = 1 := by simpa using hgs
    simp only [Bool.not_false] at hv
    cases hp : part cs off 1 with
    | none => rw [hp] at hv; simp at hv
    | some l =>
      rw [hp] at hv
      obtain ⟨p1, p2⟩ := part_get hp
      match l, p1, hv, p2 with
      | [x], _, hv, p2 =>
        simp only [Option.some.injEq] at hv
        subst hv
        obtain ⟨u, hu, hR⟩ := hb.get (p2 0 x rfl)
        exact ⟨u, run_part1 hg (by simpa using hu) _, hR⟩

theorem op_field (H : HRel E h) {t : TypeId} {fields : Array Field} (ht : P.underlying t = some (.struct fields)) {f : Field} {i : Nat} (hf : fields[i]? = some f) {s : Nat} (hs : sizeB P f.type = some s)
    {g : Bool} (hg : isAggB P f.type = some g) (hgs : g = true ∨ s = 1) {cs : List AV} {va : Value} (ha : E.R (.agg cs) va) {v : AV}
    (hv : (match (!g), part cs f.offset s with | true, some [v] => some v | false, some l => some (AV.agg l) | _, _ => none) = some v) :
    Runs P (do pure (.value (← Instr.field t va i))) E h v .keep := by
  obtain ⟨vs, rfl, hb⟩ := rel_agg ha
  obtain ⟨u, hu, hR⟩ := part_sound hg hs hgs hb hv
  refine .keep H (u := u) ?_ hR
  simp [Instr.field, run_underlying ht, hf, asAgg, hu]

theorem op_indexA (H : HRel E h) {t : TypeId} {n : Nat} {e : TypeId} (ht : P.underlying t = some (.array n e)) {s : Nat} (hs : sizeB P e = some s)
    {g : Bool} (hg : isAggB P e = some g) (hgs : g = true ∨ s = 1) {cs : List AV} {va : Value} (ha : E.R (.agg cs) va) {k : IntKind} {i : Int} (hi : 0 ≤ i ∧ i < n) {v : AV}
    (hv : (match (!g), part cs (i.toNat * s) s with | true, some [v] => some v | false, some l => some (AV.agg l) | _, _ => none) = some v) :
    Runs P (do pure (.value (← Instr.index t va (.int k i)))) E h v .keep := by
  obtain ⟨vs, rfl, hb⟩ := rel_agg ha
  obtain ⟨u, hu, hR⟩ := part_sound hg hs hgs hb hv
  refine .keep H (u := u) ?_ hR
  simp [Instr.index, run_underlying ht, asIntOf, hi, run_sizeOf' hs, hu]

theorem op_indexStr (H : HRel E h) {t : TypeId} (ht : P.underlying t = some .string) {s : ByteArray} {k : IntKind} {i : Int} (hi : 0 ≤ i ∧ i < s.size) :
    Runs P (do pure (.value (← Instr.index t (.string s) (.int k i)))) E h (.int .u8 (s.data.getD i.toNat 0).toNat) .keep := by
  have hlt : i.toNat < s.data.size := by have : s.size = s.data.size := rfl; omega
  have hlt' : i.toNat < s.size := hlt
  refine .keep H (u := .int .u8 (s.data.getD i.toNat 0).toNat) ?_ (.int ..)
  have : s[i.toNat]? = some (s.data.getD i.toNat 0) := by
    rw [getElem?_pos s i.toNat hlt']
    simp [Array.getD, ByteArray.getElem_eq_getElem_data]
    intro hh; omega
  simp [Instr.index, run_underlying ht, asIntOf, hi.1, this]

theorem op_idxA (H : HRel E h) {t : TypeId} {n : Nat} {e : TypeId} (ht : P.underlying t = some (.array n e)) {s : Nat} (hs : sizeB P e = some s)
    {a : AV} {va : Value} (ha : E.R a va) {k : IntKind} {i : Int} (hi : 0 ≤ i ∧ i < n) {v : AV}
    (hv : ptrAdd a (i.toNat * s) = some v) :
    Runs P (do pure (.value (← Instr.indexAt t va (.int k i)))) E h v .keep := by
  have key : ∀ ad, va = .pointer (some ad) → (Instr.indexAt t va (.int k i)).run P E.w = .ok (.pointer (some (ad.add (i.toNat * s)))) E.w := by
    rintro ad rfl
    simp [Instr.indexAt, run_underlying ht, asIntOf, Instr.sureAddr, hi, run_sizeOf' hs]
  cases ha <;> simp [ptrAdd] at hv <;> subst hv
  · rename_i b j cb base off h1 h2
    refine .keep H (by simp [key _ rfl]; rfl) ?_
    rw [add_plain]
    exact .bp _ _ _ cb base _ ‹_› (by omega)
  · rename_i b i' j cb base off h1 h2
    refine .keep H (by simp [key _ rfl]; rfl) ?_
    rw [add_plain]
    refine .ep _ _ _ _ _ _ _ h1 fun s N hN => ?_
    rw [h2 s N hN]; omega
  · rename_i row j cb base off vs h1 h2 h3 h4
    refine .keep H (by simp [key _ rfl]; rfl) ?_
    rw [add_plain]
    exact .rp _ _ _ cb base _ vs h1 (by omega) h3 h4
  · rename_i b T n' cb c f h1 h2 h3
    refine .keep H (by simp [key _ rfl]; rfl) ?_
    rw [add_plain]
    exact .bp _ _ _ cb 0 _ ‹_› (by omega)

theorem run_indexS {t : TypeId} {e : TypeId} (ht : P.underlying t = some (.slice e)) {s : Nat} (hs : sizeB P e = some s) {ad : Addr} {n cap : Nat} {k : IntKind} {i : Int} (hi : 0 ≤ i ∧ i < n) (w : World) :
    (Instr.indexAt t (.slice (some ad) n cap) (.int k i)).run P w = .ok (.pointer (some (ad.add (i.toNat * s)))) w := by
  simp [Instr.indexAt, run_underlying ht, asIntOf, hi, run_sizeOf' hs]

theorem op_idxS_sl (H : HRel E h) {t : TypeId} {e : TypeId} (ht : P.underlying t = some (.slice e)) {s : Nat} (hs : sizeB P e = some s) {b r n : Nat} {va : Value} (ha : E.R (.sl b r n) va)
    {blk : ABlk} (hb : h[b]? = some (some blk)) (hsz : blk.shape.1 = s) {k : IntKind} {i : Int} (hi : 0 ≤ i ∧ i < n) :
    Runs P (do pure (.value (← Instr.indexAt t va (.int k i)))) E h (.ep b (r + i.toNat) 0) .keep := by
  cases ha with
  | sl _ _ _ _ cb base off cap h1 h2 h3 =>
    refine .keep H (by simp [run_indexS ht hs hi]; rfl) ?_
    rw [add_plain]
    refine .ep _ _ _ _ _ _ _ h1 fun s' N hN => ?_
    obtain ⟨h4, _⟩ := h2 s' N hN
    rw [H.live.2 ⟨blk, hb, rfl⟩] at hN
    have hN' := Option.some.inj (Option.some.inj hN)
    have : s' = s := by rw [← hsz, hN']
    subst this
    rw [h4.resolve_left (by omega), Nat.add_mul]; omega

theorem op_idxS_ri (H : HRel E h) {t : TypeId} {e : TypeId} (ht : P.underlying t = some (.slice e)) (hs : sizeB P e = some 1) {kk : IntKind} {xs : List Int} {va : Value} (ha : E.R (.ri kk xs) va)
    {k : IntKind} {i : Int} (hi : 0 ≤ i ∧ i < xs.length) :
    Runs P (do pure (.value (← Instr.indexAt t va (.int k i)))) E h (.rp [.int kk (xs.getD i.toNat 0)] 0) .keep := by
  cases ha with
  | ri _ _ _ n cap a h1 h2 h3 h4 =>
    subst h1
    have hlt : i.toNat < xs.length := by omega
    obtain ⟨cb, off, rfl, b1, b2⟩ := h3 i.toNat _ (List.getElem?_eq_getElem hlt)
    refine .keep H (by simp [run_indexS ht hs hi]; rfl) ?_
    rw [add_plain]
    try rw [Nat.mul_one]
    refine .rp _ _ _ cb (off + i.toNat) _ (fun _ => .int kk (xs.getD i.toNat 0)) b1 rfl (fun j x hx => ?_) fun j x hx => ?_
    · match j, hx with
      | 0, _ => simp only [Nat.add_zero]; rw [b2]; simp [List.getD, List.getElem?_eq_getElem hlt]
    · match j, hx with
      | 0, hx => simp only [List.getElem?_cons_zero, Option.some.injEq] at hx; subst hx; exact .int ..

theorem op_idxS_ro (H : HRel E h) {t : TypeId} {e : TypeId} (ht : P.underlying t = some (.slice e)) {s : Nat} (hs : sizeB P e = some s) {rows : List (List AV)} {va : Value} (ha : E.R (.ro s rows) va)
    {k : IntKind} {i : Int} (hi : 0 ≤ i) {row : List AV} (hrow : rows[i.toNat]? = some row) :
    Runs P (do pure (.value (← Instr.indexAt t va (.int k i)))) E h (.rp row 0) .keep := by
  cases ha with
  | ro _ _ _ n cap a vs h1 h2 h3 h4 h5 =>
    subst h1
    have hlt : i.toNat < rows.length := (List.getElem?_eq_some_iff.1 hrow).1
    obtain ⟨b0, cb, off, rfl, b1, b2⟩ := h3 i.toNat _ hrow
    refine .keep H (by simp [run_indexS ht hs (show 0 ≤ i ∧ i < (rows.length : Int) by omega)]; rfl) ?_
    rw [add_plain]
    exact .rp _ _ _ cb (off + i.toNat * s) _ (vs i.toNat) b1 rfl (fun j x hx => b2 j x hx) fun j x hx => h4 _ _ row x hrow hx

theorem op_ext (H : HRel E h) {vs : List AV} {va : Value} (ha : E.R (.tup vs) va) {i : Nat} {v : AV} (hv : vs[i]? = some v) :
    Runs P (do pure (.value (← Instr.extract va i))) E h v .keep := by
  obtain ⟨us, rfl, hb⟩ := rel_tup ha
  obtain ⟨u, hu, hR⟩ := hb.get hv
  refine .keep H (u := u) ?_ hR
  have : us[i]? = some u := by simpa using hu
  simp [Instr.extract, this]

theorem sameKind_eq {k k' : IntKind} (h : sameKind k k' = true) : k = k' := by cases k <;> cases k' <;> first | rfl | cases h

theorem run_binI {op : BinOp} {t : TypeId} {k : IntKind} {a b : Int} {c : AV} (hv : binI op k a b = some (true, c)) (w : World) (E : Env) :
    ∃ u, (Go.binOp op t (.int k a) (.int k b)).run P w = .ok u w ∧ E.R c u := by
  cases op <;> simp only [binI, Option.some.injEq, Prod.mk.injEq, true_and, decide_eq_true_eq] at hv <;> first
    | (cases hv; done)
    | (obtain ⟨hb, rfl⟩ := hv; simp only [Go.binOp, ne_eq, not_true_eq_false, if_false, Op.intDiv, hb]; exact ⟨_, rfl, .int ..⟩)
    | (subst hv; simp only [Go.binOp, ne_eq, not_true_eq_false, if_false, Op.intArith]; exact ⟨_, rfl, .int ..⟩)
    | (subst hv; simp only [Go.binOp, ne_eq, not_true_eq_false, if_false]; exact ⟨_, rfl, .int ..⟩)
    | (subst hv; simp only [Go.binOp, ne_eq, not_true_eq_false, if_false, Op.intCmp]; exact ⟨_, rfl, .bool ..⟩)

theorem op_bin (H : HRel E h) {op : BinOp} {t ty : TypeId} {x y : Operand} {a : Act} {xa ya : AV} (hx : E.R xa (a.eval x)) (hy : E.R ya (a.eval y)) {v : AV} (hv : binA op xa ya = some (true, v)) :
    Runs P (do pure (.value (← (do eqGuard op t x y (a.eval x) (a.eval y); Go.binOp op t (a.eval x) (a.eval y))))) E h v .keep := by
  have _ := ty
  cases xa <;> simp only [binA] at hv <;> try (cases hv; done)
  rotate_left
  · rename_i s
    cases ya <;> simp only [] at hv <;> try (cases hv; done)
    rename_i s'
    split at hv <;> try (cases hv; done)
    simp only [Option.some.injEq, Prod.mk.injEq, decide_eq_true_eq] at hv
    obtain ⟨hle, rfl⟩ := hv
    rw [rel_str hx, rel_str hy]
    have hmax : IntKind.i64.max = 9223372036854775807 := rfl
    refine .keep H (u := .string (s ++ s')) ?_ (.str ..)
    simp only [Sem.run_bind]
    rw [show (eqGuard .add t x y (.string s) (.string s')).run P E.w = .ok () E.w by unfold eqGuard; simp only [Sem.run_ite, Sem.run_pure]; split <;> simp]
    simp only [Result.andThen_ok, Go.binOp, Op.stringOp, hmax]
    rw [if_neg (by omega)]
    simp
  cases ya <;> simp only [] at hv <;> try (cases hv; done)
  rename_i k n k' m
  rw [rel_int hx, rel_int hy]
  have hguard : ∀ w, (eqGuard op t x y (.int k n) (.int k' m)).run P w = .ok () w := by
    intro w
    unfold eqGuard
    simp only [Sem.run_ite, Sem.run_pure]
    split <;> simp
  cases op with
  | shl =>
    simp only [Option.some.injEq, Prod.mk.injEq, decide_eq_true_eq] at hv
    obtain ⟨h0, rfl⟩ := hv
    refine .keep H (u := .int k (k.wrap (n * 2 ^ (min m.toNat k.bits)))) ?_ (.int ..)
    simp [hguard, Go.binOp, Op.shift, show ¬ m < 0 by omega]
  | shr =>
    simp only [Option.some.injEq, Prod.mk.injEq, decide_eq_true_eq] at hv
    obtain ⟨h0, rfl⟩ := hv
    refine .keep H (u := .int k (n.fdiv (2 ^ (min m.toNat k.bits)))) ?_ (.int ..)
    simp [hguard, Go.binOp, Op.shift, show ¬ m < 0 by omega]
  | _ =>
    simp only [] at hv
    cases hk : sameKind k k' with
    | false => rw [hk] at hv; cases hv
    | true =>
      rw [hk] at hv
      obtain rfl := sameKind_eq hk
      obtain ⟨u, hu, hR⟩ := run_binI (P := P) (t := t) hv E.w E
      refine .keep H (u := u) ?_ hR
      simp only [Sem.run_bind, hguard, Result.andThen_ok, hu, Sem.run_pure]

theorem op_un (H : HRel E h) {op : UnOp} {xa : AV} {vx : Value} (hx : E.R xa vx) {v : AV} (hv : unA op xa = some v) :
    Runs P (do pure (.value (← Op.unary op vx))) E h v .keep := by
  cases xa <;> simp only [unA] at hv <;> try (cases hv; done)
  · cases op <;> simp only [] at hv <;> try (cases hv; done)
    obtain rfl := Option.some.inj hv
    rw [rel_int hx]
    exact .keep H (by simp [Op.unary, Op.intArith]) (.int ..)
  · cases op <;> simp only [] at hv <;> try (cases hv; done)
    obtain rfl := Option.some.inj hv
    rw [rel_bool hx]
    exact .keep H (by simp [Op.unary]) (.bool ..)

theorem op_conv (H : HRel E h) {src dst : TypeId} {k k' : IntKind} (h1 : P.underlying src = some (.int k)) (h2 : P.underlying dst = some (.int k')) {kk : IntKind} {n : Int} :
    Runs P (do pure (.value (← Go.convert src dst (.int kk n)))) E h (.int k' (k'.wrap n)) .keep :=
  .keep H (by simp [Go.convert, run_underlying h1, run_underlying h2, Conv.intToInt]) (.int ..)

theorem op_mkfn (H : HRel E h) {f : FuncId} {cap : List AV} {vs : Array Value} (hb : Bes E cap vs.toList) :
    Runs P (do pure (.value (← Instr.makeFunc (.func f) #[] vs))) E h (.fn f cap) .keep :=
  .keep H (u := .func (.func f) #[] vs) (by simp [Instr.makeFunc]) (.fn _ _ _ _ (by simpa using hb.1) fun i c v hc hv => hb.2 i c v hc (by simpa using hv))

theorem rel_sl {b i n : Nat} {v : Value} (h : E.R (.sl b i n) v) : ∃ cb base off cap, v = .slice (some ⟨cb, off, none⟩) n cap ∧ E.S.ρ[b]? = some (cb, base) ∧
    (∀ s N, E.S.sh[b]? = some (some (s, N)) → (cap = 0 ∨ off = base + i * s) ∧ i + n ≤ N ∧ N ≤ i + cap ∧ ∃ c e f, E.w.heap[cb]? = some (Obj.cells c e f) ∧ base + (i + cap) * s ≤ c.size) ∧ n ≤ cap := by
  cases h with
  | sl _ _ _ _ cb base off cap h1 h2 h3 => exact ⟨cb, base, off, cap, rfl, h1, h2, h3⟩

theorem rel_slc {b i n cap : Nat} {v : Value} (h : E.R (.slc b i n cap) v) : ∃ cb base off, v = .slice (some ⟨cb, off, none⟩) n cap ∧ E.S.ρ[b]? = some (cb, base) ∧
    (∀ s N, E.S.sh[b]? = some (some (s, N)) → (cap = 0 ∨ off = base + i * s) ∧ i + cap = N ∧ ∃ c e f, E.w.heap[cb]? = some (Obj.cells c e f) ∧ base + N * s ≤ c.size) ∧ n ≤ cap := by
  cases h with
  | slc _ _ _ _ _ cb base off h1 h2 h3 => exact ⟨cb, base, off, rfl, h1, h2, h3⟩

theorem sl_of_slc {b i n cap : Nat} {v : Value} (h : E.R (.slc b i n cap) v) : E.R (.sl b i n) v := by
  obtain ⟨cb, base, off, rfl, h1, h2, h3⟩ := rel_slc h
  refine .sl _ _ _ _ _ _ _ _ h1 (fun s N hN => ?_) h3
  obtain ⟨a1, a2, c, e, f, a3, a4⟩ := h2 s N hN
  exact ⟨a1, by omega, by omega, c, e, f, a3, by rw [a2]; exact a4⟩

/-- A slice's value. -/
theorem slice_form {x : AV} {v : Value} (hx : E.R x v) {n : Nat} (hn : slLen x = some n) : ∃ a cap, v = .slice a n cap ∧ n ≤ cap ∧ (a = none → cap = 0) := by
  cases hx <;> simp [slLen] at hn <;> subst hn
  · exact ⟨none, 0, rfl, Nat.le_refl _, fun _ => rfl⟩
  · exact ⟨some _, 0, rfl, Nat.le_refl _, by simp⟩
  · exact ⟨some _, _, rfl, Nat.zero_le _, by simp⟩
  · exact ⟨_, _, rfl, ‹_›, by simp⟩
  · rename_i a h1 h2 h3 h4; subst h1; exact ⟨a, _, rfl, h2, h4⟩
  · rename_i a vs h1 h2 h3 h4 h5; subst h1; exact ⟨a, _, rfl, h2, h5⟩
  · rename_i a h1 h2; exact ⟨a, _, rfl, h1, h2⟩
  · exact ⟨_, _, rfl, ‹_›, by simp⟩

theorem op_lenS (H : HRel E h) {t ty : TypeId} (ht : P.underlying t = some .string) {s : ByteArray} :
    Runs P (do pure (.value (← Builtin.len_ #[t] ty #[.string s]))) E h (.int .i64 s.size) .keep :=
  .keep H (by simp [Builtin.len_, run_underlying ht, goInt]) (.int ..)

theorem op_lenL (H : HRel E h) {t ty e : TypeId} (ht : P.underlying t = some (.slice e)) {x : AV} {vx : Value} (hx : E.R x vx) {n : Nat} (hn : slLen x = some n) :
    Runs P (do pure (.value (← Builtin.len_ #[t] ty #[vx]))) E h (.int .i64 n) .keep := by
  obtain ⟨a, cap, rfl, _⟩ := slice_form hx hn
  exact .keep H (by simp [Builtin.len_, run_underlying ht, goInt]) (.int ..)

theorem op_mx (H : HRel E h) {ts : Array TypeId} {ty : TypeId} {k k' : IntKind} {a b : Int} :
    Runs P (do pure (.value (← Builtin.max_ ts ty #[.int k a, .int k' b]))) E h (.int k (if b > a then b else a)) .keep :=
  .keep H (by simp [Builtin.max_, Builtin.max2]) (.int ..)

theorem op_mn (H : HRel E h) {ts : Array TypeId} {ty : TypeId} {k k' : IntKind} {a b : Int} :
    Runs P (do pure (.value (← Builtin.min_ ts ty #[.int k a, .int k' b]))) E h (.int k (if b < a then b else a)) .keep :=
  .keep H (by simp [Builtin.min_, Builtin.min2]) (.int ..)

end Go.AL

/-! Slicing, making, building, appending. Seat-independent. -/

namespace Go.AL
variable {E : Env} {h : AHeap} {P : Program}

theorem run_slice {t e : TypeId} (ht : P.underlying t = some (.slice e)) {s : Nat} (hs : sizeB P e = some s) {a : Option Addr} {n cap : Nat} {lo hi : Option Value} {l r : Int}
    (hlo : lo = none ∧ l = 0 ∨ ∃ k, lo = some (.int k l)) (hhi : hi = none ∧ r = n ∨ ∃ k, hi = some (.int k r)) (h0 : 0 ≤ l ∧ l ≤ r ∧ r ≤ cap) (_hc : n ≤ cap) (w : World) :
    (Instr.sliceAt t (.slice a n cap) lo hi none).run P w =
      .ok (.slice (if cap = l.toNat then a else a.map (·.add (l.toNat * s))) (r.toNat - l.toNat) (cap - l.toNat)) w := by
  have e1 : (0 : Int) ≤ r ∧ r ≤ (cap : Int) := by omega
  rcases hlo with ⟨rfl, rfl⟩ | ⟨k1, rfl⟩ <;> rcases hhi with ⟨rfl, rfl⟩ | ⟨k2, rfl⟩
  · simp [Instr.sliceAt, run_underlying ht, Instr.slice, Instr.sliceBounds, run_sizeOf' hs]
  · simp [Instr.sliceAt, run_underlying ht, Instr.slice, Instr.sliceBounds, run_sizeOf' hs, Instr.sliceBound, asIntOf, e1]
  · have e2 : (0 : Int) ≤ l ∧ l ≤ (n : Int) := by omega
    simp [Instr.sliceAt, run_underlying ht, Instr.slice, Instr.sliceBounds, run_sizeOf' hs, Instr.sliceBound, asIntOf, e2]
  · have e2 : (0 : Int) ≤ l ∧ l ≤ (r.toNat : Int) := by omega
    have e3 : ¬ (max r 0 < l) := by omega
    simp [e3, Instr.sliceAt, run_underlying ht, Instr.slice, Instr.sliceBounds, run_sizeOf' hs, Instr.sliceBound, asIntOf, e1, e2]
    try (intro hh; omega)

theorem op_sliceStr (H : HRel E h) {t : TypeId} (ht : P.underlying t = some .string) {s : ByteArray} {lo hi : Option Value} {l r : Int}
    (hlo : lo = none ∧ l = 0 ∨ ∃ k, lo = some (.int k l)) (hhi : hi = none ∧ r = s.size ∨ ∃ k, hi = some (.int k r)) (h0 : 0 ≤ l ∧ l ≤ r ∧ r ≤ s.size) :
    Runs P (do pure (.value (← Instr.sliceAt t (.string s) lo hi none))) E h (.str (s.extract l.toNat r.toNat)) .keep := by
  refine .keep H (u := .string (s.extract l.toNat r.toNat)) ?_ (.str ..)
  have e1 : (0 : Int) ≤ r ∧ r ≤ (s.size : Int) := by omega
  rcases hlo with ⟨rfl, rfl⟩ | ⟨k1, rfl⟩ <;> rcases hhi with ⟨rfl, rfl⟩ | ⟨k2, rfl⟩
  · simp [Instr.sliceAt, run_underlying ht, Instr.slice, Instr.sliceBounds]
  · simp [Instr.sliceAt, run_underlying ht, Instr.slice, Instr.sliceBounds, Instr.sliceBound, asIntOf, e1]
  · have e2 : (0 : Int) ≤ l ∧ l ≤ (s.size : Int) := by omega
    simp [Instr.sliceAt, run_underlying ht, Instr.slice, Instr.sliceBounds, Instr.sliceBound, asIntOf, e2]
  · have e2 : (0 : Int) ≤ l ∧ l ≤ (r.toNat : Int) := by omega
    have e3 : ¬ (max r 0 < l) := by omega
    simp [e3, Instr.sliceAt, run_underlying ht, Instr.slice, Instr.sliceBounds, Instr.sliceBound, asIntOf, e1, e2]

theorem rel_ri {k : IntKind} {xs : List Int} {v : Value} (h : E.R (.ri k xs) v) : ∃ (a : Option Addr) (cap : Nat), v = .slice a xs.length cap ∧ xs.length ≤ cap ∧
    (∀ (i : Nat) x, xs[i]? = some x → ∃ cb off, a = some ⟨cb, off, none⟩ ∧ E.F cb ∧ E.w.cell? ⟨cb, off + i, none⟩ = some (.int k x)) ∧ (a = none → cap = 0) := by
  cases h with
  | ri _ _ _ n cap a h1 h2 h3 h4 => subst h1; exact ⟨a, cap, rfl, h2, h3, h4⟩

theorem rel_ro {s : Nat} {rows : List (List AV)} {v : Value} (h : E.R (.ro s rows) v) : ∃ (a : Option Addr) (cap : Nat) (vs : Nat → Nat → Value), v = .slice a rows.length cap ∧ rows.length ≤ cap ∧
    (∀ (i : Nat) row, rows[i]? = some row → row.length = s ∧ ∃ cb off, a = some ⟨cb, off, none⟩ ∧ E.F cb ∧
        ∀ (j : Nat) x, row[j]? = some x → E.w.cell? ⟨cb, off + i * s + j, none⟩ = some (vs i j)) ∧
    (∀ (i j : Nat) row x, rows[i]? = some row → row[j]? = some x → Rel E.w E.F .nil x (vs i j)) ∧ (a = none → cap = 0) := by
  cases h with
  | ro _ _ _ n cap a vs h1 h2 h3 h4 h5 => subst h1; exact ⟨a, cap, vs, rfl, h2, h3, h4, h5⟩

theorem op_slice (H : HRel E h) {t e : TypeId} (ht : P.underlying t = some (.slice e)) {s : Nat} (hs : sizeB P e = some s) {x : AV} {vx : Value} (hx : E.R x vx) {n : Nat} (hn : slLen x = some n)
    {lo hi : Option Value} {l r : Int} (hlo : lo = none ∧ l = 0 ∨ ∃ k, lo = some (.int k l)) (hhi : hi = none ∧ r = n ∨ ∃ k, hi = some (.int k r)) (h0 : 0 ≤ l ∧ l ≤ r ∧ r ≤ n) {v : AV}
    (hv : sliceV h s x l r = some v) :
    Runs P (do pure (.value (← Instr.sliceAt t vx lo hi none))) E h v .keep := by
  cases x <;> simp [slLen] at hn <;> simp only [sliceV] at hv <;> try (cases hv; done)
  · obtain rfl := Option.some.inj hv
    subst hn
    obtain rfl : vx = .slice none 0 0 := by cases hx; rfl
    have e1 : l.toNat = 0 := by omega
    have e2 : r.toNat = 0 := by omega
    refine .keep H (u := .slice none 0 0) ?_ (.snil _)
    simp only [Sem.run_bind, run_slice ht hs hlo hhi ⟨h0.1, h0.2.1, by omega⟩ (Nat.le_refl _), Result.andThen_ok, Sem.run_pure, e1, e2]
    rfl
  · obtain rfl := Option.some.inj hv
    subst hn
    obtain ⟨a, rfl⟩ : ∃ a, vx = .slice (some a) 0 0 := by cases hx; exact ⟨_, rfl⟩
    have e1 : l.toNat = 0 := by omega
    have e2 : r.toNat = 0 := by omega
    refine .keep H (u := .slice (some a) 0 0) ?_ (.semp _ _)
    simp only [Sem.run_bind, run_slice ht hs hlo hhi ⟨h0.1, h0.2.1, by omega⟩ (Nat.le_refl _), Result.andThen_ok, Sem.run_pure, e1, e2]
    rfl
  · rename_i b i n'
    subst hn
    obtain ⟨cb, base, off, cap, rfl, h1, h3, h2⟩ := rel_sl hx
    rw [nth_eq] at hv
    split at hv <;> try (cases hv; done)
    rename_i blk hb
    split at hv <;> try (cases hv; done)
    rename_i hsz
    have hsz : blk.shape.1 = s := by have := Nat.eq_of_beq_eq_true hsz; rw [← this]; cases blk <;> rfl
    obtain rfl := Option.some.inj hv
    refine .keep H (by simp only [Sem.run_bind, run_slice ht hs hlo hhi ⟨h0.1, h0.2.1, by omega⟩ h2, Result.andThen_ok, Sem.run_pure]; rfl) ?_
    have key : ∃ off', (if cap = l.toNat then some (⟨cb, off, none⟩ : Addr) else (some (⟨cb, off, none⟩ : Addr)).map (·.add (l.toNat * s))) = some ⟨cb, off', none⟩ ∧ (cap - l.toNat = 0 ∨ off' = off + l.toNat * s) := by
      split
      · exact ⟨off, rfl, .inl (by omega)⟩
      · exact ⟨off + l.toNat * s, by simp [add_plain], .inr rfl⟩
    obtain ⟨off', e1, e2⟩ := key
    rw [e1]
    refine .sl _ _ _ _ cb base off' _ h1 (fun s' N hN => ?_) (by omega)
    obtain ⟨g1, g2, g3, c, ee, f, g4, g5⟩ := h3 s' N hN
    rw [H.live.2 ⟨blk, hb, rfl⟩] at hN
    have : s' = s := by rw [← hsz, Option.some.inj (Option.some.inj hN)]
    subst this
    refine ⟨?_, by omega, by omega, c, ee, f, g4, by rw [show i + l.toNat + (cap - l.toNat) = i + cap by omega]; exact g5⟩
    rcases e2 with e2 | e2
    · exact .inl e2
    · rcases g1 with g1 | g1
      · exact .inl (by omega)
      · right; rw [e2, g1, Nat.add_mul]; omega
  · rename_i k xs
    obtain ⟨a, cap, rfl, h2, h3, h4⟩ := rel_ri hx
    split at hv <;> try (cases hv; done)
    rename_i hs1
    have hs1 := Nat.eq_of_beq_eq_true hs1
    subst hs1
    obtain rfl := Option.some.inj hv
    subst hn
    refine .keep H (by simp only [Sem.run_bind, run_slice ht hs hlo hhi ⟨h0.1, h0.2.1, by omega⟩ h2, Result.andThen_ok, Sem.run_pure]; rfl) ?_
    refine .ri _ _ _ _ _ _ (by simp; omega) (by omega) (fun i x hy => ?_) (fun ha => ?_)
    · rw [List.getElem?_take] at hy
      split at hy
      · rw [List.getElem?_drop] at hy
        have : l.toNat + i < xs.length := (List.getElem?_eq_some_iff.1 hy).1
        obtain ⟨cb, off, rfl, b1, b2⟩ := h3 _ x hy
        rw [if_neg (by omega)]
        exact ⟨cb, off + l.toNat, by simp [add_plain], b1, by rw [Nat.add_assoc]; exact b2⟩
      · cases hy
    · split at ha
      · omega
      · have : a = none := by cases a <;> simp_all
        have := h4 this; omega
  · rename_i s' rows
    obtain ⟨a, cap, vs, rfl, h2, h3, h4, h5⟩ := rel_ro hx
    split at hv <;> try (cases hv; done)
    rename_i hs1
    have hs1 := Nat.eq_of_beq_eq_true hs1
    subst hs1
    obtain rfl := Option.some.inj hv
    subst hn
    refine .keep H (by simp only [Sem.run_bind, run_slice ht hs hlo hhi ⟨h0.1, h0.2.1, by omega⟩ h2, Result.andThen_ok, Sem.run_pure]; rfl) ?_
    refine .ro _ _ _ _ _ _ (fun i j => vs (l.toNat + i) j) (by simp; omega) (by omega) (fun i row hz => ?_) (fun i j row x hx hy => ?_) (fun ha => ?_)
    · rw [List.getElem?_take] at hz
      split at hz
      · rw [List.getElem?_drop] at hz
        have : l.toNat + i < rows.length := (List.getElem?_eq_some_iff.1 hz).1
        obtain ⟨b0, cb, off, rfl, b1, b2⟩ := h3 _ row hz
        rw [if_neg (by omega)]
        exact ⟨b0, cb, off + l.toNat * s', by simp [add_plain], b1, fun j x hj => by rw [← b2 j x hj, Nat.add_mul]; congr 2; omega⟩
      · cases hz
    · rw [List.getElem?_take] at hx
      split at hx
      · rw [List.getElem?_drop] at hx
        exact h4 _ j row x hx hy
      · cases hx
    · split at ha
      · omega
      · have : a = none := by cases a <;> simp_all
        have := h5 this; omega

/-! ### Filling -/

theorem foldl_set (off : Nat) : ∀ (l : List Value) (k : Nat) (c : Array Value),
    ((l.zipIdx k).foldl (fun cs (p : Value × Nat) => cs.setIfInBounds (off + p.2) p.1) c).size = c.size ∧
    ∀ q, ((l.zipIdx k).foldl (fun cs (p : Value × Nat) => cs.setIfInBounds (off + p.2) p.1) c)[q]? =
      if off + k ≤ q ∧ q < off + k + l.length ∧ q < c.size then l[q - (off + k)]? else c[q]?
  | [], k, c => ⟨rfl, fun q => by simp only [List.zipIdx_nil, List.foldl_nil]; rw [if_neg (by simp; omega)]⟩
  | v :: l, k, c => by
    obtain ⟨h1, h2⟩ := foldl_set off l (k + 1) (c.setIfInBounds (off + k) v)
    simp only [List.zipIdx_cons, List.foldl_cons]
    refine ⟨by rw [h1]; simp, fun q => ?_⟩
    rw [h2 q, Array.getElem?_setIfInBounds]
    simp only [Array.size_setIfInBounds, List.length_cons]
    by_cases hq : q = off + k
    · subst hq
      rw [if_neg (by omega), if_pos rfl]
      by_cases hlt : off + k < c.size
      · rw [if_pos hlt, if_pos (by omega)]; simp
      · rw [if_neg hlt, if_neg (by omega)]
        rw [Array.getElem?_eq_none (by omega)]
    · by_cases hr : off + (k + 1) ≤ q ∧ q < off + (k + 1) + l.length ∧ q < c.size
      · rw [if_pos hr, if_pos (by omega), show q - (off + k) = q - (off + (k + 1)) + 1 by omega]; simp
      · rw [if_neg hr, if_neg (by omega), if_neg (by omega)]

theorem fill_step (c : Array Value) (off : Nat) (v : Value) (hle : off + v.cells.size ≤ c.size) :
    (v.cells.zipIdx.foldl (fun cs (x, j) => cs.setIfInBounds (off + j) x) c).size = c.size ∧
    ∀ q, (v.cells.zipIdx.foldl (fun cs (x, j) => cs.setIfInBounds (off + j) x) c)[q]? = if off ≤ q ∧ q < off + v.cells.size then v.cells[q - off]? else c[q]? := by
  obtain ⟨h1, h2⟩ := foldl_set off v.cells.toList 0 c
  have e : v.cells.zipIdx.foldl (fun cs (x, j) => cs.setIfInBounds (off + j) x) c = (v.cells.toList.zipIdx 0).foldl (fun cs (p : Value × Nat) => cs.setIfInBounds (off + p.2) p.1) c := by
    rw [← Array.foldl_toList, Array.toList_zipIdx]
  rw [e]
  refine ⟨h1, fun q => ?_⟩
  rw [h2 q]
  simp only [Nat.add_zero, Array.length_toList, Array.getElem?_toList]
  by_cases hr : off ≤ q ∧ q < off + v.cells.size
  · rw [if_pos ⟨hr.1, hr.2, by omega⟩, if_pos hr]
  · rw [if_neg (by omega), if_neg hr]

theorem fill_sound (place : Nat → Option (Nat × Nat)) : ∀ (parts : List (Nat × Value)) (aps : List (Nat × Nat × AV)) (c : Array Value) (cs l : List AV), Bes E cs c.toList → aps.length = parts.length →
    (∀ (q : Nat) i v off n x, parts[q]? = some (i, v) → aps[q]? = some (off, n, x) → place i = some (off, n) ∧ n ≠ 0 ∧ E.R x v) → fill cs aps = some l →
    ∃ c', Instr.fill place c parts = some c' ∧ Bes E l c'.toList
  | [], [], c, cs, l, hb, _, _, hf => by simp only [fill, Option.some.injEq] at hf; subst hf; exact ⟨c, rfl, hb⟩
  | [], _ :: _, _, _, _, _, hl, _, _ => by simp at hl
  | _ :: _, [], _, _, _, _, hl, _, _ => by simp at hl
  | (i, v) :: ps, (off, n, x) :: as, c, cs, l, hb, hl, hp, hf => by
    obtain ⟨hpl, hn, hR⟩ := hp 0 i v off n x rfl rfl
    simp only [fill] at hf
    split at hf <;> try (cases hf; done)
    rename_i hc
    rw [Bool.and_eq_true] at hc
    have e1 : x.cells.length = n := Nat.eq_of_beq_eq_true hc.1
    have e2 := Nat.le_of_ble_eq_true hc.2
    have hxu : x ≠ .undef := by rintro rfl; simp [AV.cells] at e1; omega
    have hbx := cells_bes hR hxu
    have e3 : v.cells.size = n := by have := hbx.1; simp at this; omega
    have hcl : c.size = cs.length := by have := hb.1; simp at this; omega
    obtain ⟨s1, s2⟩ := splice_get cs off x.cells (by omega)
    obtain ⟨f1, f2⟩ := fill_step c off v (by omega)
    obtain ⟨c', g1, g2⟩ := fill_sound place ps as (v.cells.zipIdx.foldl (fun cs (c, j) => cs.setIfInBounds (off + j) c) c) (splice cs off x.cells) l
      ⟨by simp only [Array.length_toList]; rw [f1, s1]; exact hcl.symm, fun q y u hy hu => by
        rw [s2] at hy
        rw [Array.getElem?_toList, f2] at hu
        by_cases hr : off ≤ q ∧ q < off + x.cells.length
        · rw [if_pos hr] at hy
          rw [if_pos (by omega)] at hu
          exact hbx.2 _ y u hy (by simpa using hu)
        · rw [if_neg hr] at hy
          rw [if_neg (by omega)] at hu
          exact hb.2 q y u hy (by simpa using hu)⟩ (by simpa using hl)
      (fun q i' v' o' n' x' h1 h2 => hp (q + 1) i' v' o' n' x' (by simpa using h1) (by simpa using h2)) hf
    refine ⟨c', ?_, g2⟩
    simp only [Instr.fill, hpl]
    rw [if_neg (by simp [e3]; omega)]
    exact g1

end Go.AL
