/- A law's row: from what a call comes to, to the row's 'post'. Seat-independent. -/
import Derived.Test.YtdjnndcdplgojaaAL19
import Derived.ProofKit
import Derived.WalkKit
import Derived.OpenShut
import Derived.Deep.Slices
import Derived.Lib.LaidTab
namespace Go.AL
open Go.ChangeShapes Go.WideShapes Go.ChangeAt Go.RowKit
variable {P : Program} {H : Type} {enc : TypeId × Value → H}

/-- A program without such tables and variables. -/
theorem TabW.none {F : Nat → Prop} {w : World} (h : ((tabs.all fun x => (P.globalNamed x.1).isNone) && kinds.all fun x => (P.globalNamed x.1).isNone) = true) : TabW P F w := by
  rw [Bool.and_eq_true] at h
  refine ⟨fun x hx g hg => ?_, fun x hx g hg => ?_⟩
  · have := List.all_eq_true.1 h.1 x hx
    rw [hg] at this
    cases this
  · have := List.all_eq_true.1 h.2 x hx
    rw [hg] at this
    cases this

/-- The table is listed; there are none of the variables. -/
theorem TabW.of_tab {w : World} (h : Lib.TabIs P w "internal/strconv.uint64pow10" .u64 Lib.pow10Tab) (hk : (kinds.all fun x => (P.globalNamed x.1).isNone) = true) : TabW P (fun b => b < w.heap.size) w := by
  refine ⟨fun x hx g hg => ?_, fun x hx g hg => ?_⟩
  · obtain rfl := List.mem_singleton.1 hx
    exact ⟨TabW.lt hg h, h⟩
  · have := List.all_eq_true.1 hk x hx
    rw [hg] at this
    cases this

/-- The table is listed, the variables hold what they may. -/
theorem TabW.of_vars {w : World} (h : Lib.TabIs P w "internal/strconv.uint64pow10" .u64 Lib.pow10Tab) (hk : ∀ x ∈ kinds, ∀ g, P.globalNamed x.1 = some g → ∃ v, w.cell? ⟨g, 0, Option.none⟩ = some v ∧ x.2 v) : TabW P (fun b => b < w.heap.size) w := by
  refine ⟨fun x hx g hg => ?_, fun x hx g hg => ?_⟩
  · obtain rfl := List.mem_singleton.1 hx
    exact ⟨TabW.lt hg h, h⟩
  · obtain ⟨v, h1, h2⟩ := hk x hx g hg
    exact ⟨cell_lt h1, v, h1, h2⟩

/-- From a world: all that is there stays as it is. -/
theorem CallsA.law {f : FuncId} {xs : List AV} {b : Bool} (h : CallsA P f xs [] fun r _ => r = .bool b) {vs : Array Value} {w : World} (he : Enters P f) (ht : TabW P (fun b => b < w.heap.size) w) (hl : xs.length = vs.size)
    (hr : ∀ (i : Nat) x v, xs[i]? = some x → vs[i]? = some v → Go.AL.Rel w (fun b => b < w.heap.size) .nil x v) :
    Calls P f vs w fun e w' => e = .returned (.bool b) ∧ Below w.heap.size w w' := by
  have H0 : HRel ⟨w, fun b => b < w.heap.size, .nil⟩ [] :=
    ⟨rfl, rfl, fun k b hb => by simp at hb, fun k k' b b' cb base base' hb => by simp at hb, fun b hb => hb⟩
  have h1 := h _ vs H0 ht hl hr
  rcases h1 with ⟨_, h1⟩ | ⟨v, w', h1, _⟩
  rotate_left
  · obtain ⟨fn, f1, f2, f3⟩ := he
    have f4 : fn.body ≠ .none := fun h => by rw [h] at f2; cases f2
    simp [callFunc, f1, f3, f4] at h1
  refine h1.mono ?_
  rintro e w' ⟨v, r, h', E', rfl, rfl, rfl, X, _, hv⟩
  cases hv
  exact ⟨rfl, X.os, X.tape, X.output, X.size, fun k hk => X.same k hk fun ⟨i, base, p, h1, _⟩ => by simp [Shp.nil] at h1⟩

/-- Each type can be read and is a row of the table. -/
def rowed (P : Program) (ts : List TypeId) : Bool := ts.all fun t => P.readableRec t && decide (t < P.types.size)

theorem trodAll_stays (hl : laidOutB P = true) {W W' : World} (hb : Below W.heap.size W W') {sp : Nat → Bool} : ∀ {ts : List TypeId} {vs : List Value} {ds : List (DataW H)} {ps : List MemPlace},
    rowed P ts = true → DataW.TrodAll enc P W 0 (fun _ => true) true ts vs ds ps → (∀ p ∈ ps, sp p.block = true) → DataW.TrodAll enc P W' 0 sp true ts vs ds ps
  | [], vs, ds, ps, _, h, _ => by
    obtain ⟨rfl, rfl, rfl⟩ := trodAll_nil h
    exact trodAll_mk0
  | t :: ts, vs, ds, ps, hr, h, hs => by
    have hlt := h.lt
    obtain ⟨v, vs, d, ds, p, q, rfl, rfl, rfl, h0, h1⟩ := trodAll_cons h
    simp only [rowed, List.all_cons, Bool.and_eq_true, decide_eq_true_eq] at hr
    refine trodAll_cons_mk (WideElems.Trod_stays hl hr.1.1 hr.1.2 h0 (fun x hx => hb.same (hlt x (List.mem_append.2 (.inl hx)))) (fun x hx => hs x (List.mem_append.2 (.inl hx)))) ?_
    exact trodAll_stays hl hb hr.2 h1 fun x hx => hs x (List.mem_append.2 (.inr hx))

/-- The row's 'post' of a law that answers true and leaves all as it was. -/
theorem post_law {f : Func} {s : ChangeSpec} {apart fresh handsOn again : Bool} {W W' : World} {args : Array Value} {ds : List (DataW H)} {before : List MemPlace} {tb : TypeId}
    (hl : laidOutB P = true) (hp : rowed P f.params.toList = true) (hres : f.resultTypes = #[tb]) (hb : P.underlying tb = some .bool) (hvars : s.vars = [])
    (hW : DataW.Whole enc P f.params.toList s.vars apart W args.toList ds [] before) (hfn : s.fn H (ds ++ []) = { results := [.lit (.bool true)], args := ds })
    (hB : Below W.heap.size W W') : s.post enc P f apart fresh handsOn again W args (.bool true) W' := by
  have hlt := hW.lt
  obtain ⟨p, q, hA, hV, rfl, hz, hn⟩ := hW
  have hV0 := hV
  rw [hvars] at hV
  obtain ⟨_, rfl⟩ := trodVars_none hV
  have hW0 : DataW.Whole enc P f.params.toList s.vars apart W args.toList ds [] (p ++ []) := ⟨p, [], hA, hV0, rfl, hz, hn⟩
  have hlp : ∀ x ∈ p, x.block < W.heap.size := fun x hx => hlt x (List.mem_append.2 (.inl hx))
  have hrl : (Value.bool true).resultList f.resultTypes.size = [.bool true] := by rw [hres]; rfl
  have hV' : ∀ sp, DataW.TrodVars enc P W' sp s.vars [] [] := fun sp => by rw [hvars]; trivial
  have hR : ∀ (b : Nat) (sp : Nat → Bool) (hd : Bool), DataW.TrodAll enc P W' b sp hd f.resultTypes.toList ((Value.bool true).resultList f.resultTypes.size) [DataW.lit (.bool true)] [] := fun b sp hd => by
    rw [hrl, hres]
    exact trodAll_cons_mk (shut_bool hb _) trodAll_mk0
  refine ⟨ds, [], p ++ [], [], p, [], hW0, ?_, ?_, ?_, ?_, fun _ => ⟨?_, ?_⟩⟩
  · rw [hfn]; exact hR _ _ _
  · rw [hfn]; exact trodAll_stays hl hB hp hA fun x hx => by simpa using hlp x hx
  · rw [hfn]; exact hV' _
  · exact hB.frame _
  · intro j t r h1 h2
    rw [hres] at h1
    rw [hrl] at h2
    cases j with
    | zero => simp at h1 h2; subst h1 h2; exact okWide_bool_mk hb _
    | succ j => simp at h1
  · refine ⟨[DataW.lit (.bool true)] ++ ds, [], p ++ [], ⟨p, [], ?_, hV' _, rfl, ?_, hn⟩, fun x hx _ => hx⟩
    · exact trodAll_append (trodAll_stays (sp := fun _ => true) hl hB hp hA fun _ _ => rfl) (hR _ (fun _ => true) _)
    · intro b off hx
      rw [hB.frozen (p := ⟨b, off, none⟩) (hlt _ hx)]
      exact hz b off hx

end Go.AL

/-! How an argument that can be read stands for an abstract value. Seat-independent. -/

namespace Go.AL
open Go.ChangeShapes Go.WideShapes Go.ChangeAt Go.RowKit Go.Deep

/-- What a cell holds. -/
inductive CT where
  | int (k : IntKind)
  | bool
  | str
  | ints (k : IntKind)
  | rows (row : List CT)

mutual
def CT.has : CT → AV → Prop
  | .int k, x => ∃ n, x = .int k n ∧ (Lit.int k n).wf = true
  | .bool, x => ∃ b, x = .bool b
  | .str, x => ∃ s, x = .str s ∧ s.size ≤ maxLen
  | .ints k, x => ∃ xs, x = .ri k xs ∧ xs.length ≤ maxLen ∧ ∀ n ∈ xs, (Lit.int k n).wf = true
  | .rows row, x => ∃ rows, x = .ro row.length rows ∧ rows.length ≤ maxLen ∧ ∀ r ∈ rows, CT.hasL row r
def CT.hasL : List CT → List AV → Prop
  | [], r => r = []
  | c :: cs, r => ∃ x xs, r = x :: xs ∧ CT.has c x ∧ CT.hasL cs xs
end

theorem CT.hasL_len : ∀ {l : List CT} {xs : List AV}, CT.hasL l xs → xs.length = l.length
  | [], _, h => by simp only [CT.hasL] at h; subst h; rfl
  | _ :: l, _, h => by
    simp only [CT.hasL] at h
    obtain ⟨x, xs, rfl, _, h⟩ := h
    simp [CT.hasL_len h]

theorem CT.hasL_append : ∀ {l l' : List CT} {xs ys : List AV}, CT.hasL l xs → CT.hasL l' ys → CT.hasL (l ++ l') (xs ++ ys)
  | [], _, _, _, h, h' => by simp only [CT.hasL] at h; subst h; exact h'
  | _ :: l, l', _, ys, h, h' => by
    simp only [CT.hasL] at h
    obtain ⟨x, xs, rfl, hx, h⟩ := h
    simp only [List.cons_append, CT.hasL]
    exact ⟨x, xs ++ ys, rfl, hx, CT.hasL_append h h'⟩

def cellsT (P : Program) : Nat → TypeId → Option (List CT)
  | 0, _ => none
  | n + 1, t => match P.underlying t with
    | some .bool => some [.bool]
    | some (.int k) => some [.int k]
    | some .string => some [.str]
    | some (.slice e) => match cellsT P n e with
      | some l => if l.length = P.cellsOf e ∧ l ≠ [] then (match l with | [.int k] => some [.ints k] | l => some [.rows l]) else none
      | none => none
    | some (.struct fs) => match fs.toList.foldr (fun f acc => match cellsT P n f.type, acc with
        | some l, some (off, r) => if l.length = P.cellsOf f.type ∧ off = f.offset + l.length then some (f.offset, l ++ r) else none
        | _, _ => none) (some (P.cellsOf t, [])) with
      | some (0, l) => some l
      | _ => none
    | some (.array m e) => match cellsT P n e with
      | some l => if l.length = P.cellsOf e ∧ m * l.length = P.cellsOf t then some (List.replicate m l).flatten else none
      | none => none
    | _ => none

/-- A list of values that stand for a list of abstract ones. -/
def Stand (w : World) (xs : List AV) (cs : List Value) : Prop :=
  xs.length = cs.length ∧ ∀ (i : Nat) x v, xs[i]? = some x → cs[i]? = some v → Go.AL.Rel w (fun b => b < w.heap.size) .nil x v

theorem Stand.append {w : World} {xs ys : List AV} {cs ds : List Value} (h : Stand w xs cs) (k : Stand w ys ds) : Stand w (xs ++ ys) (cs ++ ds) := by
  refine ⟨by simp [h.1, k.1], fun i x v hx hv => ?_⟩
  by_cases hi : i < xs.length
  · rw [List.getElem?_append_left hi] at hx
    rw [List.getElem?_append_left (by rw [← h.1]; exact hi)] at hv
    exact h.2 i x v hx hv
  · rw [List.getElem?_append_right (by omega)] at hx
    rw [List.getElem?_append_right (by rw [← h.1]; omega), ← h.1] at hv
    exact k.2 _ x v hx hv

theorem Stand.one {w : World} {x : AV} {v : Value} (h : Go.AL.Rel w (fun b => b < w.heap.size) .nil x v) : Stand w [x] [v] :=
  ⟨rfl, fun i y u hy hu => by
    match i, hy, hu with
    | 0, hy, hu => simp at hy hu; subst hy hu; exact h⟩

theorem mapM_map {α β : Type} {f : α → Option β} : ∀ {l : List α} {r : List β}, l.mapM f = some r → r.length = l.length ∧ ∀ (i : Nat) x, l[i]? = some x → f x = r[i]?
  | [], r, h => by simp at h; subst h; simp
  | a :: l, r, h => by
    rw [List.mapM_cons] at h
    simp only [Option.bind_eq_bind, Option.bind_eq_some_iff, Option.pure_def, Option.some.injEq] at h
    obtain ⟨y, hy, ys, hys, rfl⟩ := h
    obtain ⟨h1, h2⟩ := mapM_map hys
    refine ⟨by simp [h1], fun i x hx => ?_⟩
    cases i with
    | zero => simp at hx; subst hx; simpa using hy
    | succ i => simpa using h2 i x (by simpa using hx)

variable {H : Type} {enc : TypeId × Value → H} {P : Program} {w : World} {spare : Nat → Bool} {held : Bool}

theorem cells?_get {a : Addr} {n : Nat} {cs : List Value} (h : w.cells? 0 a n = some cs) : cs.length = n ∧ ∀ j v, cs[j]? = some v → w.cell? (a.add j) = some v := by
  unfold World.cells? at h
  rw [if_pos (Nat.zero_le _)] at h
  obtain ⟨h1, h2⟩ := mapM_map h
  refine ⟨by simpa using h1, fun j v hv => ?_⟩
  have hj : j < n := by have := (List.getElem?_eq_some_iff.1 hv).1; simp at h1; omega
  rw [h2 j j (by simp [hj])]; exact hv

theorem cell_plain {a : Addr} {v : Value} (h : w.cell? a = some v) : a = ⟨a.block, a.off, none⟩ ∧ a.block < w.heap.size := by
  unfold World.cell? at h
  split at h <;> try (cases h; done)
  rename_i hb
  split at h <;> try (cases h; done)
  rename_i hs
  refine ⟨?_, (Array.getElem?_eq_some_iff.1 hb).1⟩
  obtain ⟨b, o, s⟩ := a
  cases s with
  | none => rfl
  | some _ => simp at hs

theorem trod_struct {t : TypeId} {fs : Array Field} {fuel : Nat} {cs : List Value} {x : DataW H × List MemPlace} (ht : P.underlying t = some (.struct fs)) (h : DataW.trod enc P w 0 spare held fuel t cs = some x) :
    cs.length = P.cellsOf t ∧ ∃ fu, ∀ f ∈ fs.toList, ∃ y, DataW.trod enc P w 0 spare held fu f.type ((cs.drop f.offset).take (P.cellsOf f.type)) = some y := by
  cases fuel with
  | zero => simp [DataW.trod] at h
  | succ fuel =>
    simp only [DataW.trod, ht] at h
    split at h <;> try (cases h; done)
    rename_i hl
    rw [Option.map_eq_some_iff] at h
    obtain ⟨xs, hm, _⟩ := h
    obtain ⟨h1, h2⟩ := mapM_map hm
    refine ⟨hl, fuel, fun f hf => ?_⟩
    obtain ⟨i, hi, rfl⟩ := List.getElem_of_mem hf
    have := h2 i _ (List.getElem?_eq_getElem hi)
    rw [List.getElem?_eq_getElem (by omega)] at this
    exact ⟨_, this⟩

theorem trod_array {t e : TypeId} {m : Nat} {fuel : Nat} {cs : List Value} {x : DataW H × List MemPlace} (ht : P.underlying t = some (.array m e)) (h : DataW.trod enc P w 0 spare held fuel t cs = some x) :
    cs.length = P.cellsOf t ∧ ∃ fu, ∀ i, i < m → ∃ y, DataW.trod enc P w 0 spare held fu e ((cs.drop (i * P.cellsOf e)).take (P.cellsOf e)) = some y := by
  cases fuel with
  | zero => simp [DataW.trod] at h
  | succ fuel =>
    simp only [DataW.trod, ht] at h
    split at h <;> try (cases h; done)
    rename_i hl
    rw [Option.map_eq_some_iff] at h
    obtain ⟨xs, hm, _⟩ := h
    obtain ⟨h1, h2⟩ := mapM_map hm
    refine ⟨hl, fuel, fun i hi => ?_⟩
    have := h2 i i (by simp [hi])
    rw [List.getElem?_eq_getElem (by simp at h1; omega)] at this
    exact ⟨_, this⟩

theorem stand_split {cs : List Value} {k n : Nat} {xs ys : List AV} (h1 : Stand w xs ((cs.drop k).take n)) (h2 : Stand w ys (cs.drop (k + n))) : Stand w (xs ++ ys) (cs.drop k) := by
  have : cs.drop k = (cs.drop k).take n ++ cs.drop (k + n) := by rw [← List.drop_drop, List.take_append_drop]
  rw [this]
  exact h1.append h2

theorem fields_stand {n N : Nat} {cs : List Value} : ∀ {fl : List Field} (_ : ∀ f ∈ fl, ∀ l, cellsT P n f.type = some l → ∃ xs, CT.hasL l xs ∧ Stand w xs ((cs.drop f.offset).take (P.cellsOf f.type))) (_ : cs.length = N) {off : Nat} {l : List CT},
    fl.foldr (fun f acc => match cellsT P n f.type, acc with
        | some l, some (off, r) => if l.length = P.cellsOf f.type ∧ off = f.offset + l.length then some (f.offset, l ++ r) else none
        | _, _ => none) (some (N, [])) = some (off, l) → ∃ xs, CT.hasL l xs ∧ Stand w xs (cs.drop off)
  | [], _, hN, off, l, h => by
    simp only [List.foldr_nil, Option.some.injEq, Prod.mk.injEq] at h
    obtain ⟨rfl, rfl⟩ := h
    refine ⟨[], by simp [CT.hasL], ?_⟩
    rw [← hN, List.drop_length]
    exact ⟨rfl, fun i x v hx => by simp at hx⟩
  | f :: fl, hf, hN, off, l, h => by
    rw [List.foldr_cons] at h
    split at h <;> try (cases h; done)
    rename_i l1 off1 r hl1 hacc
    split at h <;> try (cases h; done)
    rename_i hcond
    simp only [Option.some.injEq, Prod.mk.injEq] at h
    obtain ⟨rfl, rfl⟩ := h
    obtain ⟨ys, g1, g2⟩ := fields_stand (fun f hf' => hf f (List.mem_cons_of_mem _ hf')) hN hacc
    obtain ⟨xs, k1, k2⟩ := hf f (List.mem_cons_self ..) l1 hl1
    refine ⟨xs ++ ys, CT.hasL_append k1 g1, stand_split k2 ?_⟩
    rw [← hcond.1, ← hcond.2]; exact g2

theorem trod_stand : ∀ (n : Nat) {t : TypeId} {l : List CT}, cellsT P n t = some l → ∀ {fuel : Nat} {cs : List Value} {x : DataW H × List MemPlace},
    DataW.trod enc P w 0 spare held fuel t cs = some x → ∃ xs, CT.hasL l xs ∧ Stand w xs cs
  | 0, _, _, hc, _, _, _, _ => by simp [cellsT] at hc
  | n + 1, t, l, hc, fuel, cs, x, h => by
    have one : ∀ {c : CT} {a : AV} {v : Value}, c.has a → Go.AL.Rel w (fun b => b < w.heap.size) .nil a v → ∃ xs, CT.hasL [c] xs ∧ Stand w xs [v] :=
      fun {c a v} h1 h2 => ⟨[a], by simp only [CT.hasL]; exact ⟨a, [], rfl, h1, rfl⟩, .one h2⟩
    simp only [cellsT] at hc
    split at hc <;> try (cases hc; done)
    · rename_i ht
      obtain rfl := Option.some.inj hc
      cases fuel with
      | zero => simp [DataW.trod] at h
      | succ fuel =>
        rcases cs with _ | ⟨v, _ | ⟨v', cs⟩⟩ <;> try (simp [DataW.trod, ht] at h; done)
        cases v <;> try (simp [DataW.trod, ht] at h; done)
        rename_i b
        exact one (a := .bool b) (by simp only [CT.has]; exact ⟨b, rfl⟩) (.bool ..)
    · rename_i k ht
      obtain rfl := Option.some.inj hc
      cases fuel with
      | zero => simp [DataW.trod] at h
      | succ fuel =>
        rcases cs with _ | ⟨v, _ | ⟨v', cs⟩⟩ <;> try (simp [DataW.trod, ht] at h; done)
        cases v <;> try (simp [DataW.trod, ht] at h; done)
        rename_i k' m
        simp only [DataW.trod, ht] at h
        split at h <;> try (cases h; done)
        rename_i hk
        obtain ⟨rfl, hw⟩ := hk
        exact one (a := .int k' m) (by simp only [CT.has]; exact ⟨m, rfl, hw⟩) (.int ..)
    · rename_i ht
      obtain rfl := Option.some.inj hc
      cases fuel with
      | zero => simp [DataW.trod] at h
      | succ fuel =>
        rcases cs with _ | ⟨v, _ | ⟨v', cs⟩⟩ <;> try (simp [DataW.trod, ht] at h; done)
        cases v <;> try (simp [DataW.trod, ht] at h; done)
        rename_i s
        simp only [DataW.trod, ht] at h
        split at h <;> try (cases h; done)
        rename_i hs
        exact one (a := .str s) (by simp only [CT.has]; exact ⟨s, rfl, hs⟩) (.str ..)
    · rename_i e ht
      split at hc <;> try (cases hc; done)
      rename_i le hle
      split at hc <;> try (cases hc; done)
      rename_i hlen
      obtain ⟨hlen, hne⟩ := hlen
      have key : ∃ (len cap : Nat) (a : Option Addr) (rows : List (List AV)), cs = [.slice a len cap] ∧ rows.length = len ∧ len ≤ cap ∧ len ≤ maxLen ∧ (a = none → cap = 0) ∧ (∀ r ∈ rows, CT.hasL le r) ∧
          ∀ (i : Nat) r, rows[i]? = some r → ∃ cb off, a = some ⟨cb, off, none⟩ ∧ cb < w.heap.size ∧ ∀ (j : Nat) y, r[j]? = some y → ∃ v, w.cell? ⟨cb, off + i * le.length + j, none⟩ = some v ∧ Go.AL.Rel w (fun b => b < w.heap.size) .nil y v := by
        rcases open_slice ht h with ⟨rfl, _⟩ | ⟨a, len, cap, m, q, D, Pl, rfl, _, h1, h2, h3, _, h5⟩
        · exact ⟨0, 0, none, [], rfl, rfl, Nat.le_refl _, Nat.zero_le _, fun _ => rfl, by simp, by simp⟩
        · have hm : len ≤ m := by rw [h3]; split <;> omega
          have hrow : ∀ i, i < len → ∃ r, CT.hasL le r ∧ ∃ cs', w.cells? 0 (a.add (i * P.cellsOf e)) (P.cellsOf e) = some cs' ∧ Stand w r cs' := by
            intro i hi
            obtain ⟨cs', g1, g2⟩ := h5 i (by omega)
            obtain ⟨r, r1, r2⟩ := trod_stand n hle g2
            exact ⟨r, r1, cs', g1, r2⟩
          have hch : ∃ f : Nat → List AV, ∀ i, i < len → CT.hasL le (f i) ∧ ∃ cs', w.cells? 0 (a.add (i * P.cellsOf e)) (P.cellsOf e) = some cs' ∧ Stand w (f i) cs' :=
            ⟨fun i => if hi : i < len then (hrow i hi).choose else [], fun i hi => by simp only [dif_pos hi]; exact (hrow i hi).choose_spec⟩
          obtain ⟨f, hf⟩ := hch
          refine ⟨len, cap, some a, (List.range len).map f, rfl, by simp, h1, by omega, by simp, fun r hr => ?_, fun i r hr => ?_⟩
          · obtain ⟨i, hi, rfl⟩ := List.mem_map.1 hr
            exact (hf i (List.mem_range.1 hi)).1
          · rw [List.getElem?_map, Option.map_eq_some_iff] at hr
            obtain ⟨i', hi', rfl⟩ := hr
            have hil : i < len := by have := (List.getElem?_eq_some_iff.1 hi').1; simpa using this
            rw [List.getElem?_range hil] at hi'
            obtain rfl := Option.some.inj hi'
            obtain ⟨g1, cs', g2, g3⟩ := hf i hil
            obtain ⟨c1, c2⟩ := cells?_get g2
            have hsp : a = ⟨a.block, a.off, none⟩ := by
              obtain ⟨_, cs0, e2, e3⟩ := hf 0 (by omega)
              obtain ⟨d1, d2⟩ := cells?_get e2
              have hpos : 0 < cs0.length := by rw [d1, ← hlen]; exact List.length_pos_iff.2 hne
              have := (cell_plain (d2 0 _ (List.getElem?_eq_getElem hpos))).1
              simpa [Addr.add] using this
            have hpos : 0 < cs'.length := by rw [c1, ← hlen]; exact List.length_pos_iff.2 hne
            have hp := (cell_plain (c2 0 _ (List.getElem?_eq_getElem hpos))).2
            rw [hsp, add_plain, add_plain] at hp
            refine ⟨a.block, a.off, congrArg some hsp, hp, fun j y hy => ?_⟩
            have hj : j < cs'.length := by rw [← g3.1]; exact (List.getElem?_eq_some_iff.1 hy).1
            refine ⟨cs'[j], ?_, g3.2 j y _ hy (List.getElem?_eq_getElem hj)⟩
            have := c2 j _ (List.getElem?_eq_getElem hj)
            rw [hsp, add_plain, add_plain] at this
            rw [hlen]
            exact this
      obtain ⟨len, cap, a, rows, rfl, k1, k2, k3, k4, k5, k6⟩ := key
      split at hc
      · rename_i k
        obtain rfl := Option.some.inj hc
        have kk : ∀ r ∈ rows, ∃ m, r = [.int k m] ∧ (Lit.int k m).wf = true := by
          intro r hr
          have := k5 r hr
          simp only [CT.hasL, CT.has] at this
          obtain ⟨y, ys, rfl, ⟨m, rfl, hm⟩, rfl⟩ := this
          exact ⟨m, rfl, hm⟩
        refine one (a := .ri k (rows.map fun r => match r with | [.int _ m] => m | _ => 0)) (by
          simp only [CT.has]
          refine ⟨_, rfl, by simpa [k1] using k3, fun m hm => ?_⟩
          obtain ⟨r, hr, rfl⟩ := List.mem_map.1 hm
          obtain ⟨m', rfl, hm'⟩ := kk r hr
          exact hm') ?_
        refine .ri _ _ _ _ _ _ (by simp [k1]) k2 (fun i m hm => ?_) k4
        rw [List.getElem?_map, Option.map_eq_some_iff] at hm
        obtain ⟨r, hr, rfl⟩ := hm
        obtain ⟨m, rfl, _⟩ := kk r (List.mem_of_getElem? hr)
        obtain ⟨cb, off, b1, b2, b3⟩ := k6 i _ hr
        obtain ⟨v, v1, v2⟩ := b3 0 _ rfl
        refine ⟨cb, off, b1, b2, ?_⟩
        cases v2
        simpa using v1
      · obtain rfl := Option.some.inj hc
        refine one (a := .ro le.length rows) (by simp only [CT.has]; exact ⟨rows, rfl, by omega, k5⟩) ?_
        have hch : ∃ g : Nat → Nat → Value, ∀ (i : Nat) r, rows[i]? = some r → ∃ cb off, a = some ⟨cb, off, none⟩ ∧ cb < w.heap.size ∧ ∀ (j : Nat) y, r[j]? = some y →
            w.cell? ⟨cb, off + i * le.length + j, none⟩ = some (g i j) ∧ Go.AL.Rel w (fun b => b < w.heap.size) .nil y (g i j) := by
          refine ⟨fun i j => match a with | some ad => (w.cell? ⟨ad.block, ad.off + i * le.length + j, none⟩).getD .nilFunc | none => .nilFunc, fun i r hr => ?_⟩
          obtain ⟨cb, off, rfl, b2, b3⟩ := k6 i r hr
          refine ⟨cb, off, rfl, b2, fun j y hy => ?_⟩
          obtain ⟨v, v1, v2⟩ := b3 j y hy
          simp only [v1, Option.getD_some]
          exact ⟨trivial, v2⟩
        obtain ⟨g, hg⟩ := hch
        refine .ro _ _ _ _ _ _ g (by omega) k2 (fun i r hr => ⟨CT.hasL_len (k5 r (List.mem_of_getElem? hr)), ?_⟩) (fun i j r y hr hy => ?_) k4
        · obtain ⟨cb, off, b1, b2, b3⟩ := hg i r hr
          exact ⟨cb, off, b1, b2, fun j y hy => (b3 j y hy).1⟩
        · obtain ⟨cb, off, b1, b2, b3⟩ := hg i r hr
          exact (b3 j y hy).2
    · rename_i fs ht
      obtain ⟨hl, fu, hf⟩ := trod_struct ht h
      split at hc <;> try (cases hc; done)
      rename_i l' hfold
      obtain rfl := Option.some.inj hc
      obtain ⟨xs, h1, h2⟩ := fields_stand (n := n) (N := P.cellsOf t) (fun f hf' l hl' => by
        obtain ⟨y, hy⟩ := hf f hf'
        exact trod_stand n hl' hy) hl hfold
      exact ⟨xs, h1, by simpa using h2⟩
    · rename_i m e ht
      obtain ⟨hl, fu, hf⟩ := trod_array ht h
      split at hc <;> try (cases hc; done)
      rename_i le hle
      split at hc <;> try (cases hc; done)
      rename_i hlen
      obtain ⟨hlen, hm⟩ := hlen
      obtain rfl := Option.some.inj hc
      have go : ∀ q, q ≤ m → ∃ xs, CT.hasL (List.replicate q le).flatten xs ∧ Stand w xs (cs.drop ((m - q) * P.cellsOf e)) := by
        intro q
        induction q with
        | zero =>
          intro _
          refine ⟨[], by simp [CT.hasL], ?_⟩
          rw [Nat.sub_zero, ← hlen, hm, ← hl, List.drop_length]
          exact ⟨rfl, fun i x v hx => by simp at hx⟩
        | succ q ih =>
          intro hq
          obtain ⟨xs, h1, h2⟩ := ih (by omega)
          obtain ⟨y, hy⟩ := hf (m - (q + 1)) (by omega)
          obtain ⟨ys, g1, g2⟩ := trod_stand n hle hy
          refine ⟨ys ++ xs, by rw [List.replicate_succ, List.flatten_cons]; exact CT.hasL_append g1 h1, ?_⟩
          refine stand_split g2 ?_
          have : (m - (q + 1)) * P.cellsOf e + P.cellsOf e = (m - q) * P.cellsOf e := by
            have : m - q = m - (q + 1) + 1 := by omega
            rw [this, Nat.add_mul, Nat.one_mul]
          rw [this]; exact h2
      obtain ⟨xs, h1, h2⟩ := go m (Nat.le_refl _)
      exact ⟨xs, h1, by simpa using h2⟩

/-- AN ARGUMENT of a struct's or an array's type. -/
theorem arg_agg {n : Nat} {t : TypeId} {l : List CT} {v : Value} {d : DataW H} {ps : List MemPlace} {r : Reach} {base : Nat} (hc : cellsT P n t = some l) (hg : isAggB P t = some true) (hw : Value.okWide P w r base t v)
    (h : DataW.Trod enc P w 0 spare held t v d ps) : ∃ xs, CT.hasL l xs ∧ Go.AL.Rel w (fun b => b < w.heap.size) .nil (.agg xs) v := by
  obtain ⟨fuel, h⟩ := h
  obtain ⟨xs, h1, h2⟩ := trod_stand n hc h
  have : ∃ cs, v = .agg cs := by
    unfold isAggB at hg
    unfold Value.okWide at hw
    split at hg <;> try (cases hg; done)
    · rename_i hu; rw [hu] at hw; exact ⟨_, hw.choose_spec.1⟩
    · rename_i hu; rw [hu] at hw; exact ⟨_, hw.choose_spec.1⟩
  obtain ⟨cs, rfl⟩ := this
  refine ⟨xs, h1, .agg _ _ _ (by simpa [Value.cells] using h2.1) fun i c v hc hv => h2.2 i c v hc (by simpa [Value.cells] using hv)⟩

/-- AN ARGUMENT of another type. -/
theorem arg_one {n : Nat} {t : TypeId} {l : CT} {v : Value} {d : DataW H} {ps : List MemPlace} {r : Reach} {base : Nat} (hc : cellsT P n t = some [l]) (hg : isAggB P t = some false) (hw : Value.okWide P w r base t v)
    (h : DataW.Trod enc P w 0 spare held t v d ps) : ∃ x, CT.has l x ∧ Go.AL.Rel w (fun b => b < w.heap.size) .nil x v := by
  obtain ⟨fuel, h⟩ := h
  obtain ⟨xs, h1, h2⟩ := trod_stand n hc h
  have : v.cells = #[v] := by
    unfold isAggB at hg
    unfold Value.okWide at hw
    cases hu : P.underlying t with
    | none => rw [hu] at hg; cases hg
    | some u =>
      rw [hu] at hg hw
      cases v <;> try rfl
      cases u <;> simp [Cell.okWide, Cell.ok, hu] at hg hw
  simp only [CT.hasL] at h1
  obtain ⟨x, xs', rfl, hx, rfl⟩ := h1
  rw [this] at h2
  exact ⟨x, hx, h2.2 0 x v rfl rfl⟩

end Go.AL
