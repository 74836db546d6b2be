/- Layer 13: what each function answers, as contracts; no condition but those that the contracts bear. -/
import Derived.Test.YthigehjpkpbmcaaAL27
import Derived.Test.YthigehjpkpbmcaaF13
namespace Go.Proofs.TryN
open Go Go.AL Go.Proofs

def sideB (n : Int) : Bool := decide (1 ≤ n) && decide (n ≤ 1024)

theorem side_spec (n : Int) : CallsF Try.prog 104 [.int .i64 n] [] (.bool (sideB n)) [] := by
  refine e104 ?_
  conv => whnf
  iterate 1 (all_goals (try (refine ifB_of (fun _ => ?_) (fun _ => ?_))); all_goals (conv => whnf))
  all_goals (refine ⟨[], [], rfl, congrArg AV.bool ?_, rfl⟩; simp_all [sideB] <;> omega)

def right (w h : Int) (v : List Int) : Bool := (sideB w && sideB h) && ((v.length : Int) == IntKind.wrap .i64 (w * h))

theorem right_in {w h : Int} {v : List Int} (hr : right w h v = true) : (1 ≤ w ∧ w ≤ 1024) ∧ (1 ≤ h ∧ h ≤ 1024) ∧ 0 ≤ w * h ∧ (v.length : Int) = w * h := by
  simp only [right, sideB, Bool.and_eq_true, decide_eq_true_eq, beq_iff_eq] at hr
  obtain ⟨⟨hw, hh⟩, hl⟩ := hr
  have b2 : 0 ≤ w * h := Int.mul_nonneg (by omega) (by omega)
  have b3 : w * h ≤ 1024 * 1024 := Int.mul_le_mul (by omega) (by omega) (by omega) (by omega)
  rw [wrap_id (by omega) (by omega)] at hl
  exact ⟨hw, hh, b2, hl⟩

theorem right_spec (w h : Int) (v : List Int) : CallsF Try.prog 92 [pl w h v] [] (.bool (right w h v)) [] := by
  refine e92 ?_
  conv => whnf
  refine CallsF.call [] [] (side_spec w) rfl rfl rfl rfl rfl (.inl rfl) ?_
  conv => whnf
  refine ifB_of (fun h1 => ?_) (fun h1 => ?_)
  · conv => whnf
    refine CallsF.call [] [] (side_spec h) rfl rfl rfl rfl rfl (.inl rfl) ?_
    conv => whnf
    iterate 1 (all_goals (try (refine ifB_of (fun _ => ?_) (fun _ => ?_))); all_goals (conv => whnf))
    all_goals (refine ⟨[], [], rfl, congrArg AV.bool ?_, rfl⟩; simp_all [right])
  · conv => whnf
    refine ⟨[], [], rfl, congrArg AV.bool ?_, rfl⟩
    simp only [right, h1, Bool.false_and]

theorem right7_spec (w h : Int) (v : List Int) : CallsF Try.prog 11 [pl w h v] [] (.bool (right w h v)) [] := by
  refine e11 ?_
  conv => whnf
  iterate 4 (all_goals (try (refine ifB_of (fun _ => ?_) (fun _ => ?_))); all_goals (conv => whnf))
  all_goals (refine ⟨[], [], rfl, congrArg AV.bool ?_, rfl⟩; simp_all [right, sideB] <;> omega)

def sgn (n : Int) : Int := if n > 0 then 1 else if n < 0 then -1 else 0

theorem sign_spec (n : Int) : CallsF Try.prog 68 [.int .i64 n] [] (.int .i64 (sgn n)) [] := by
  refine e68 ?_
  conv => whnf
  iterate 2 (all_goals (try (refine ifB_of (fun _ => ?_) (fun _ => ?_))); all_goals (conv => whnf))
  all_goals (refine ⟨[], [], rfl, congrArg (AV.int .i64) ?_, rfl⟩; simp_all [sgn] <;> omega)

/-- What stands at a place. -/
def atN (w h : Int) (v : List Int) (x y : Int) : Int :=
  if right w h v = false ∨ x < 0 ∨ y < 0 ∨ x ≥ w ∨ y ≥ h then 0 else v.getD (y * w + x).toNat 0

theorem at_in {w h : Int} {v : List Int} {x y : Int} (hr : right w h v = true) (hx : 0 ≤ x ∧ x < w) (hy : 0 ≤ y ∧ y < h) : 0 ≤ y * w + x ∧ y * w + x < w * h ∧ y * w ≤ 1024 * 1024 ∧ 0 ≤ y * w ∧
    IntKind.wrap .i64 (IntKind.wrap .i64 (y * w) + x) = y * w + x := by
  obtain ⟨a1, a2, a3, a4⟩ := right_in hr
  have b1 : y * w + w ≤ w * h := by
    have : (y + 1) * w ≤ h * w := Int.mul_le_mul_of_nonneg_right (by omega) (by omega)
    rw [Int.add_mul, Int.one_mul, Int.mul_comm h w] at this; exact this
  have b2 : 0 ≤ y * w := Int.mul_nonneg (by omega) (by omega)
  have b3 : y * w ≤ 1024 * 1024 := Int.mul_le_mul (by omega) (by omega) (by omega) (by omega)
  refine ⟨by omega, by omega, b3, b2, ?_⟩
  rw [wrap_id (n := y * w) (by omega) (by omega), wrap_id (by omega) (by omega)]

theorem at_spec (w h : Int) (v : List Int) (x y : Int) : CallsF Try.prog 67 [pl w h v, .int .i64 x, .int .i64 y] [] (.int .i64 (atN w h v x y)) [] := by
  refine e67 ?_
  conv => whnf
  refine CallsF.call [] [] (right_spec w h v) rfl rfl rfl rfl rfl (.inl rfl) ?_
  conv => whnf
  iterate 5 (all_goals (try (refine ifB_of (fun _ => ?_) (fun _ => ?_))); all_goals (conv => whnf))
  case refine_1 | refine_2.refine_1 | refine_2.refine_2.refine_1 | refine_2.refine_2.refine_2.refine_1 | refine_2.refine_2.refine_2.refine_2.refine_1 => all_goals (refine ⟨[], [], rfl, congrArg (AV.int .i64) ?_, rfl⟩; simp_all [atN])
  rename_i h1 h2 h3 h4 h5
  have hr : right w h v = true := by simpa using h1
  have e2 := of_decide_eq_false h2
  have e3 := of_decide_eq_false h3
  have e4 := of_decide_eq_false h4
  have e5 := of_decide_eq_false h5
  obtain ⟨a1, a2, a3, a4⟩ := right_in hr
  obtain ⟨b1, b2, b3, b4, ew⟩ := at_in hr ⟨by omega, by omega⟩ ⟨by omega, by omega⟩ (x := x) (y := y)
  refine need_of ((decide_eq_true (by rw [ew, a4]; omega))) ?_
  conv => whnf
  refine ⟨[], [], rfl, congrArg (AV.int .i64) ?_, rfl⟩
  rw [ew, atN, if_neg]
  rintro (h | h | h | h | h)
  · rw [hr] at h; cases h
  · exact e2 h
  · exact e3 h
  · exact e4 h
  · exact e5 h

def besideB (w h : Int) (v : List Int) (x y : Int) : Bool :=
  (atN w h v (IntKind.wrap .i64 (x - 1)) y != 0) || (atN w h v x (IntKind.wrap .i64 (y - 1)) != 0) || (atN w h v (IntKind.wrap .i64 (x - 1)) (IntKind.wrap .i64 (y - 1)) != 0)

theorem beside_spec (w h : Int) (v : List Int) (x y : Int) :
    CallsF Try.prog 43 [pl w h v, .int .i64 x, .int .i64 y] [] (.bool (besideB w h v x y)) [] := by
  refine e43 ?_
  conv => whnf
  refine CallsF.call [] [] (at_spec w h v _ y) rfl rfl rfl rfl rfl (.inl rfl) ?_
  conv => whnf
  refine ifB_of (fun h1 => ?_) (fun h1 => ?_)
  · conv => whnf
    refine ⟨[], [], rfl, congrArg AV.bool ?_, rfl⟩
    simp only [besideB, h1, Bool.true_or]
  conv => whnf
  refine CallsF.call [] [] (at_spec w h v x _) rfl rfl rfl rfl rfl (.inl rfl) ?_
  conv => whnf
  refine ifB_of (fun h2 => ?_) (fun h2 => ?_)
  · conv => whnf
    refine ⟨[], [], rfl, congrArg AV.bool ?_, rfl⟩
    simp only [besideB, h1, h2, Bool.true_or, Bool.false_or]
  conv => whnf
  refine CallsF.call [] [] (at_spec w h v _ _) rfl rfl rfl rfl rfl (.inl rfl) ?_
  conv => whnf
  refine ⟨[], [], rfl, congrArg AV.bool ?_, rfl⟩
  simp only [besideB, h1, h2, Bool.false_or]

theorem parent_spec (w h : Int) (v : List Int) (x y : Int) :
    CallsF Try.prog 45 [pl w h v, .int .i64 x, .int .i64 y] [] (.bool (atN w h v (x.fdiv 2) (y.fdiv 2) != 0)) [] := by
  refine e45 ?_
  conv => whnf
  refine need_of (rfl) ?_
  conv => whnf
  refine need_of (rfl) ?_
  conv => whnf
  refine CallsF.call [] [] (at_spec w h v _ _) rfl rfl rfl rfl rfl (.inl rfl) ?_
  conv => whnf
  exact ⟨[], [], rfl, congrArg AV.bool rfl, rfl⟩

def signN (w h : Int) (v : List Int) (o x y : Int) : Int :=
  if o = 1 then sgn (atN w h v x (IntKind.wrap .i64 (y - 1))) else if o = 2 then sgn (atN w h v (IntKind.wrap .i64 (x - 1)) y) else 0

theorem Sign_spec (w h : Int) (v : List Int) (o x y : Int) :
    CallsF Try.prog 44 [pl w h v, .int .i64 o, .int .i64 x, .int .i64 y] [] (.int .i64 (signN w h v o x y)) [] := by
  refine e44 ?_
  conv => whnf
  refine ifB_of (fun h1 => ?_) (fun h1 => ?_)
  · conv => whnf
    refine CallsF.call [] [] (at_spec w h v _ _) rfl rfl rfl rfl rfl (.inl rfl) ?_
    conv => whnf
    refine CallsF.call [] [] (sign_spec _) rfl rfl rfl rfl rfl (.inl rfl) ?_
    conv => whnf
    refine ⟨[], [], rfl, congrArg (AV.int .i64) ?_, rfl⟩
    rw [signN, if_pos (by simpa using h1)]
  conv => whnf
  refine ifB_of (fun h2 => ?_) (fun h2 => ?_)
  · conv => whnf
    refine CallsF.call [] [] (at_spec w h v _ _) rfl rfl rfl rfl rfl (.inl rfl) ?_
    conv => whnf
    refine CallsF.call [] [] (sign_spec _) rfl rfl rfl rfl rfl (.inl rfl) ?_
    conv => whnf
    refine ⟨[], [], rfl, congrArg (AV.int .i64) ?_, rfl⟩
    rw [signN, if_neg (by simpa using h1), if_pos (by simpa using h2)]
  conv => whnf
  refine ⟨[], [], rfl, congrArg (AV.int .i64) ?_, rfl⟩
  rw [signN, if_neg (by simpa using h1), if_neg (by simpa using h2)]

/-- The contexts, as a list. -/
def ctx (p b : Bool) : List Int := if p then [if b then 8 else 7, 9, 10, 11, 12, 13] else [if b then 1 else 0, 2, 3, 4, 5, 6]
def ctxS (s : Int) : Int := if s > 0 then 15 else if s < 0 then 16 else 14
def st3 (xs : List Int) (d s : Int) : AV := .agg [.ri .i64 xs, .int .i64 d, .int .i64 s]

theorem Set_spec (p b : Bool) (s : Int) : CallsF Try.prog 14 [.bool p, .bool b, .int .i64 s] [] (st3 (ctx p b) 17 (ctxS s)) [] := by
  refine e14 ?_
  cases p <;> cases b <;>
    (conv => whnf
     refine need_of rfl ?_
     conv => whnf
     refine need_of rfl ?_
     conv => whnf
     refine LoopA.unroll 6 [2, 6, 8, 9, 11, 26] [0, 2, 4, 3] [] [0, 1, 2, 5] [] rfl ?_
     conv => whnf
     refine ⟨rfl, ?_⟩
     conv => whnf
     refine ⟨rfl, ?_⟩
     conv => whnf
     refine ⟨rfl, ?_⟩
     conv => whnf
     refine ⟨rfl, ?_⟩
     conv => whnf
     refine ⟨rfl, ?_⟩
     conv => whnf
     refine ifB_of (fun h1 => ?_) (fun h1 => ?_)
     · conv => whnf
       refine ⟨[], [3], rfl, ?_, rfl⟩
       rw [ctxS, if_pos (of_decide_eq_true h1)]
       rfl
     conv => whnf
     refine ifB_of (fun h2 => ?_) (fun h2 => ?_)
     · conv => whnf
       refine ⟨[], [3], rfl, ?_, rfl⟩
       rw [ctxS, if_neg (of_decide_eq_false h1), if_pos (of_decide_eq_true h2)]
       rfl
     conv => whnf
     refine ⟨[], [3], rfl, ?_, rfl⟩
     rw [ctxS, if_neg (of_decide_eq_false h1), if_neg (of_decide_eq_false h2)]
     rfl)

theorem Contexts_spec (p b : Bool) (s : Int) : CallsF Try.prog 15 [.bool p, .bool b, .int .i64 s] [] (st3 (ctx p b) 17 (ctxS s)) [] := by
  refine e15 ?_
  conv => whnf
  cases p <;> cases b <;>
    (conv => whnf
     refine ifB_of (fun h1 => ?_) (fun h1 => ?_)
     · have h2 : decide (s < 0) = false := decide_eq_false (by have := of_decide_eq_true h1; omega)
       conv => whnf
       refine ifB_of (fun h2' => ?_) (fun _ => ?_)
       · rw [h2] at h2'; cases h2'
       conv => whnf
       refine ⟨[], [2], rfl, ?_, rfl⟩
       rw [ctxS, if_pos (of_decide_eq_true h1)]
       rfl
     conv => whnf
     refine ifB_of (fun h2 => ?_) (fun h2 => ?_)
     · conv => whnf
       refine ⟨[], [2], rfl, ?_, rfl⟩
       rw [ctxS, if_neg (of_decide_eq_false h1), if_pos (of_decide_eq_true h2)]
       rfl
     conv => whnf
     refine ⟨[], [2], rfl, ?_, rfl⟩
     rw [ctxS, if_neg (of_decide_eq_false h1), if_neg (of_decide_eq_false h2)]
     rfl)

theorem Shift_spec : CallsF Try.prog 16 [] [] (st3 [19] 20 21) [] := by
  refine e16 ?_
  conv => whnf
  exact ⟨[], [1], rfl, rfl, rfl⟩

def sameB (xs : List Int) (d s : Int) (ys : List Int) (d' s' : Int) : Bool := decide (d = d') && decide (s = s') && decide (xs = ys)

theorem Same_spec (xs : List Int) (d s : Int) (ys : List Int) (d' s' : Int) (hl : xs.length < 2 ^ 62) :
    CallsF Try.prog 13 [st3 xs d s, st3 ys d' s'] [] (.bool (sameB xs d s ys d' s')) [] := by
  refine e13 ?_
  conv => whnf
  refine ifB_of (fun h1 => ?_) (fun h1 => ?_)
  · conv => whnf
    refine ⟨[], [], rfl, congrArg AV.bool ?_, rfl⟩
    have : d ≠ d' := by simpa using h1
    simp [sameB, this]
  conv => whnf
  refine ifB_of (fun h2 => ?_) (fun h2 => ?_)
  · conv => whnf
    refine ⟨[], [], rfl, congrArg AV.bool ?_, rfl⟩
    have : s ≠ s' := by simpa using h2
    simp [sameB, this]
  conv => whnf
  refine ifB_of (fun h3 => ?_) (fun h3 => ?_)
  · conv => whnf
    refine ⟨[], [], rfl, congrArg AV.bool ?_, rfl⟩
    have : xs ≠ ys := by rintro rfl; simp at h3
    simp [sameB, this]
  conv => whnf
  have e1 : d = d' := by simpa using h1
  have e2 : s = s' := by simpa using h2
  have e3 : xs.length = ys.length := by have : (xs.length : Int) = ys.length := by simpa using h3
                                        omega
  refine ⟨fun n st => ∃ i : Nat, n + i = xs.length ∧ xs.take i = ys.take i ∧ st = ⟨[(2, .bp 0 0), (3, .bp 1 0), (29, .int .i64 xs.length), (30, .int .i64 i)],
    [some (.box [.ri .i64 xs, .int .i64 d, .int .i64 s]), some (.box [.ri .i64 ys, .int .i64 d', .int .i64 s'])], 2, 0⟩, ⟨xs.length, [2, 3, 29, 30], [0, 1], [], rfl, 0, rfl, rfl, rfl⟩, ?_⟩
  rintro n st ⟨i, hn, ht, rfl⟩
  conv => whnf
  refine ifB_of (fun h4 => ?_) (fun h4 => ?_)
  · have hi : i < xs.length := by have := of_decide_eq_true h4; omega
    conv => whnf
    refine need_of ((decide_eq_true ⟨by omega, by omega⟩)) ?_
    conv => whnf
    refine need_of ((decide_eq_true ⟨by omega, by omega⟩)) ?_
    conv => whnf
    refine ifB_of (fun h5 => ?_) (fun h5 => ?_)
    · conv => whnf
      refine ⟨[], [], rfl, congrArg AV.bool ?_, rfl⟩
      have : xs ≠ ys := by rintro rfl; simp at h5
      simp [sameB, this]
    · conv => whnf
      refine ⟨xs.length - (i + 1), [2, 3, 29, 30], [0, 1], [], by omega, rfl, i + 1, by omega, ?_, ?_⟩
      · have h6 : xs.getD i 0 = ys.getD i 0 := by simpa using h5
        have hj : i < ys.length := by omega
        rw [List.take_succ_eq_append_getElem hi, List.take_succ_eq_append_getElem (l := ys) hj, ht]
        have h7 : xs[i] = ys[i] := by simpa [hi, hj] using h6
        rw [h7]
      · have : IntKind.wrap .i64 ((i : Int) + 1) = ((i + 1 : Nat) : Int) := by rw [wrap_id (by omega) (by omega)]; rfl
        show _ = St.mk [(2, .bp 0 0), (3, .bp 1 0), (29, .int .i64 xs.length), (30, .int .i64 ((i + 1 : Nat) : Int))] _ _ _
        rw [← this]; rfl
  · conv => whnf
    refine ⟨[], [], rfl, congrArg AV.bool ?_, rfl⟩
    have hi : i = xs.length := by have := of_decide_eq_false h4; omega
    subst hi
    have : xs = ys := by rw [List.take_length, e3, List.take_length] at ht; exact ht
    simp [sameB, e1, e2, this]

theorem Same_true (xs : List Int) (d s : Int) (hl : xs.length < 2 ^ 62) : CallsF Try.prog 13 [st3 xs d s, st3 xs d s] [] (.bool true) [] := by
  have := Same_spec xs d s xs d s hl
  rw [show sameB xs d s xs d s = true by simp [sameB]] at this
  exact this

/-- The contexts at a place. -/
def ofV (w h : Int) (v : List Int) (w' h' : Int) (v' : List Int) (o x y : Int) : AV :=
  st3 (ctx (atN w' h' v' (x.fdiv 2) (y.fdiv 2) != 0) (besideB w h v x y)) 17 (ctxS (signN w h v o x y))

theorem Of_spec (w h : Int) (v : List Int) (w' h' : Int) (v' : List Int) (o x y : Int) :
    CallsF Try.prog 12 [pl w h v, pl w' h' v', .int .i64 o, .int .i64 x, .int .i64 y] [] (ofV w h v w' h' v' o x y) [] := by
  refine e12 ?_
  conv => whnf
  refine CallsF.call [] [] (parent_spec w' h' v' x y) rfl rfl rfl rfl rfl (.inl rfl) ?_
  conv => whnf
  refine ⟨⟨_, rfl⟩, ?_⟩
  conv => whnf
  refine CallsF.call [] [] (beside_spec w h v x y) rfl rfl rfl rfl rfl (.inl rfl) ?_
  conv => whnf
  refine ⟨⟨_, rfl⟩, ?_⟩
  conv => whnf
  refine CallsF.call [] [] (Sign_spec w h v o x y) rfl rfl rfl rfl rfl (.inl rfl) ?_
  conv => whnf
  refine CallsF.call [] [] (Set_spec _ _ _) rfl rfl rfl rfl rfl (.inl rfl) ?_
  conv => whnf
  exact ⟨[], [], rfl, rfl, rfl⟩

theorem first_spec : CallsF Try.prog 10 [] [] (.bool true) [] := by
  refine e10 ?_
  conv => whnf
  refine CallsF.call [] [] (Set_spec _ _ _) rfl rfl rfl rfl rfl (.inl rfl) ?_
  conv => whnf
  refine need_of (rfl) ?_
  conv => whnf
  refine CallsF.call [] [1] (beside_spec 2 1 [-3, 0] 1 0) rfl rfl rfl rfl rfl (.inr rfl) ?_
  conv => whnf
  refine CallsF.call [] [1] (Sign_spec 2 1 [-3, 0] 2 1 0) rfl rfl rfl rfl rfl (.inr rfl) ?_
  conv => whnf
  refine CallsF.call [] [1] (parent_spec 2 1 [-3, 0] 2 0) rfl rfl rfl rfl rfl (.inr rfl) ?_
  conv => whnf
  refine CallsA.frz [1] ?_
  conv => whnf
  refine CallsF.call [] [] (Of_spec 2 1 [-3, 0] 2 1 [-3, 0] 2 1 0) rfl rfl rfl rfl rfl (.inl rfl) ?_
  conv => whnf
  exact ⟨[], [], rfl, rfl, rfl⟩
end Go.Proofs.TryN

