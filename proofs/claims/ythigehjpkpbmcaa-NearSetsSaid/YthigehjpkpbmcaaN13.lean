/- Layer 13: what each function answers, as contracts; no condition but those that the contracts bear. -/
import Derived.Test.YthigehjpkpbmcaaAL19
import Derived.Test.YthigehjpkpbmcaaF13
namespace Go.Proofs.TryN
open Go Go.AL Go.Proofs

def sideB (n : Int) : Bool := decide (1 ≤ n) && decide (n ≤ 1024)

theorem wrap_id {n : Int} (h1 : -9223372036854775808 ≤ n) (h2 : n ≤ 9223372036854775807) : IntKind.wrap .i64 n = n := by
  rw [IntKind.wrap_i64]; omega

theorem side_spec (n : Int) : CallsA Try.prog 104 [.int .i64 n] [] (fun r h => r = .bool (sideB n) ∧ h = []) := by
  refine e104 ?_
  conv => whnf
  refine ifB_of (fun h1 => ?_) (fun h1 => ?_)
  · conv => whnf
    refine ⟨[], rfl, congrArg AV.bool ?_, rfl⟩
    simp only [sideB, h1, Bool.true_and]
  · conv => whnf
    refine ⟨[], rfl, congrArg AV.bool ?_, rfl⟩
    simp only [sideB, h1, Bool.false_and]

/-- A plane as it is handed over. -/
def pl (w h : Int) (v : List Int) : AV := .agg [.int .i64 w, .int .i64 h, .ri .i64 v]
def right (w h : Int) (v : List Int) : Bool := (sideB w && sideB h) && ((v.length : Int) == IntKind.wrap .i64 (w * h))

theorem right_in {w h : Int} {v : List Int} (hr : right w h v = true) : (1 ≤ w ∧ w ≤ 1024) ∧ (1 ≤ h ∧ h ≤ 1024) ∧ 0 ≤ w * h ∧ (v.length : Int) = w * h := by
  simp only [right, sideB, Bool.and_eq_true, decide_eq_true_eq, beq_iff_eq] at hr
  obtain ⟨⟨hw, hh⟩, hl⟩ := hr
  have b2 : 0 ≤ w * h := Int.mul_nonneg (by omega) (by omega)
  have b3 : w * h ≤ 1024 * 1024 := Int.mul_le_mul (by omega) (by omega) (by omega) (by omega)
  rw [wrap_id (by omega) (by omega)] at hl
  exact ⟨hw, hh, b2, hl⟩

theorem right_spec (w h : Int) (v : List Int) : CallsA Try.prog 92 [pl w h v] [] (fun r hp => r = .bool (right w h v) ∧ hp = []) := by
  refine e92 ?_
  conv => whnf
  refine CallsA.call [] [] (side_spec w) rfl rfl rfl rfl rfl ?_
  rintro r h' ⟨rfl, rfl⟩
  refine ⟨.inl rfl, ?_⟩
  conv => whnf
  refine ifB_of (fun h1 => ?_) (fun h1 => ?_)
  · conv => whnf
    refine CallsA.call [] [] (side_spec h) rfl rfl rfl rfl rfl ?_
    rintro r h' ⟨rfl, rfl⟩
    refine ⟨.inl rfl, ?_⟩
    conv => whnf
    refine ifB_of (fun h2 => ?_) (fun h2 => ?_)
    · conv => whnf
      refine ⟨[], rfl, congrArg AV.bool ?_, rfl⟩
      simp only [right, h1, h2, Bool.true_and]
    · conv => whnf
      refine ⟨[], rfl, congrArg AV.bool ?_, rfl⟩
      simp only [right, h1, h2, Bool.true_and, Bool.false_and]
  · conv => whnf
    refine ⟨[], rfl, congrArg AV.bool ?_, rfl⟩
    simp only [right, h1, Bool.false_and]

def sgn (n : Int) : Int := if n > 0 then 1 else if n < 0 then -1 else 0

theorem sign_spec (n : Int) : CallsA Try.prog 68 [.int .i64 n] [] (fun r h => r = .int .i64 (sgn n) ∧ h = []) := by
  refine e68 ?_
  conv => whnf
  refine ifB_of (fun h1 => ?_) (fun h1 => ?_)
  · conv => whnf
    refine ⟨[], rfl, congrArg (AV.int .i64) ?_, rfl⟩
    rw [sgn, if_pos (of_decide_eq_true h1)]
  · conv => whnf
    refine ifB_of (fun h2 => ?_) (fun h2 => ?_)
    · conv => whnf
      refine ⟨[], rfl, congrArg (AV.int .i64) ?_, rfl⟩
      rw [sgn, if_neg (of_decide_eq_false h1), if_pos (of_decide_eq_true h2)]
    · conv => whnf
      refine ⟨[], rfl, congrArg (AV.int .i64) ?_, rfl⟩
      rw [sgn, if_neg (of_decide_eq_false h1), if_neg (of_decide_eq_false h2)]

/-- What stands at a place. -/
def atN (w h : Int) (v : List Int) (x y : Int) : Int :=
  if right w h v = false ∨ x < 0 ∨ y < 0 ∨ x ≥ w ∨ y ≥ h then 0 else v.getD (y * w + x).toNat 0

theorem at_spec (w h : Int) (v : List Int) (x y : Int) :
    CallsA Try.prog 67 [pl w h v, .int .i64 x, .int .i64 y] [] (fun r hp => r = .int .i64 (atN w h v x y) ∧ hp = []) := by
  refine e67 ?_
  conv => whnf
  refine CallsA.call [] [] (right_spec w h v) rfl rfl rfl rfl rfl ?_
  rintro r h' ⟨rfl, rfl⟩
  refine ⟨.inl rfl, ?_⟩
  conv => whnf
  have no : (right w h v = false ∨ x < 0 ∨ y < 0 ∨ x ≥ w ∨ y ≥ h) → (0 : Int) = atN w h v x y := fun h => (if_pos h).symm
  refine ifB_of (fun h1 => ?_) (fun h1 => ?_)
  · conv => whnf
    exact ⟨[], rfl, congrArg (AV.int .i64) (no (.inl (by simpa using h1))), rfl⟩
  conv => whnf
  refine ifB_of (fun h2 => ?_) (fun h2 => ?_)
  · conv => whnf
    exact ⟨[], rfl, congrArg (AV.int .i64) (no (.inr (.inl (of_decide_eq_true h2)))), rfl⟩
  conv => whnf
  refine ifB_of (fun h3 => ?_) (fun h3 => ?_)
  · conv => whnf
    exact ⟨[], rfl, congrArg (AV.int .i64) (no (.inr (.inr (.inl (of_decide_eq_true h3))))), rfl⟩
  conv => whnf
  refine ifB_of (fun h4 => ?_) (fun h4 => ?_)
  · conv => whnf
    exact ⟨[], rfl, congrArg (AV.int .i64) (no (.inr (.inr (.inr (.inl (of_decide_eq_true h4)))))), rfl⟩
  conv => whnf
  refine ifB_of (fun h5 => ?_) (fun h5 => ?_)
  · conv => whnf
    exact ⟨[], rfl, congrArg (AV.int .i64) (no (.inr (.inr (.inr (.inr (of_decide_eq_true h5)))))), rfl⟩
  conv => whnf
  have hr : right w h v = true := by simpa using h1
  have e2 := of_decide_eq_false h2
  have e3 := of_decide_eq_false h3
  have e4 := of_decide_eq_false h4
  have e5 := of_decide_eq_false h5
  obtain ⟨a1, a2, a3, a4⟩ := right_in hr
  have hin : 0 ≤ y * w + x ∧ y * w + x < w * h ∧ y * w ≤ 1024 * 1024 ∧ 0 ≤ y * w := by
    have b1 : y * w + w ≤ w * h := by
      have : (y + 1) * w ≤ h * w := Int.mul_le_mul_of_nonneg_right (by omega) (by omega)
      rw [Int.add_mul, Int.one_mul, Int.mul_comm h w] at this; exact this
    have b2 : 0 ≤ y * w := Int.mul_nonneg (by omega) (by omega)
    have b3 : y * w ≤ 1024 * 1024 := Int.mul_le_mul (by omega) (by omega) (by omega) (by omega)
    omega
  have ew : IntKind.wrap .i64 (IntKind.wrap .i64 (y * w) + x) = y * w + x := by
    rw [wrap_id (n := y * w) (by omega) (by omega), wrap_id (by omega) (by omega)]
  refine need_of (decide_eq_true (by rw [ew, a4]; omega)) ?_
  conv => whnf
  refine ⟨[], rfl, congrArg (AV.int .i64) ?_, rfl⟩
  rw [ew, atN, if_neg]
  rintro (h | h | h | h | h)
  · rw [hr] at h; cases h
  · exact e2 h
  · exact e3 h
  · exact e4 h
  · exact e5 h

def besideB (w h : Int) (v : List Int) (x y : Int) : Bool :=
  (atN w h v (IntKind.wrap .i64 (x - 1)) y != 0) || (atN w h v x (IntKind.wrap .i64 (y - 1)) != 0) || (atN w h v (IntKind.wrap .i64 (x - 1)) (IntKind.wrap .i64 (y - 1)) != 0)

theorem beside_spec (w h : Int) (v : List Int) (x y : Int) :
    CallsA Try.prog 43 [pl w h v, .int .i64 x, .int .i64 y] [] (fun r hp => r = .bool (besideB w h v x y) ∧ hp = []) := by
  refine e43 ?_
  conv => whnf
  refine CallsA.call [] [] (at_spec w h v _ y) rfl rfl rfl rfl rfl ?_
  rintro r h' ⟨rfl, rfl⟩
  refine ⟨.inl rfl, ?_⟩
  conv => whnf
  refine ifB_of (fun h1 => ?_) (fun h1 => ?_)
  · conv => whnf
    refine ⟨[], rfl, congrArg AV.bool ?_, rfl⟩
    simp only [besideB, h1, Bool.true_or]
  conv => whnf
  refine CallsA.call [] [] (at_spec w h v x _) rfl rfl rfl rfl rfl ?_
  rintro r h' ⟨rfl, rfl⟩
  refine ⟨.inl rfl, ?_⟩
  conv => whnf
  refine ifB_of (fun h2 => ?_) (fun h2 => ?_)
  · conv => whnf
    refine ⟨[], rfl, congrArg AV.bool ?_, rfl⟩
    simp only [besideB, h1, h2, Bool.true_or, Bool.false_or]
  conv => whnf
  refine CallsA.call [] [] (at_spec w h v _ _) rfl rfl rfl rfl rfl ?_
  rintro r h' ⟨rfl, rfl⟩
  refine ⟨.inl rfl, ?_⟩
  conv => whnf
  refine ⟨[], rfl, congrArg AV.bool ?_, rfl⟩
  simp only [besideB, h1, h2, Bool.false_or]

theorem parent_spec (w h : Int) (v : List Int) (x y : Int) :
    CallsA Try.prog 45 [pl w h v, .int .i64 x, .int .i64 y] [] (fun r hp => r = .bool (atN w h v (x.fdiv 2) (y.fdiv 2) != 0) ∧ hp = []) := by
  refine e45 ?_
  conv => whnf
  refine need_of rfl ?_
  conv => whnf
  refine need_of rfl ?_
  conv => whnf
  refine CallsA.call [] [] (at_spec w h v _ _) rfl rfl rfl rfl rfl ?_
  rintro r h' ⟨rfl, rfl⟩
  refine ⟨.inl rfl, ?_⟩
  conv => whnf
  exact ⟨[], rfl, congrArg AV.bool rfl, rfl⟩

def signN (w h : Int) (v : List Int) (o x y : Int) : Int :=
  if o = 1 then sgn (atN w h v x (IntKind.wrap .i64 (y - 1))) else if o = 2 then sgn (atN w h v (IntKind.wrap .i64 (x - 1)) y) else 0

theorem Sign_spec (w h : Int) (v : List Int) (o x y : Int) :
    CallsA Try.prog 44 [pl w h v, .int .i64 o, .int .i64 x, .int .i64 y] [] (fun r hp => r = .int .i64 (signN w h v o x y) ∧ hp = []) := by
  refine e44 ?_
  conv => whnf
  refine ifB_of (fun h1 => ?_) (fun h1 => ?_)
  · conv => whnf
    refine CallsA.call [] [] (at_spec w h v _ _) rfl rfl rfl rfl rfl ?_
    rintro r h' ⟨rfl, rfl⟩
    refine ⟨.inl rfl, ?_⟩
    conv => whnf
    refine CallsA.call [] [] (sign_spec _) rfl rfl rfl rfl rfl ?_
    rintro r h' ⟨rfl, rfl⟩
    refine ⟨.inl rfl, ?_⟩
    conv => whnf
    refine ⟨[], rfl, congrArg (AV.int .i64) ?_, rfl⟩
    rw [signN, if_pos (by simpa using h1)]
  conv => whnf
  refine ifB_of (fun h2 => ?_) (fun h2 => ?_)
  · conv => whnf
    refine CallsA.call [] [] (at_spec w h v _ _) rfl rfl rfl rfl rfl ?_
    rintro r h' ⟨rfl, rfl⟩
    refine ⟨.inl rfl, ?_⟩
    conv => whnf
    refine CallsA.call [] [] (sign_spec _) rfl rfl rfl rfl rfl ?_
    rintro r h' ⟨rfl, rfl⟩
    refine ⟨.inl rfl, ?_⟩
    conv => whnf
    refine ⟨[], rfl, congrArg (AV.int .i64) ?_, rfl⟩
    rw [signN, if_neg (by simpa using h1), if_pos (by simpa using h2)]
  conv => whnf
  refine ⟨[], rfl, congrArg (AV.int .i64) ?_, rfl⟩
  rw [signN, if_neg (by simpa using h1), if_neg (by simpa using h2)]

theorem Set_spec (p b : Bool) (s : Int) :
    CallsA Try.prog 14 [.bool p, .bool b, .int .i64 s] [] (fun r hp => r = .agg [.sl 0 0 6, .int .i64 17, .int .i64 (if s > 0 then 15 else if s < 0 then 16 else 14)] ∧
      hp = [some (.ia .i64 (if p then [if b then 8 else 7, 9, 10, 11, 12, 13] else [if b then 1 else 0, 2, 3, 4, 5, 6]))]) := by
  refine e14 ?_
  cases p <;> cases b <;>
    (conv => whnf
     refine need_of rfl ?_
     conv => whnf
     refine need_of rfl ?_
     conv => whnf
     refine LoopA.unroll 6 [2, 6, 8, 9, 11, 26] [0, 2, 4, 3] [0, 1, 2, 5] rfl ?_
     conv => whnf
     refine ⟨rfl, ?_⟩
     conv => whnf
     refine ⟨rfl, ?_⟩
     conv => whnf
     refine ⟨rfl, ?_⟩
     conv => whnf
     refine ⟨rfl, ?_⟩
     conv => whnf
     refine ⟨rfl, ?_⟩
     conv => whnf
     refine ifB_of (fun h1 => ?_) (fun h1 => ?_)
     · conv => whnf
       refine ⟨[3], rfl, ?_⟩
       rw [if_pos (of_decide_eq_true h1)]
       exact ⟨rfl, rfl⟩
     conv => whnf
     refine ifB_of (fun h2 => ?_) (fun h2 => ?_)
     · conv => whnf
       refine ⟨[3], rfl, ?_⟩
       rw [if_neg (of_decide_eq_false h1), if_pos (of_decide_eq_true h2)]
       exact ⟨rfl, rfl⟩
     conv => whnf
     refine ⟨[3], rfl, ?_⟩
     rw [if_neg (of_decide_eq_false h1), if_neg (of_decide_eq_false h2)]
     exact ⟨rfl, rfl⟩)

/-- The contexts, as a list. -/
def ctx (p b : Bool) : List Int := if p then [if b then 8 else 7, 9, 10, 11, 12, 13] else [if b then 1 else 0, 2, 3, 4, 5, 6]
def ctxS (s : Int) : Int := if s > 0 then 15 else if s < 0 then 16 else 14

theorem Contexts_spec (p b : Bool) (s : Int) :
    CallsA Try.prog 15 [.bool p, .bool b, .int .i64 s] [] (fun r hp => r = .agg [.sl 0 0 6, .int .i64 17, .int .i64 (if s > 0 then 15 else if s < 0 then 16 else 14)] ∧
      hp = [some (.ia .i64 (if p then [if b then 8 else 7, 9, 10, 11, 12, 13] else [if b then 1 else 0, 2, 3, 4, 5, 6]))]) := by
  refine e15 ?_
  conv => whnf
  cases p <;> cases b <;>
    (conv => whnf
     refine ifB_of (fun h1 => ?_) (fun h1 => ?_)
     · have h2 : decide (s < 0) = false := decide_eq_false (by have := of_decide_eq_true h1; omega)
       conv => whnf
       refine ifB_of (fun h2' => ?_) (fun _ => ?_)
       · rw [h2] at h2'; cases h2'
       conv => whnf
       refine ⟨[2], rfl, ?_⟩
       rw [if_pos (of_decide_eq_true h1)]
       exact ⟨rfl, rfl⟩
     conv => whnf
     refine ifB_of (fun h2 => ?_) (fun h2 => ?_)
     · conv => whnf
       refine ⟨[2], rfl, ?_⟩
       rw [if_neg (of_decide_eq_false h1), if_pos (of_decide_eq_true h2)]
       exact ⟨rfl, rfl⟩
     conv => whnf
     refine ⟨[2], rfl, ?_⟩
     rw [if_neg (of_decide_eq_false h1), if_neg (of_decide_eq_false h2)]
     exact ⟨rfl, rfl⟩)

theorem Shift_spec : CallsA Try.prog 16 [] [] (fun r hp => r = .agg [.sl 0 0 1, .int .i64 20, .int .i64 21] ∧ hp = [some (.ia .i64 [19])]) := by
  refine e16 ?_
  conv => whnf
  exact ⟨[1], rfl, rfl, rfl⟩

def st3 (xs : List Int) (d s : Int) : AV := .agg [.ri .i64 xs, .int .i64 d, .int .i64 s]
def sameB (xs : List Int) (d s : Int) (ys : List Int) (d' s' : Int) : Bool := decide (d = d') && decide (s = s') && decide (xs = ys)

theorem Same_spec (xs : List Int) (d s : Int) (ys : List Int) (d' s' : Int) (hl : xs.length < 2 ^ 62) :
    CallsA Try.prog 13 [st3 xs d s, st3 ys d' s'] [] (fun r hp => r = .bool (sameB xs d s ys d' s') ∧ hp = []) := by
  refine e13 ?_
  conv => whnf
  refine ifB_of (fun h1 => ?_) (fun h1 => ?_)
  · conv => whnf
    refine ⟨[], rfl, congrArg AV.bool ?_, rfl⟩
    have : d ≠ d' := by simpa using h1
    simp [sameB, this]
  conv => whnf
  refine ifB_of (fun h2 => ?_) (fun h2 => ?_)
  · conv => whnf
    refine ⟨[], rfl, congrArg AV.bool ?_, rfl⟩
    have : s ≠ s' := by simpa using h2
    simp [sameB, this]
  conv => whnf
  refine ifB_of (fun h3 => ?_) (fun h3 => ?_)
  · conv => whnf
    refine ⟨[], rfl, congrArg AV.bool ?_, rfl⟩
    have : xs ≠ ys := by rintro rfl; simp at h3
    simp [sameB, this]
  conv => whnf
  have e1 : d = d' := by simpa using h1
  have e2 : s = s' := by simpa using h2
  have e3 : xs.length = ys.length := by have : (xs.length : Int) = ys.length := by simpa using h3
                                        omega
  refine ⟨fun n st => ∃ i : Nat, n + i = xs.length ∧ xs.take i = ys.take i ∧ st = ⟨[(2, .bp 0 0), (3, .bp 1 0), (29, .int .i64 xs.length), (30, .int .i64 i)],
    [some (.box [.ri .i64 xs, .int .i64 d, .int .i64 s]), some (.box [.ri .i64 ys, .int .i64 d', .int .i64 s'])], 2, 0⟩, ⟨xs.length, [2, 3, 29, 30], [0, 1], rfl, 0, rfl, rfl, rfl⟩, ?_⟩
  rintro n st ⟨i, hn, ht, rfl⟩
  conv => whnf
  refine ifB_of (fun h4 => ?_) (fun h4 => ?_)
  · have hi : i < xs.length := by have := of_decide_eq_true h4; omega
    conv => whnf
    refine need_of (decide_eq_true ⟨by omega, by omega⟩) ?_
    conv => whnf
    refine need_of (decide_eq_true ⟨by omega, by omega⟩) ?_
    conv => whnf
    refine ifB_of (fun h5 => ?_) (fun h5 => ?_)
    · conv => whnf
      refine ⟨[], rfl, congrArg AV.bool ?_, rfl⟩
      have : xs ≠ ys := by rintro rfl; simp at h5
      simp [sameB, this]
    · conv => whnf
      refine ⟨xs.length - (i + 1), [2, 3, 29, 30], [0, 1], by omega, rfl, i + 1, by omega, ?_, ?_⟩
      · have h6 : xs.getD i 0 = ys.getD i 0 := by simpa using h5
        have hj : i < ys.length := by omega
        rw [List.take_succ_eq_append_getElem hi, List.take_succ_eq_append_getElem (l := ys) hj, ht]
        have h7 : xs[i] = ys[i] := by simpa [hi, hj] using h6
        rw [h7]
      · have : IntKind.wrap .i64 ((i : Int) + 1) = ((i + 1 : Nat) : Int) := by rw [wrap_id (by omega) (by omega)]; rfl
        show _ = St.mk [(2, .bp 0 0), (3, .bp 1 0), (29, .int .i64 xs.length), (30, .int .i64 ((i + 1 : Nat) : Int))] _ _ _
        rw [← this]; rfl
  · conv => whnf
    refine ⟨[], rfl, congrArg AV.bool ?_, rfl⟩
    have hi : i = xs.length := by have := of_decide_eq_false h4; omega
    subst hi
    have : xs = ys := by rw [List.take_length, e3, List.take_length] at ht; exact ht
    simp [sameB, e1, e2, this]

def ofB (q p : Int × Int × List Int) (x y : Int) : Bool × Bool := (atN p.1 p.2.1 p.2.2 (x.fdiv 2) (y.fdiv 2) != 0, besideB q.1 q.2.1 q.2.2 x y)

theorem Of_spec (w h : Int) (v : List Int) (w' h' : Int) (v' : List Int) (o x y : Int) :
    CallsA Try.prog 12 [pl w h v, pl w' h' v', .int .i64 o, .int .i64 x, .int .i64 y] [] (fun r hp => r = .agg [.sl 0 0 6, .int .i64 17, .int .i64 (ctxS (signN w h v o x y))] ∧
      hp = [some (.ia .i64 (ctx (atN w' h' v' (x.fdiv 2) (y.fdiv 2) != 0) (besideB w h v x y)))]) := by
  refine e12 ?_
  conv => whnf
  refine CallsA.call [] [] (parent_spec _ _ _ _ _) rfl rfl rfl rfl rfl ?_
  rintro r hh ⟨rfl, rfl⟩
  refine ⟨.inl rfl, ⟨[], rfl⟩, ?_⟩
  conv => whnf
  refine CallsA.call [] [] (beside_spec _ _ _ _ _) rfl rfl rfl rfl rfl ?_
  rintro r hh ⟨rfl, rfl⟩
  refine ⟨.inl rfl, ⟨[], rfl⟩, ?_⟩
  conv => whnf
  refine CallsA.call [] [] (Sign_spec _ _ _ _ _ _) rfl rfl rfl rfl rfl ?_
  rintro r hh ⟨rfl, rfl⟩
  refine ⟨.inl rfl, ?_⟩
  conv => whnf
  refine CallsA.call [] [] (Set_spec _ _ _) rfl rfl rfl rfl rfl ?_
  rintro r hh ⟨rfl, rfl⟩
  refine ⟨.inl rfl, ?_⟩
  conv => whnf
  exact ⟨[3], rfl, rfl, rfl⟩

theorem first_spec : CallsA Try.prog 10 [] [] (fun r hp => r = .bool true ∧ hp = []) := by
  refine e10 ?_
  conv => whnf
  refine CallsA.call [] [] (Set_spec _ _ _) rfl rfl rfl rfl rfl ?_
  rintro r hh ⟨rfl, rfl⟩
  refine ⟨.inl rfl, ?_⟩
  conv => whnf
  refine need_of rfl ?_
  conv => whnf
  refine CallsA.call [] [2] (beside_spec 2 1 [-3, 0] 1 0) rfl rfl rfl rfl rfl ?_
  rintro r hh ⟨rfl, rfl⟩
  refine ⟨.inr rfl, ?_⟩
  conv => whnf
  refine CallsA.call [] [2] (Sign_spec 2 1 [-3, 0] 2 1 0) rfl rfl rfl rfl rfl ?_
  rintro r hh ⟨rfl, rfl⟩
  refine ⟨.inr rfl, ?_⟩
  conv => whnf
  refine CallsA.call [] [2] (parent_spec 2 1 [-3, 0] 2 0) rfl rfl rfl rfl rfl ?_
  rintro r hh ⟨rfl, rfl⟩
  refine ⟨.inr rfl, ?_⟩
  conv => whnf
  refine CallsA.call [] [2] (Of_spec 2 1 [-3, 0] 2 1 [-3, 0] 2 1 0) rfl rfl rfl rfl rfl ?_
  rintro r hh ⟨rfl, rfl⟩
  refine ⟨.inr rfl, ?_⟩
  conv => whnf
  exact ⟨[], rfl, rfl, rfl⟩

theorem Same_true (xs : List Int) (d s : Int) (hl : xs.length < 2 ^ 62) : CallsA Try.prog 13 [st3 xs d s, st3 xs d s] [] (fun r hp => r = .bool true ∧ hp = []) :=
  (Same_spec xs d s xs d s hl).mono fun r hp h => ⟨h.1.trans (congrArg AV.bool (by simp [sameB])), h.2⟩

theorem NearSets_spec (p b : Bool) (s : Int) : CallsA Try.prog 4 [.bool p, .bool b, .int .i64 s] [] (fun r _ => r = .bool true) := by
  refine e4 ?_
  conv => whnf
  refine CallsA.call [] [] first_spec rfl rfl rfl rfl rfl ?_
  rintro r hh ⟨rfl, rfl⟩
  refine ⟨.inl rfl, ?_⟩
  conv => whnf
  refine CallsA.call [] [] (Set_spec _ _ _) rfl rfl rfl rfl rfl ?_
  rintro r hh ⟨rfl, rfl⟩
  refine ⟨.inl rfl, ?_⟩
  conv => whnf
  refine CallsA.call [] [] (Contexts_spec _ _ _) rfl rfl rfl rfl rfl ?_
  rintro r hh ⟨rfl, rfl⟩
  refine ⟨.inl rfl, ?_⟩
  cases p <;> cases b <;>
    (conv => whnf
     refine CallsA.call [] [0, 1] (Same_true _ _ _ (by decide)) rfl rfl rfl rfl rfl ?_
     rintro r hh ⟨rfl, rfl⟩
     refine ⟨.inr rfl, ?_⟩
     conv => whnf
     refine CallsA.call [] [] Shift_spec rfl rfl rfl rfl rfl ?_
     rintro r hh ⟨rfl, rfl⟩
     refine ⟨.inl rfl, ?_⟩
     conv => whnf
     refine CallsA.call [] [2, 3] (Same_true _ _ _ (by decide)) rfl rfl rfl rfl rfl ?_
     rintro r hh ⟨rfl, rfl⟩
     refine ⟨.inr rfl, ?_⟩
     conv => whnf
     exact ⟨[], rfl, rfl⟩)

end Go.Proofs.TryN
