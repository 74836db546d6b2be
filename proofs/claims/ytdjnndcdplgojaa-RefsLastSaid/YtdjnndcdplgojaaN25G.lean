/- Layer 25: the document's Put. -/
import Derived.Test.YtdjnndcdplgojaaN25F
namespace Go.Proofs.TryN
open Go Go.AL Go.Proofs

/-- A frame is put among the others. -/
def ins (n v : Int) : List (Int × Int) → List (Int × Int)
  | [] => [(n, v)]
  | x :: r => if n < x.1 then (n, v) :: x :: r else x :: ins n v r

theorem ins_len (n v : Int) : ∀ L, (ins n v L).length = L.length + 1
  | [] => rfl
  | x :: r => by
    rw [ins]; split
    · rfl
    · simp [ins_len n v r]

/-- What is yet to come. -/
def fin (n v : Int) (done : Bool) (L : List (Int × Int)) : List (Int × Int) := if done then L else ins n v L

theorem leB (n m : Int) : (decide (n < m) = true) ↔ n < m := by simp

theorem iread (n v : Int) : irow (n, v) = iv n :: frow v := rfl

set_option maxRecDepth 10000 in
set_option maxHeartbeats 1000000 in
theorem rput_new (n v : Int) (h0 : 0 ≤ n) (h1 : n ≤ 2147483647) (L : List (Int × Int)) (hL : L.length < 100) (h4 : L.length ≠ 4) (h : lk n L = none) : CallsF Try.prog 10 [.bp 0 0, iv n, .agg (frow v)] [some (.box [.ro 10 (L.map irow)])] (iv 0) [some (.box [.ro 10 ((ins n v L).map irow)])] := by
  have kg := rget_spec n L (by omega)
  rw [h] at kg
  have hat := rows_at L
  have hnil := isNil L
  have hle : (L.map irow).length < 100 := by simpa using hL
  have hll : (L.map irow).length = L.length := List.length_map ..
  refine e10 ?_
  conv => whnf
  refine ifB_of (fun h => absurd (of_decide_eq_true h) (by omega)) (fun _ => ?_)
  conv => whnf
  refine ifB_of (fun h => absurd (of_decide_eq_true h) (by omega)) (fun _ => ?_)
  conv => whnf
  refine CallsF.call [0] [] kg rfl rfl rfl rfl rfl (.inl rfl) ?_
  conv => whnf
  rw [show ((((L.map irow).length : Nat) : Int) == 4) = false by rw [hll]; simp; omega]
  conv => whnf
  first | refine pt_of [0, 1, 5, 6] [1] [] (by rfl) ?_ | refine ptw_of [0, 1, 5, 6] [1] [] (by rfl) ?_
  conv => whnf
  refine LoopA.inv (fun m st => ∃ (i : Nat) (A : List (Int × Int)) (z : Bool), m + i = (L.map irow).length ∧ A.length ≤ 2 * i ∧ A ++ fin n v z (L.drop i) = ins n v L ∧ ((A = [] ∧ z = false ∧ st = ⟨[(0, .bp 0 0), (1, iv n), (5, .bp 1 0), (6, iv 0), (9, .snil), (10, .bool false), (45, .ro 10 (L.map irow)), (46, iv ((L.map irow).length : Nat)), (47, iv i)], [some (.box [.ro 10 (L.map irow)]), some (.box (frow v))], 2, 1⟩) ∨ st = ⟨[(0, .bp 0 0), (1, iv n), (5, .bp 1 0), (6, iv 0), (9, .sl 2 0 A.length), (10, .bool z), (45, .ro 10 (L.map irow)), (46, iv ((L.map irow).length : Nat)), (47, iv i)], [some (.box [.ro 10 (L.map irow)]), some (.box (frow v)), some (.arr 10 (A.map irow))], 3, 1⟩)) (L.map irow).length [0, 1, 5, 6, 9, 10, 45, 46, 47] [1] [] (by rfl) ?_ ?_
  · conv => whnf
    exact ⟨0, [], false, rfl, by simp, rfl, .inl ⟨rfl, rfl, rfl⟩⟩
  rintro m st ⟨i, A, z, hm, hA, hk, ⟨rfl, rfl, rfl⟩ | rfl⟩
  · generalize L.map irow = rows at *
    generalize L.length = ll at *
    subst hll
    unfold frow
    conv => whnf
    refine ifB_of (fun h2 => ?_) (fun h2 => ?_)
    · have h2 : i < rows.length := by have := of_decide_eq_true h2; omega
      obtain ⟨x, hx, hd⟩ := hat i h2
      rw [hd] at hk
      conv => whnf
      rw [aop_idxS_ro hx rfl rfl]
      conv => whnf
      refine need_of ((decide_eq_true (Int.natCast_nonneg i))) ?_
      conv => whnf
      rw [fin, if_neg (by decide), ins] at hk
      refine ifB_of (fun h3 => ?_) (fun h3 => ?_)
      · rw [if_pos (of_decide_eq_true h3)] at hk
        conv => whnf
        rw [inc_nat i (by omega)]
        refine ⟨(rows.length - (i + 1)), [0, 1, 5, 6, 9, 10, 45, 46, 47], [1, 6], [], by omega, rfl, ?_⟩
        conv => whnf
        exact ⟨i + 1, [(n, v), x], true, by omega, by simp only [List.length_cons, List.length_nil]; omega, by simpa [fin] using hk, .inr rfl⟩
      rw [if_neg (of_decide_eq_false h3)] at hk
      conv => whnf
      rw [inc_nat i (by omega)]
      refine ⟨(rows.length - (i + 1)), [0, 1, 5, 6, 9, 10, 45, 46, 47], [1, 4], [], by omega, rfl, ?_⟩
      conv => whnf
      exact ⟨i + 1, [x], false, by omega, by simp only [List.length_cons, List.length_nil]; omega, by simpa [fin] using hk, .inr rfl⟩
    have h2 : rows.length ≤ i := by have := of_decide_eq_false h2; omega
    rw [hnil i h2] at hk
    rw [← hk]
    conv => whnf
    exact ⟨[], [3], rfl, rfl, rfl⟩
  · generalize L.map irow = rows at *
    generalize L.length = ll at *
    subst hll
    unfold frow
    conv => whnf
    refine ifB_of (fun h2 => ?_) (fun h2 => ?_)
    · have h2 : i < rows.length := by have := of_decide_eq_true h2; omega
      obtain ⟨x, hx, hd⟩ := hat i h2
      rw [hd] at hk
      conv => whnf
      rw [aop_idxS_ro hx rfl rfl]
      conv => whnf
      refine need_of ((decide_eq_true (Int.natCast_nonneg i))) ?_
      conv => whnf
      cases z
      rotate_left
      · rw [fin, if_pos rfl] at hk
        conv => whnf
        refine need_of ((by rw [Bool.and_eq_true]; exact ⟨decide_eq_true ⟨by simp, (show (128 + 1) * (A.length + 1) ≤ 2 ^ 46 by omega)⟩, rfl⟩)) ?_
        conv => whnf
        rw [inc_nat i (by omega)]
        refine ⟨(rows.length - (i + 1)), [0, 1, 5, 6, 9, 10, 45, 46, 47], [1, 5], [], by omega, rfl, ?_⟩
        conv => whnf
        exact ⟨i + 1, A ++ [x], true, by omega, by simp; omega, by simpa [fin] using hk, .inr (by rw [← map1, List.length_append]; rfl)⟩
      conv => whnf
      rw [fin, if_neg (by decide), ins] at hk
      refine ifB_of (fun h3 => ?_) (fun h3 => ?_)
      · rw [if_pos (of_decide_eq_true h3)] at hk
        conv => whnf
        refine need_of ((by rw [Bool.and_eq_true]; exact ⟨decide_eq_true ⟨by simp, (show (128 + 1) * (A.length + 1) ≤ 2 ^ 46 by omega)⟩, rfl⟩)) ?_
        conv => whnf
        refine need_of ((by rw [Bool.and_eq_true]; exact ⟨decide_eq_true ⟨by simp, (show (128 + 1) * (A.length + 1 + 1) ≤ 2 ^ 46 by omega)⟩, rfl⟩)) ?_
        conv => whnf
        rw [inc_nat i (by omega)]
        refine ⟨(rows.length - (i + 1)), [0, 1, 5, 6, 9, 10, 45, 46, 47], [1, 7], [], by omega, rfl, ?_⟩
        conv => whnf
        exact ⟨i + 1, A ++ [(n, v)] ++ [x], true, by omega, by simp; omega, by simpa [fin] using hk, .inr (by rw [← map1, ← map1, List.length_append, List.length_append]; rfl)⟩
      rw [if_neg (of_decide_eq_false h3)] at hk
      conv => whnf
      refine need_of ((by rw [Bool.and_eq_true]; exact ⟨decide_eq_true ⟨by simp, (show (128 + 1) * (A.length + 1) ≤ 2 ^ 46 by omega)⟩, rfl⟩)) ?_
      conv => whnf
      rw [inc_nat i (by omega)]
      refine ⟨(rows.length - (i + 1)), [0, 1, 5, 6, 9, 10, 45, 46, 47], [1, 5], [], by omega, rfl, ?_⟩
      conv => whnf
      exact ⟨i + 1, A ++ [x], false, by omega, by simp; omega, by simpa [fin] using hk, .inr (by rw [← map1, List.length_append]; rfl)⟩
    have h2 : rows.length ≤ i := by have := of_decide_eq_false h2; omega
    rw [hnil i h2] at hk
    rw [← hk]
    cases z
    · conv => whnf
      refine need_of ((by rw [Bool.and_eq_true]; exact ⟨decide_eq_true ⟨by simp, (show (128 + 1) * (A.length + 1) ≤ 2 ^ 46 by omega)⟩, rfl⟩)) ?_
      conv => whnf
      exact ⟨[], [4], rfl, rfl, by rw [fin, if_neg (by decide), ins, ← map1]; show [some (ABlk.box [AV.ro 10 ((((A.map irow) ++ [irow (n, v)]).drop 0).take (A.length + 1))])] = _; rw [map1, show A.length + 1 = (A ++ [(n, v)]).length by simp, takeAll]⟩
    · conv => whnf
      exact ⟨[], [2], rfl, rfl, by rw [fin, if_pos rfl, List.append_nil]; show [some (ABlk.box [AV.ro 10 (((A.map irow).drop 0).take A.length)])] = _; rw [takeAll]⟩

set_option maxRecDepth 10000 in
set_option maxHeartbeats 1000000 in
theorem rput_full (n v : Int) (h0 : 0 ≤ n) (h1 : n ≤ 2147483647) (a b c e : Int × Int) (h : lk n [a, b, c, e] = none) : CallsF Try.prog 10 [.bp 0 0, iv n, .agg (frow v)] [some (.box [.ro 10 ([a, b, c, e].map irow)])] (iv 0) [some (.box [.ro 10 ((ins n v [b, c, e]).map irow)])] := by
  have kg := rget_spec n [a, b, c, e] (by simp)
  rw [h] at kg
  have hat := rows_at [b, c, e]
  have hnil := isNil [b, c, e]
  have hle : ([b, c, e].map irow).length < 100 := by simp
  have hll : ([b, c, e].map irow).length = [b, c, e].length := List.length_map ..
  refine e10 ?_
  conv => whnf
  refine ifB_of (fun h => absurd (of_decide_eq_true h) (by omega)) (fun _ => ?_)
  conv => whnf
  refine ifB_of (fun h => absurd (of_decide_eq_true h) (by omega)) (fun _ => ?_)
  conv => whnf
  refine CallsF.call [0] [] kg rfl rfl rfl rfl rfl (.inl rfl) ?_
  conv => whnf
  first | refine pt_of [0, 1, 5, 6] [1] [3] (by rfl) ?_ | refine ptw_of [0, 1, 5, 6] [1] [3] (by rfl) ?_
  conv => whnf
  refine LoopA.inv (fun m st => ∃ (i : Nat) (A : List (Int × Int)) (z : Bool), m + i = ([b, c, e].map irow).length ∧ A.length ≤ 2 * i ∧ A ++ fin n v z ([b, c, e].drop i) = ins n v [b, c, e] ∧ ((A = [] ∧ z = false ∧ st = ⟨[(0, .bp 0 0), (1, iv n), (5, .bp 1 0), (6, iv 0), (9, .snil), (10, .bool false), (45, .ro 10 ([b, c, e].map irow)), (46, iv (([b, c, e].map irow).length : Nat)), (47, iv i)], [some (.box [.ro 10 ([b, c, e].map irow)]), some (.box (frow v))], 2, 1⟩) ∨ st = ⟨[(0, .bp 0 0), (1, iv n), (5, .bp 1 0), (6, iv 0), (9, .sl 2 0 A.length), (10, .bool z), (45, .ro 10 ([b, c, e].map irow)), (46, iv (([b, c, e].map irow).length : Nat)), (47, iv i)], [some (.box [.ro 10 ([b, c, e].map irow)]), some (.box (frow v)), some (.arr 10 (A.map irow))], 3, 1⟩)) ([b, c, e].map irow).length [0, 1, 5, 6, 9, 10, 45, 46, 47] [1] [] (by rfl) ?_ ?_
  · conv => whnf
    exact ⟨0, [], false, rfl, by simp, rfl, .inl ⟨rfl, rfl, rfl⟩⟩
  rintro m st ⟨i, A, z, hm, hA, hk, ⟨rfl, rfl, rfl⟩ | rfl⟩
  · generalize [b, c, e].map irow = rows at *
    generalize [b, c, e].length = ll at *
    subst hll
    unfold frow
    conv => whnf
    refine ifB_of (fun h2 => ?_) (fun h2 => ?_)
    · have h2 : i < rows.length := by have := of_decide_eq_true h2; omega
      obtain ⟨x, hx, hd⟩ := hat i h2
      rw [hd] at hk
      conv => whnf
      rw [aop_idxS_ro hx rfl rfl]
      conv => whnf
      refine need_of ((decide_eq_true (Int.natCast_nonneg i))) ?_
      conv => whnf
      rw [fin, if_neg (by decide), ins] at hk
      refine ifB_of (fun h3 => ?_) (fun h3 => ?_)
      · rw [if_pos (of_decide_eq_true h3)] at hk
        conv => whnf
        rw [inc_nat i (by omega)]
        refine ⟨(rows.length - (i + 1)), [0, 1, 5, 6, 9, 10, 45, 46, 47], [1, 6], [], by omega, rfl, ?_⟩
        conv => whnf
        exact ⟨i + 1, [(n, v), x], true, by omega, by simp only [List.length_cons, List.length_nil]; omega, by simpa [fin] using hk, .inr rfl⟩
      rw [if_neg (of_decide_eq_false h3)] at hk
      conv => whnf
      rw [inc_nat i (by omega)]
      refine ⟨(rows.length - (i + 1)), [0, 1, 5, 6, 9, 10, 45, 46, 47], [1, 4], [], by omega, rfl, ?_⟩
      conv => whnf
      exact ⟨i + 1, [x], false, by omega, by simp only [List.length_cons, List.length_nil]; omega, by simpa [fin] using hk, .inr rfl⟩
    have h2 : rows.length ≤ i := by have := of_decide_eq_false h2; omega
    rw [hnil i h2] at hk
    rw [← hk]
    conv => whnf
    exact ⟨[], [3], rfl, rfl, rfl⟩
  · generalize [b, c, e].map irow = rows at *
    generalize [b, c, e].length = ll at *
    subst hll
    unfold frow
    conv => whnf
    refine ifB_of (fun h2 => ?_) (fun h2 => ?_)
    · have h2 : i < rows.length := by have := of_decide_eq_true h2; omega
      obtain ⟨x, hx, hd⟩ := hat i h2
      rw [hd] at hk
      conv => whnf
      rw [aop_idxS_ro hx rfl rfl]
      conv => whnf
      refine need_of ((decide_eq_true (Int.natCast_nonneg i))) ?_
      conv => whnf
      cases z
      rotate_left
      · rw [fin, if_pos rfl] at hk
        conv => whnf
        refine need_of ((by rw [Bool.and_eq_true]; exact ⟨decide_eq_true ⟨by simp, (show (128 + 1) * (A.length + 1) ≤ 2 ^ 46 by omega)⟩, rfl⟩)) ?_
        conv => whnf
        rw [inc_nat i (by omega)]
        refine ⟨(rows.length - (i + 1)), [0, 1, 5, 6, 9, 10, 45, 46, 47], [1, 5], [], by omega, rfl, ?_⟩
        conv => whnf
        exact ⟨i + 1, A ++ [x], true, by omega, by simp; omega, by simpa [fin] using hk, .inr (by rw [← map1, List.length_append]; rfl)⟩
      conv => whnf
      rw [fin, if_neg (by decide), ins] at hk
      refine ifB_of (fun h3 => ?_) (fun h3 => ?_)
      · rw [if_pos (of_decide_eq_true h3)] at hk
        conv => whnf
        refine need_of ((by rw [Bool.and_eq_true]; exact ⟨decide_eq_true ⟨by simp, (show (128 + 1) * (A.length + 1) ≤ 2 ^ 46 by omega)⟩, rfl⟩)) ?_
        conv => whnf
        refine need_of ((by rw [Bool.and_eq_true]; exact ⟨decide_eq_true ⟨by simp, (show (128 + 1) * (A.length + 1 + 1) ≤ 2 ^ 46 by omega)⟩, rfl⟩)) ?_
        conv => whnf
        rw [inc_nat i (by omega)]
        refine ⟨(rows.length - (i + 1)), [0, 1, 5, 6, 9, 10, 45, 46, 47], [1, 7], [], by omega, rfl, ?_⟩
        conv => whnf
        exact ⟨i + 1, A ++ [(n, v)] ++ [x], true, by omega, by simp; omega, by simpa [fin] using hk, .inr (by rw [← map1, ← map1, List.length_append, List.length_append]; rfl)⟩
      rw [if_neg (of_decide_eq_false h3)] at hk
      conv => whnf
      refine need_of ((by rw [Bool.and_eq_true]; exact ⟨decide_eq_true ⟨by simp, (show (128 + 1) * (A.length + 1) ≤ 2 ^ 46 by omega)⟩, rfl⟩)) ?_
      conv => whnf
      rw [inc_nat i (by omega)]
      refine ⟨(rows.length - (i + 1)), [0, 1, 5, 6, 9, 10, 45, 46, 47], [1, 5], [], by omega, rfl, ?_⟩
      conv => whnf
      exact ⟨i + 1, A ++ [x], false, by omega, by simp; omega, by simpa [fin] using hk, .inr (by rw [← map1, List.length_append]; rfl)⟩
    have h2 : rows.length ≤ i := by have := of_decide_eq_false h2; omega
    rw [hnil i h2] at hk
    rw [← hk]
    cases z
    · conv => whnf
      refine need_of ((by rw [Bool.and_eq_true]; exact ⟨decide_eq_true ⟨by simp, (show (128 + 1) * (A.length + 1) ≤ 2 ^ 46 by omega)⟩, rfl⟩)) ?_
      conv => whnf
      exact ⟨[], [4], rfl, rfl, by rw [fin, if_neg (by decide), ins, ← map1]; show [some (ABlk.box [AV.ro 10 ((((A.map irow) ++ [irow (n, v)]).drop 0).take (A.length + 1))])] = _; rw [map1, show A.length + 1 = (A ++ [(n, v)]).length by simp, takeAll]⟩
    · conv => whnf
      exact ⟨[], [2], rfl, rfl, by rw [fin, if_pos rfl, List.append_nil]; show [some (ABlk.box [AV.ro 10 (((A.map irow).drop 0).take A.length)])] = _; rw [takeAll]⟩

theorem rput_low (n v : Int) (hn : n < 0) (L : List (Int × Int)) : CallsF Try.prog 10 [.bp 0 0, iv n, .agg (frow v)] [some (.box [.ro 10 (L.map irow)])] (iv 2) [some (.box [.ro 10 (L.map irow)])] := by
  refine e10 ?_
  conv => whnf
  refine ifB_of (fun _ => ?_) (fun h => ((of_decide_eq_false h) (by omega)).elim)
  conv => whnf
  exact ⟨[], [], rfl, rfl, rfl⟩

theorem rput_high (n v : Int) (hn : 2147483647 < n) (L : List (Int × Int)) : CallsF Try.prog 10 [.bp 0 0, iv n, .agg (frow v)] [some (.box [.ro 10 (L.map irow)])] (iv 2) [some (.box [.ro 10 (L.map irow)])] := by
  refine e10 ?_
  conv => whnf
  refine ifB_of (fun h => absurd (of_decide_eq_true h) (by omega)) (fun _ => ?_)
  conv => whnf
  refine ifB_of (fun _ => ?_) (fun h => ((of_decide_eq_false h) (by omega)).elim)
  conv => whnf
  exact ⟨[], [], rfl, rfl, rfl⟩

theorem rput_twice (n v u : Int) (h0 : 0 ≤ n) (h1 : n ≤ 2147483647) (L : List (Int × Int)) (hL : L.length < 1000) (h : lk n L = some u) : CallsF Try.prog 10 [.bp 0 0, iv n, .agg (frow v)] [some (.box [.ro 10 (L.map irow)])] (iv 251) [some (.box [.ro 10 (L.map irow)])] := by
  have kg := rget_spec n L hL
  rw [h] at kg
  refine e10 ?_
  conv => whnf
  refine ifB_of (fun h => absurd (of_decide_eq_true h) (by omega)) (fun _ => ?_)
  conv => whnf
  refine ifB_of (fun h => absurd (of_decide_eq_true h) (by omega)) (fun _ => ?_)
  conv => whnf
  refine CallsF.call [0] [] kg rfl rfl rfl rfl rfl (.inl rfl) ?_
  conv => whnf
  exact ⟨[], [], rfl, rfl, rfl⟩

end Go.Proofs.TryN

