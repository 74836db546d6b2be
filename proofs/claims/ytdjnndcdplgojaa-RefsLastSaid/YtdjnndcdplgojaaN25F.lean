/- Layer 25: the document's Retire. -/
import Derived.Test.YtdjnndcdplgojaaN25E
namespace Go.Proofs.TryN
open Go Go.AL Go.Proofs

theorem toRo {P : Program} {f : FuncId} {args : List AV} {h : AHeap} {v : AV} {A : List (Int × Int)} (hc : CallsA P f args h fun r h' => r = v ∧ (h' = [some (.box [.ro 10 (A.map irow)])] ∨ A = [] ∧ h' = [some (.box [.snil])])) :
    CallsF P f args h v [some (.box [.ro 10 (A.map irow)])] := by
  refine fun E cs H hT hlen ha => (hc E cs H hT hlen ha).mono ?_
  rintro e w' ⟨v, r, h', E', g1, ⟨rfl, g2⟩, g3, g4, g5, g6⟩
  refine ⟨v, _, _, E', g1, ⟨rfl, rfl⟩, g3, g4, ?_, g6⟩
  rcases g2 with rfl | ⟨rfl, rfl⟩
  · exact g5
  · refine g5.le rfl fun k x y hx hy => ?_
    match k, hx, hy with
    | 0, hx, hy =>
      cases hx; cases hy
      refine ⟨rfl, fun i x y hx hy => ?_⟩
      match i, hx, hy with
      | 0, hx, hy => cases hx; cases hy; exact AV.le.snil_o 10
      | i + 1, hx, hy => cases hx
    | k + 1, hx, hy => cases hx

/-- All but one. -/
def bar (n : Int) (L : List (Int × Int)) : List (Int × Int) := L.filter fun x => x.1 != n

theorem bar_len (n : Int) : ∀ L : List (Int × Int), (bar n L).length ≤ L.length ∧ decide ((bar n L).length < L.length) = (lk n L).isSome
  | [] => ⟨Nat.le_refl _, rfl⟩
  | x :: r => by
    obtain ⟨h1, h2⟩ := bar_len n r
    rw [bar] at *
    by_cases h : x.1 = n
    · rw [List.filter_cons_of_neg (by simp [h]), lk, if_pos h]
      refine ⟨by simp only [List.length_cons]; omega, ?_⟩
      simp only [List.length_cons, Option.isSome_some, decide_eq_true_eq]; omega
    · rw [List.filter_cons_of_pos (by simp [h]), lk, if_neg h, ← h2]
      exact ⟨by simp only [List.length_cons]; omega, by simp⟩

theorem bar_pos {n : Int} {x : Int × Int} {r : List (Int × Int)} (h : x.1 ≠ n) : bar n (x :: r) = x :: bar n r := List.filter_cons_of_pos (by simpa using h)
theorem bar_neg {n : Int} {x : Int × Int} {r : List (Int × Int)} (h : x.1 = n) : bar n (x :: r) = bar n r := List.filter_cons_of_neg (by simp [h])

theorem map1 (A : List (Int × Int)) (x : Int × Int) : A.map irow ++ [irow x] = (A ++ [x]).map irow := by simp

theorem takeAll (A : List (Int × Int)) : ((A.map irow).drop 0).take A.length = A.map irow := by
  rw [List.drop_zero, List.take_of_length_le (by simp)]

set_option maxRecDepth 10000 in
theorem rretire_spec (n : Int) (L : List (Int × Int)) (hL : L.length < 1000) : CallsF Try.prog 15 [.bp 0 0, iv n] [some (.box [.ro 10 (L.map irow)])] (.bool (lk n L).isSome) [some (.box [.ro 10 ((bar n L).map irow)])] := by
  refine toRo ?_
  obtain ⟨hb1, hb2⟩ := bar_len n L
  have hat := rows_at L
  have hnil := isNil L
  have hlen : (L.map irow).length = L.length := List.length_map ..
  generalize L.map irow = rows at *
  generalize L.length = ll at *
  subst hlen
  refine e15 ?_
  conv => whnf
  refine LoopA.inv (fun m st => ∃ (i : Nat) (A : List (Int × Int)), m + i = rows.length ∧ A.length ≤ i ∧ A ++ bar n (L.drop i) = bar n L ∧ ((A = [] ∧ st = ⟨[(0, .bp 0 0), (1, iv n), (4, .bool false), (5, .snil), (12, .ro 10 rows), (13, iv (rows.length : Nat)), (14, iv i)], [some (.box [.ro 10 rows])], 1, 1⟩) ∨ st = ⟨[(0, .bp 0 0), (1, iv n), (4, .bool false), (5, .sl 1 0 A.length), (12, .ro 10 rows), (13, iv (rows.length : Nat)), (14, iv i)], [some (.box [.ro 10 rows]), some (.arr 10 (A.map irow))], 2, 1⟩)) rows.length [0, 1, 4, 5, 12, 13, 14] [] [] (by rfl) ?_ ?_
  · conv => whnf
    exact ⟨0, [], rfl, by simp, rfl, .inl ⟨rfl, rfl⟩⟩
  rintro m st ⟨i, A, hm, hA, hk, ⟨rfl, rfl⟩ | rfl⟩
  · conv => whnf
    refine ifB_of (fun h1 => ?_) (fun h1 => ?_)
    · have h1 : i < rows.length := by have := of_decide_eq_true h1; omega
      obtain ⟨x, hx, hd⟩ := hat i h1
      rw [hd] at hk
      conv => whnf
      rw [aop_idxS_ro hx rfl rfl]
      conv => whnf
      refine need_of ((decide_eq_true (Int.natCast_nonneg i))) ?_
      conv => whnf
      refine ifB_of (fun h2 => ?_) (fun h2 => ?_)
      · have h2 : x.1 ≠ n := by simpa using h2
        rw [bar_pos h2] at hk
        conv => whnf
        rw [inc_nat i (by omega)]
        refine ⟨(rows.length - (i + 1)), [0, 1, 4, 5, 12, 13, 14], [3], [], by omega, rfl, ?_⟩
        conv => whnf
        exact ⟨i + 1, [x], by omega, by simp, by simpa using hk, .inr rfl⟩
      have h2 : x.1 = n := by simpa using h2
      rw [bar_neg h2] at hk
      conv => whnf
      rw [inc_nat i (by omega)]
      refine ⟨(rows.length - (i + 1)), [0, 1, 4, 5, 12, 13, 14], [], [], by omega, rfl, ?_⟩
      conv => whnf
      exact ⟨i + 1, [], by omega, by simp, hk, .inl ⟨rfl, rfl⟩⟩
    have h1 : rows.length ≤ i := by have := of_decide_eq_false h1; omega
    rw [hnil i h1] at hk
    have hk : bar n L = [] := hk.symm
    rw [hk] at hb2 ⊢
    rw [← hb2]
    conv => whnf
    exact ⟨[], [], rfl, congrArg AV.bool (by simp), .inr ⟨rfl, rfl⟩⟩
  · conv => whnf
    refine ifB_of (fun h1 => ?_) (fun h1 => ?_)
    · have h1 : i < rows.length := by have := of_decide_eq_true h1; omega
      obtain ⟨x, hx, hd⟩ := hat i h1
      rw [hd] at hk
      conv => whnf
      rw [aop_idxS_ro hx rfl rfl]
      conv => whnf
      refine need_of ((decide_eq_true (Int.natCast_nonneg i))) ?_
      conv => whnf
      refine ifB_of (fun h2 => ?_) (fun h2 => ?_)
      · have h2 : x.1 ≠ n := by simpa using h2
        rw [bar_pos h2] at hk
        conv => whnf
        refine need_of ((by rw [Bool.and_eq_true]; exact ⟨decide_eq_true ⟨by simp, (show (128 + 1) * (A.length + 1) ≤ 2 ^ 46 by omega)⟩, rfl⟩)) ?_
        conv => whnf
        rw [inc_nat i (by omega)]
        refine ⟨(rows.length - (i + 1)), [0, 1, 4, 5, 12, 13, 14], [4], [], by omega, rfl, ?_⟩
        conv => whnf
        exact ⟨i + 1, A ++ [x], by omega, by simp; omega, by simpa using hk, .inr (by rw [← map1, List.length_append]; rfl)⟩
      have h2 : x.1 = n := by simpa using h2
      rw [bar_neg h2] at hk
      conv => whnf
      rw [inc_nat i (by omega)]
      refine ⟨(rows.length - (i + 1)), [0, 1, 4, 5, 12, 13, 14], [1], [], by omega, rfl, ?_⟩
      conv => whnf
      exact ⟨i + 1, A, by omega, by omega, hk, .inr rfl⟩
    have h1 : rows.length ≤ i := by have := of_decide_eq_false h1; omega
    rw [hnil i h1] at hk
    have hk : bar n L = A := by rw [← hk]; simp [bar]
    rw [hk] at hb2 ⊢
    rw [← hb2]
    conv => whnf
    exact ⟨[], [1], rfl, congrArg AV.bool (by simp), .inl (by show [some (ABlk.box [AV.ro 10 (((A.map irow).drop 0).take A.length)])] = _; rw [takeAll])⟩

end Go.Proofs.TryN

