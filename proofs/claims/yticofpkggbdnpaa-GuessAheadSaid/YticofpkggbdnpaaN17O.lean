/- Layer 17: splits, by the document. -/
import Derived.Test.YticofpkggbdnpaaN17N
namespace Go.Proofs.TryN
open Go Go.AL Go.Proofs

theorem sorted_eq : ∀ (l1 l2 : List Nat), l1.Pairwise (· < ·) → l2.Pairwise (· < ·) → (∀ x, x ∈ l1 ↔ x ∈ l2) → l1 = l2
  | [], [], _, _, _ => rfl
  | [], b :: l2, _, _, h => by have := (h b).2 (by simp); simp at this
  | a :: l1, [], _, _, h => by have := (h a).1 (by simp); simp at this
  | a :: l1, b :: l2, h1, h2, h => by
    rw [List.pairwise_cons] at h1 h2
    have hab : a = b := by
      rcases List.mem_cons.1 ((h a).1 (by simp)) with e | e
      · exact e
      · rcases List.mem_cons.1 ((h b).2 (by simp)) with e' | e'
        · exact e'.symm
        · have := h2.1 a e; have := h1.1 b e'; omega
    subst hab
    rw [sorted_eq l1 l2 h1.2 h2.2 fun x => ?_]
    constructor
    · intro hx
      rcases List.mem_cons.1 ((h x).1 (by simp [hx])) with e | e
      · have := h1.1 x hx; omega
      · exact e
    · intro hx
      rcases List.mem_cons.1 ((h x).2 (by simp [hx])) with e | e
      · have := h2.1 x hx; omega
      · exact e

/-- Which squares count. -/
def selK (A I k : Nat) : Bool := decide (k ≠ I) && ((I % A == k % A || I % A == k % A + 1) && (I / A == k / A || I / A == k / A + 1))

def nbrs (A I : Nat) : List Nat :=
  (if 1 ≤ I % A ∧ 1 ≤ I / A then [I - A - 1] else []) ++ ((if 1 ≤ I / A then [I - A] else []) ++ (if 1 ≤ I % A then [I - 1] else []))

theorem sel_iff {A I k : Nat} (hA : 1 ≤ A) : selK A I k = true ↔ (1 ≤ I % A ∧ 1 ≤ I / A ∧ k = I - A - 1) ∨ (1 ≤ I / A ∧ k = I - A) ∨ (1 ≤ I % A ∧ k = I - 1) := by
  have e1 := Nat.div_add_mod I A
  have e2 := Nat.div_add_mod k A
  have l1 := Nat.mod_lt I (show 0 < A by omega)
  have l2 := Nat.mod_lt k (show 0 < A by omega)
  simp only [selK, Bool.and_eq_true, Bool.or_eq_true, decide_eq_true_eq, beq_iff_eq]
  constructor
  · rintro ⟨hne, hx, hy⟩
    generalize k / A = ky at *
    generalize I / A = iy at *
    generalize k % A = kx at *
    generalize I % A = ix at *
    rcases hx with hx | hx <;> rcases hy with hy | hy
    · exact absurd (by rw [hx, hy, e2] at e1; exact e1) hne
    · have : A * iy = A * ky + A := by rw [hy, Nat.mul_add, Nat.mul_one]
      exact .inr (.inl ⟨by omega, by omega⟩)
    · rw [hx, hy, ← Nat.add_assoc, e2] at e1; exact .inr (.inr ⟨by omega, by omega⟩)
    · have : A * iy = A * ky + A := by rw [hy, Nat.mul_add, Nat.mul_one]
      exact .inl ⟨by omega, by omega, by omega⟩
  · have uniq : ∀ q r, k = A * q + r → r < A → k / A = q ∧ k % A = r := by
      intro q r h hr
      subst h
      exact ⟨by rw [Nat.mul_add_div (by omega), Nat.div_eq_of_lt hr]; omega, by rw [Nat.mul_add_mod, Nat.mod_eq_of_lt hr]⟩
    have up : 1 ≤ I / A → A * (I / A) = A * (I / A - 1) + A := fun h => by
      have : I / A = (I / A - 1) + 1 := by omega
      conv => lhs; rw [this, Nat.mul_add, Nat.mul_one]
    rintro (⟨h1, h2, h3⟩ | ⟨h2, h3⟩ | ⟨h1, h3⟩)
    · have := up h2
      obtain ⟨a, b⟩ := uniq (I / A - 1) (I % A - 1) (by omega) (by omega)
      exact ⟨by omega, .inr (by omega), .inr (by omega)⟩
    · have := up h2
      obtain ⟨a, b⟩ := uniq (I / A - 1) (I % A) (by omega) (by omega)
      exact ⟨by omega, .inl (by omega), .inr (by omega)⟩
    · obtain ⟨a, b⟩ := uniq (I / A) (I % A - 1) (by omega) (by omega)
      exact ⟨by omega, .inr (by omega), .inl (by omega)⟩

theorem nbrs_eq {A I n : Nat} (hA : 1 ≤ A) (hI : I < n) : (List.range n).filter (selK A I) = nbrs A I := by
  have e1 := Nat.div_add_mod I A
  have l1 := Nat.mod_lt I (show 0 < A by omega)
  have up : 1 ≤ I / A → A ≤ A * (I / A) := fun h => by have := Nat.mul_le_mul_left A h; omega
  refine sorted_eq _ _ ((List.pairwise_lt_range).filter _) ?_ fun x => ?_
  · unfold nbrs
    split <;> split <;> split <;> simp <;> omega
  · rw [List.mem_filter, List.mem_range, sel_iff hA, nbrs]
    simp only [List.mem_append]
    constructor
    · rintro ⟨_, ⟨h1, h2, h3⟩ | ⟨h2, h3⟩ | ⟨h1, h3⟩⟩
      · left; rw [if_pos ⟨h1, h2⟩]; simp [h3]
      · right; left; rw [if_pos h2]; simp [h3]
      · right; right; rw [if_pos h1]; simp [h3]
    · rintro (h | h | h)
      · split at h
        · rename_i hc; simp at h; exact ⟨by omega, .inl ⟨hc.1, hc.2, h⟩⟩
        · simp at h
      · split at h
        · rename_i hc; simp at h; exact ⟨by omega, .inr (.inl ⟨hc, h⟩)⟩
        · simp at h
      · split at h
        · rename_i hc; simp at h; exact ⟨by omega, .inr (.inr ⟨hc, h⟩)⟩
        · simp at h

/-- What is taken of the squares up to k. -/
def accK (f : Fld) (A I k : Nat) : List Int := ((List.range k).filter (selK A I)).map fun q : Nat => spAt f q
theorem accK_yes {f : Fld} {A I k : Nat} (h : selK A I k = true) : accK f A I (k + 1) = accK f A I k ++ [spAt f k] := by
  simp [accK, List.range_succ, List.filter_append, h]
theorem accK_no {f : Fld} {A I k : Nat} (h : selK A I k = false) : accK f A I (k + 1) = accK f A I k := by
  simp [accK, List.range_succ, List.filter_append, h]
theorem accK_len (f : Fld) (A I k : Nat) : (accK f A I k).length ≤ k := by
  have := List.length_filter_le (selK A I) (List.range k)
  simp at this
  simp [accK]; exact this

theorem mean_rev (f : Fld) {A I n : Nat} (ha : f.a = A) (hA : 1 ≤ A) (hI : I < n) : meanN (accK f A I n) = meanN (splL f I) := by
  have e1 := Nat.div_add_mod I A
  have up : 1 ≤ I / A → A ≤ A * (I / A) := fun h => by have := Nat.mul_le_mul_left A h; omega
  rw [accK, nbrs_eq hA hI, nbrs, splL, ha]
  have hx : (1 ≤ ((I : Nat) : Int) % (A : Int)) ↔ 1 ≤ I % A := by omega
  have hy : (1 ≤ ((I : Nat) : Int) / (A : Int)) ↔ 1 ≤ I / A := by omega
  simp only [hx, hy]
  by_cases cx : 1 ≤ I % A <;> by_cases cy : 1 ≤ I / A
  · have := up cy
    rw [show ((I : Nat) : Int) - 1 = ((I - 1 : Nat) : Int) by omega, show ((I : Nat) : Int) - A - 1 = ((I - A - 1 : Nat) : Int) by omega, show ((I : Nat) : Int) - A = ((I - A : Nat) : Int) by omega]
    simp only [cx, cy, and_self, if_true, List.map_cons, List.map_nil, List.cons_append, List.nil_append]
    simp only [meanN, List.sum_cons, List.sum_nil, List.length_cons, List.length_nil, reduceCtorEq, if_false]
    congr 1; omega
  · rw [show ((I : Nat) : Int) - 1 = ((I - 1 : Nat) : Int) by omega]
    simp [cx, cy]
  · have := up cy
    rw [show ((I : Nat) : Int) - A = ((I - A : Nat) : Int) by omega]
    simp [cx, cy]
  · simp [cx, cy]
end Go.Proofs.TryN

