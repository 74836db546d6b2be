/- Layer 40: planes, how far two numbers are, gauges of planes: what each function answers, as contracts. -/
import Derived.Test.YtipafgbcdmgmbaaDoorN40P
import Derived.Test.YtipafgbcdmgmbaaDoorF40
namespace Go.Proofs.TrydN
open Go Go.AL Go.Proofs

def sideB (n : Int) : Bool := decide (1 ≤ n) && decide (n ≤ 1024)

theorem side_spec (n : Int) : CallsF Tryd.prog 38 [.int .i64 n] [] (.bool (sideB n)) [] := by
  refine e38 ?_
  conv => whnf
  iterate 1 (all_goals (try (refine ifB_of (fun _ => ?_) (fun _ => ?_))); all_goals (conv => whnf))
  all_goals (refine ⟨[], [], rfl, congrArg AV.bool ?_, rfl⟩; simp_all [sideB] <;> omega)

def right (w h : Int) (v : List Int) : Bool := (sideB w && sideB h) && ((v.length : Int) == IntKind.wrap .i64 (w * h))

theorem right_in {w h : Int} {v : List Int} (hr : right w h v = true) : (1 ≤ w ∧ w ≤ 1024) ∧ (1 ≤ h ∧ h ≤ 1024) ∧ 0 ≤ w * h ∧ (v.length : Int) = w * h := by
  simp only [right, sideB, Bool.and_eq_true, decide_eq_true_eq, beq_iff_eq] at hr
  obtain ⟨⟨hw, hh⟩, hl⟩ := hr
  have b2 : 0 ≤ w * h := Int.mul_nonneg (by omega) (by omega)
  have b3 : w * h ≤ 1024 * 1024 := Int.mul_le_mul (by omega) (by omega) (by omega) (by omega)
  rw [wrap_id (by omega) (by omega)] at hl
  exact ⟨hw, hh, b2, hl⟩

theorem right_spec (w h : Int) (v : List Int) : CallsF Tryd.prog 30 [pl w h v] [] (.bool (right w h v)) [] := by
  refine e30 ?_
  conv => whnf
  refine CallsF.call [] [] (side_spec w) rfl rfl rfl rfl rfl (.inl rfl) ?_
  conv => whnf
  refine ifB_of (fun h1 => ?_) (fun h1 => ?_)
  · conv => whnf
    refine CallsF.call [] [] (side_spec h) rfl rfl rfl rfl rfl (.inl rfl) ?_
    conv => whnf
    iterate 1 (all_goals (try (refine ifB_of (fun _ => ?_) (fun _ => ?_))); all_goals (conv => whnf))
    all_goals (refine ⟨[], [], rfl, congrArg AV.bool ?_, rfl⟩; simp_all [right])
  · conv => whnf
    refine ⟨[], [], rfl, congrArg AV.bool ?_, rfl⟩
    simp only [right, h1, Bool.false_and]

theorem right7_spec (w h : Int) (v : List Int) : CallsF Tryd.prog 17 [pl w h v] [] (.bool (right w h v)) [] := by
  refine e17 ?_
  conv => whnf
  iterate 4 (all_goals (try (refine ifB_of (fun _ => ?_) (fun _ => ?_))); all_goals (conv => whnf))
  all_goals (refine ⟨[], [], rfl, congrArg AV.bool ?_, rfl⟩; simp_all [right, sideB] <;> omega)


theorem wrap_d {d : Int} (h0 : 0 ≤ d) (h2 : d < 18446744073709551616) : (d ≤ 9223372036854775807 ∧ IntKind.wrap .i64 d = d) ∨ (9223372036854775807 < d ∧ IntKind.wrap .i64 d < 0) := by
  by_cases h : d ≤ 9223372036854775807
  · exact .inl ⟨h, wrap_id (by omega) h⟩
  · exact .inr ⟨by omega, wrap_big (by omega) h2⟩

theorem apart_spec (a b : Int) (ha : okI a) (hb : okI b) : CallsF Tryd.prog 31 [iv a, iv b] [] (iv (far a b)) [] := by
  unfold okI at ha hb
  rcases Int.lt_or_le a b with hab | hab
  · have W := wrap_d (d := b - a) (by omega) (by omega)
    refine e31 ?_
    conv => whnf
    iterate 3 (all_goals (try (refine ifB_of (fun _ => ?_) (fun _ => ?_))); all_goals (conv => whnf))
    all_goals (refine ⟨[], [], rfl, congrArg iv ?_, rfl⟩)
    all_goals (simp only [decide_eq_true_eq, decide_eq_false_iff_not] at *; unfold far; (repeat' split) <;> omega)
  · have W := wrap_d (d := a - b) (by omega) (by omega)
    refine e31 ?_
    conv => whnf
    iterate 3 (all_goals (try (refine ifB_of (fun _ => ?_) (fun _ => ?_))); all_goals (conv => whnf))
    all_goals (refine ⟨[], [], rfl, congrArg iv ?_, rfl⟩)
    all_goals (simp only [decide_eq_true_eq, decide_eq_false_iff_not] at *; unfold far; (repeat' split) <;> omega)

theorem rfar1_spec (a b : Int) (ha : okI a) (hb : okI b) (hab : a ≤ b) : CallsF Tryd.prog 33 [iv a, iv b] [] (iv (far a b)) [] := by
  unfold okI at ha hb
  have W := wrap_d (d := b - a) (by omega) (by omega)
  refine e33 ?_
  conv => whnf
  refine ifB_of (fun h => absurd h (by simp; omega)) (fun _ => ?_)
  conv => whnf
  iterate 6 (all_goals (try (refine ifB_of (fun _ => ?_) (fun _ => ?_))); all_goals (conv => whnf))
  all_goals (refine ⟨[], [], rfl, congrArg iv ?_, rfl⟩)
  all_goals (simp only [decide_eq_true_eq, decide_eq_false_iff_not] at *; unfold far; (repeat' split) <;> omega)

theorem rfar_spec (a b : Int) (ha : okI a) (hb : okI b) : CallsF Tryd.prog 33 [iv a, iv b] [] (iv (far a b)) [] := by
  by_cases hab : a ≤ b
  · exact rfar1_spec a b ha hb hab
  · refine e33 ?_
    conv => whnf
    refine ifB_of (fun _ => ?_) (fun h => absurd h (by simp; omega))
    conv => whnf
    refine CallsF.call [] [] (rfar1_spec b a hb ha (by omega)) rfl rfl rfl rfl rfl (.inl rfl) ?_
    conv => whnf
    exact ⟨[], [], rfl, congrArg iv (far_comm b a), rfl⟩

theorem join_spec (a b : G) : CallsF Tryd.prog 23 [a.av, b.av] [] (G.join a b).av [] := by
  obtain ⟨a0, a1, a2, a3, a4⟩ := a
  obtain ⟨b0, b1, b2, b3, b4⟩ := b
  have hm : max a2 b2 = if b2 > a2 then b2 else a2 := by split <;> omega
  refine e23 ?_
  conv => whnf
  exact ⟨[], [], rfl, by simp only [G.join, G.av, hm]; rfl, rfl⟩

theorem both_spec (a b : G) : CallsF Tryd.prog 21 [a.av, b.av] [] (G.join a b).av [] := by
  obtain ⟨a0, a1, a2, a3, a4⟩ := a
  obtain ⟨b0, b1, b2, b3, b4⟩ := b
  refine e21 ?_
  conv => whnf
  refine ifB_of (fun h => ?_) (fun h => ?_)
  · have hm : max a2 b2 = b2 := by have h : b2 > a2 := of_decide_eq_true h; omega
    conv => whnf
    exact ⟨[], [], rfl, by simp only [G.join, G.av, hm]; rfl, rfl⟩
  · have hm : max a2 b2 = a2 := by have h : ¬b2 > a2 := of_decide_eq_false h; omega
    conv => whnf
    exact ⟨[], [], rfl, by simp only [G.join, G.av, hm]; rfl, rfl⟩

def like (w h : Int) (v : List Int) (w2 h2 : Int) (v2 : List Int) : Bool := right w h v && right w2 h2 v2 && (w == w2) && (h == h2)
def gPl (w h : Int) (v : List Int) (w2 h2 : Int) (v2 : List Int) : G := if like w h v w2 h2 v2 = true then gRow v v2 v.length else G.zero

end Go.Proofs.TrydN

