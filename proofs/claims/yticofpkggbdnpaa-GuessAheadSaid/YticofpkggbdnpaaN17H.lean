/- Layer 17: means. -/
import Derived.Test.YticofpkggbdnpaaN17G
namespace Go.Proofs.TryN
open Go Go.AL Go.Proofs

theorem low_div {n b : Int} (hb : 1 ≤ b) : n / b = if n.tmod b < 0 then n.tdiv b - 1 else n.tdiv b := by
  by_cases h : 0 ≤ n
  · rw [Int.tdiv_eq_ediv_of_nonneg h, Int.tmod_eq_emod_of_nonneg h, if_neg]
    have := Int.emod_nonneg n (show b ≠ 0 by omega); omega
  · have e1 := Int.tdiv_eq_ediv (a := n) (b := b)
    have e2 := Int.tmod_eq_emod (a := n) (b := b)
    have hm := Int.emod_nonneg n (show b ≠ 0 by omega)
    have hl := Int.emod_lt_of_pos n (show 0 < b by omega)
    by_cases hd : b ∣ n
    · rw [if_pos (.inr hd)] at e1 e2
      have : n % b = 0 := Int.emod_eq_zero_of_dvd hd
      rw [e1, e2, if_neg (by omega)]; omega
    · rw [if_neg (by simp [h, hd])] at e1 e2
      have hs : b.sign = 1 := Int.sign_eq_one_of_pos (by omega)
      rw [hs] at e1
      have hna : (b.natAbs : Int) = b := by omega
      rw [hna] at e2
      rw [if_pos (by omega)]; omega

theorem tdiv_in {n b : Int} (_hb : 1 ≤ b) (hn : -(2 ^ 60) ≤ n ∧ n ≤ 2 ^ 60) : -(2 ^ 60) ≤ n.tdiv b ∧ n.tdiv b ≤ 2 ^ 60 := by
  have h1 : (n.tdiv b).natAbs ≤ n.natAbs := by rw [Int.natAbs_tdiv]; exact Nat.div_le_self _ _
  omega

theorem lower_spec (n b : Int) (hb : 1 ≤ b) (hn : -(2 ^ 60) ≤ n ∧ n ≤ 2 ^ 60) : CallsF Try.prog 38 [iv n, iv b] [] (iv (n / b)) [] := by
  have hq := tdiv_in hb hn
  have hd := low_div (n := n) hb
  refine e38 ?_
  conv => whnf
  refine need_of ((decide_eq_true (by omega))) ?_
  conv => whnf
  refine need_of ((decide_eq_true (by omega))) ?_
  conv => whnf
  refine ifB_of (fun h1 => ?_) (fun h1 => ?_)
  · have h1 := of_decide_eq_true h1
    rw [if_pos h1] at hd
    refine ⟨[], [], rfl, congrArg iv ?_, rfl⟩
    rw [wrap_id (n := n.tdiv b) (by omega) (by omega), wrap_id (by omega) (by omega), hd]
  · have h1 := of_decide_eq_false h1
    rw [if_neg h1] at hd
    refine ⟨[], [], rfl, congrArg iv ?_, rfl⟩
    rw [wrap_id (by omega) (by omega), hd]

theorem down_spec (n b : Int) (hb : 1 ≤ b) (hn : -(2 ^ 60) ≤ n ∧ n ≤ 2 ^ 60) : CallsF Try.prog 39 [iv n, iv b] [] (iv (n / b)) [] := by
  have hq := tdiv_in hb hn
  have hd := low_div (n := n) hb
  refine e39 ?_
  conv => whnf
  refine need_of ((decide_eq_true (by omega))) ?_
  conv => whnf
  refine need_of ((decide_eq_true (by omega))) ?_
  conv => whnf
  refine ifB_of (fun h1 => ?_) (fun h1 => ?_)
  · have h1 := of_decide_eq_true h1
    rw [if_pos h1] at hd
    refine ⟨[], [], rfl, congrArg iv ?_, rfl⟩
    rw [wrap_id (n := n.tdiv b) (by omega) (by omega), wrap_id (by omega) (by omega), hd]
  · have h1 := of_decide_eq_false h1
    rw [if_neg h1] at hd
    refine ⟨[], [], rfl, congrArg iv ?_, rfl⟩
    rw [wrap_id (by omega) (by omega), hd]

def meanN (l : List Int) : Int := if l = [] then 0 else (l.sum + l.length / 2) / l.length

theorem sum_step {l : List Int} {i : Nat} (h : i < l.length) : (l.take (i + 1)).sum = (l.take i).sum + l[i] := by
  rw [List.take_succ_eq_append_getElem h, List.sum_append]; simp

theorem sum_in {l : List Int} (hb : ∀ v ∈ l, -16777216 ≤ v ∧ v ≤ 16777216) : ∀ i : Nat, -(16777216 * i) ≤ (l.take i).sum ∧ (l.take i).sum ≤ 16777216 * i
  | 0 => by simp
  | i + 1 => by
    have ih := sum_in hb i
    by_cases h : i < l.length
    · rw [sum_step h]
      have := hb _ (List.getElem_mem h)
      push_cast; omega
    · rw [List.take_of_length_le (by omega)] at ih ⊢
      push_cast; omega

set_option maxRecDepth 10000 in
theorem mean_spec (l : List Int) (hl : l.length ≤ 2 ^ 20) (hb : ∀ v ∈ l, -16777216 ≤ v ∧ v ≤ 16777216) : CallsF Try.prog 22 [.ri .i64 l] [] (iv (meanN l)) [] := by
  refine e22 ?_
  conv => whnf
  by_cases h0 : l = []
  · rw [h0]
    exact ⟨[], [], rfl, rfl, rfl⟩
  have hp : 1 ≤ l.length := by cases l with
    | nil => exact absurd rfl h0
    | cons => simp
  rw [show ((l.length : Int) == 0) = false by simp; omega]
  conv => whnf
  rw [half_nat _ (by omega)]
  refine LoopA.inv (fun n st => ∃ i : Nat, n + i = l.length ∧ st = ⟨[(0, .ri .i64 l), (3, iv ((l.take i).sum + (l.length / 2 : Nat))), (12, .ri .i64 l), (13, iv (l.length : Nat)), (14, iv i)], [], 0, 0⟩) l.length [0, 3, 12, 13, 14] [] [] (by rfl) ?_ ?_
  · conv => whnf
    exact ⟨0, rfl, by simp⟩
  rintro n st ⟨i, hn, rfl⟩
  conv => whnf
  refine ifB_of (fun h1 => ?_) (fun h1 => ?_)
  · have h1 : i < l.length := by have := of_decide_eq_true h1; omega
    have s1 := sum_in hb i
    have s2 := sum_in hb (i + 1)
    have hg : l.getD (i : Int).toNat 0 = l[i] := by rw [Int.toNat_natCast]; exact getD_at h1
    conv => whnf
    refine need_of ((decide_eq_true ⟨by omega, by omega⟩)) ?_
    conv => whnf
    rw [hg]
    refine ⟨(l.length - (i + 1)), [0, 3, 12, 13, 14], [], [], by omega, rfl, ?_⟩
    conv => whnf
    refine ⟨i + 1, by omega, ?_⟩
    have e : IntKind.wrap .i64 ((l.take i).sum + (l.length / 2 : Nat) + l[i]) = (l.take (i + 1)).sum + (l.length / 2 : Nat) := by
      have := hb _ (List.getElem_mem h1)
      rw [wrap_id (by omega) (by omega), sum_step h1]; omega
    rw [inc_nat (by omega), e]
  have h1 : ¬i < l.length := by have := of_decide_eq_false h1; omega
  obtain rfl : i = l.length := by omega
  have s1 := sum_in hb l.length
  rw [List.take_length] at s1 ⊢
  conv => whnf
  refine CallsF.call [] [] (lower_spec (l.sum + (l.length / 2 : Nat)) (l.length : Nat) (by omega) (by omega)) rfl rfl rfl rfl rfl (.inl rfl) ?_
  conv => whnf
  exact ⟨[], [], rfl, congrArg iv (by rw [meanN, if_neg h0]; push_cast; rfl), rfl⟩

set_option maxRecDepth 10000 in
theorem rmean_spec (l : List Int) (hl : l.length ≤ 2 ^ 20) (hb : ∀ v ∈ l, -16777216 ≤ v ∧ v ≤ 16777216) : CallsF Try.prog 23 [.ri .i64 l] [] (iv (meanN l)) [] := by
  refine e23 ?_
  conv => whnf
  refine LoopA.inv (fun n st => ∃ i : Nat, n + i = l.length ∧ st = ⟨[(0, .ri .i64 l), (3, iv (l.take i).sum), (6, .ri .i64 l), (7, iv (l.length : Nat)), (8, iv i)], [], 0, 0⟩) l.length [0, 3, 6, 7, 8] [] [] (by rfl) ?_ ?_
  · conv => whnf
    exact ⟨0, rfl, by simp⟩
  rintro n st ⟨i, hn, rfl⟩
  conv => whnf
  refine ifB_of (fun h1 => ?_) (fun h1 => ?_)
  · have h1 : i < l.length := by have := of_decide_eq_true h1; omega
    have s1 := sum_in hb i
    have hg : l.getD (i : Int).toNat 0 = l[i] := by rw [Int.toNat_natCast]; exact getD_at h1
    conv => whnf
    refine need_of ((decide_eq_true ⟨by omega, by omega⟩)) ?_
    conv => whnf
    rw [hg]
    refine ⟨(l.length - (i + 1)), [0, 3, 6, 7, 8], [], [], by omega, rfl, ?_⟩
    conv => whnf
    refine ⟨i + 1, by omega, ?_⟩
    have e : IntKind.wrap .i64 ((l.take i).sum + l[i]) = (l.take (i + 1)).sum := by
      have := hb _ (List.getElem_mem h1)
      rw [wrap_id (by omega) (by omega), sum_step h1]
    rw [inc_nat (by omega), e]
  have h1 : ¬i < l.length := by have := of_decide_eq_false h1; omega
  obtain rfl : i = l.length := by omega
  have s1 := sum_in hb l.length
  rw [List.take_length] at s1 ⊢
  conv => whnf
  by_cases h0 : l = []
  · rw [h0]
    exact ⟨[], [], rfl, rfl, rfl⟩
  have hp : 1 ≤ l.length := by cases l with
    | nil => exact absurd rfl h0
    | cons => simp
  rw [show ((l.length : Int) == 0) = false by simp; omega]
  conv => whnf
  rw [half_nat _ (by omega), wrap_id (n := l.sum + (l.length / 2 : Nat)) (by omega) (by omega)]
  refine CallsF.call [] [] (down_spec (l.sum + (l.length / 2 : Nat)) (l.length : Nat) (by omega) (by omega)) rfl rfl rfl rfl rfl (.inl rfl) ?_
  conv => whnf
  exact ⟨[], [], rfl, congrArg iv (by rw [meanN, if_neg h0]; push_cast; rfl), rfl⟩
end Go.Proofs.TryN

