/- Layer 36: padding, bands, components. -/
import Derived.Test.YthigehjpkpbmcaaAL27
import Derived.Test.YthigehjpkpbmcaaF36
import Derived.Test.YthigehjpkpbmcaaN36B
namespace Go.Proofs.TryN
open Go Go.AL Go.Proofs

theorem deep_spec (n : Int) : CallsF Try.prog 78 [iv n] [] (.bool (decide (0 ≤ n) && decide (n ≤ 6))) [] := by
  refine e78 ?_
  conv => whnf
  iterate 1 (all_goals (try (refine ifB_of (fun _ => ?_) (fun _ => ?_))); all_goals (conv => whnf))
  all_goals (refine ⟨[], [], rfl, congrArg AV.bool ?_, rfl⟩; simp_all <;> omega)

def padN (n d : Int) : Int := if (1 ≤ n ∧ n ≤ 1024) ∧ (0 ≤ d ∧ d ≤ 6) then (n + (2 ^ d.toNat - 1)) / 2 ^ d.toNat * 2 ^ d.toNat else 0

theorem pow_spec (n : Nat) (h : n ≤ 6) : CallsF Try.prog 79 [iv n] [] (iv ((2 ^ n : Nat) : Int)) [] := by
  refine e79 ?_
  conv => whnf
  refine LoopA.inv (fun m st => ∃ i : Nat, m + i = n ∧ st = ⟨[(0, iv n), (3, iv ((2 ^ i : Nat) : Int)), (4, iv i)], [], 0, 0⟩) n [0, 3, 4] [] [] (by rfl) ?_ ?_
  · conv => whnf
    exact ⟨0, rfl, rfl⟩
  rintro m st ⟨i, hm, rfl⟩
  conv => whnf
  refine ifB_of (fun h4 => ?_) (fun h4 => ?_)
  · have h4 := of_decide_eq_true h4
    have hp : 2 ^ i ≤ 2 ^ 6 := Nat.pow_le_pow_right (by omega) (by omega)
    have e1 : IntKind.wrap .i64 (((2 ^ i : Nat) : Int) * 2) = ((2 ^ (i + 1) : Nat) : Int) := by
      rw [Nat.pow_succ]; generalize 2 ^ i = q at hp; rw [wrap_id (by omega) (by omega)]; omega
    have e2 : IntKind.wrap .i64 ((i : Int) + 1) = ((i + 1 : Nat) : Int) := by rw [wrap_id (by omega) (by omega)]; rfl
    conv => whnf
    refine ⟨m - 1, [0, 3, 4], [], [], by omega, rfl, ?_⟩
    conv => whnf
    exact ⟨i + 1, by omega, by rw [← e1, ← e2]⟩
  · have h4 := of_decide_eq_false h4
    conv => whnf
    have : i = n := by omega
    subst this
    exact ⟨[], [], rfl, rfl, rfl⟩

def padX (n d : Int) : Int := IntKind.wrap .i64 ((BitVec.ofInt IntKind.i64.bits (IntKind.wrap .i64 (n + IntKind.wrap .i64 (IntKind.wrap .i64 (1 * 2 ^ min d.toNat IntKind.i64.bits) - 1))) &&& ~~~BitVec.ofInt IntKind.i64.bits (IntKind.wrap .i64 (IntKind.wrap .i64 (1 * 2 ^ min d.toNat IntKind.i64.bits) - 1))).toNat : Nat)

theorem padX_all : ((List.range 1025).all fun n => (List.range 7).all fun d => padX (n : Nat) (d : Nat) == (((n + (2 ^ d - 1)) / 2 ^ d * 2 ^ d : Nat) : Int)) = true := by kernel_rfl

theorem padN_nat {N D : Nat} (hc : (1 ≤ N ∧ N ≤ 1024) ∧ D ≤ 6) : padN N D = (((N + (2 ^ D - 1)) / 2 ^ D * 2 ^ D : Nat) : Int) := by
  have hP : 1 ≤ 2 ^ D := Nat.one_le_two_pow
  rw [padN, if_pos (by omega)]; simp only [Int.toNat_natCast]
  generalize hq : 2 ^ D = P at *
  have e : ((2 : Int) ^ D) = (P : Int) := by rw [← hq]; simp
  rw [e]; simp [Int.natCast_sub hP]

theorem padX_eq {n d : Int} (hc : (1 ≤ n ∧ n ≤ 1024) ∧ (0 ≤ d ∧ d ≤ 6)) : padX n d = padN n d := by
  obtain ⟨D, rfl⟩ : ∃ D : Nat, d = D := ⟨d.toNat, by omega⟩
  obtain ⟨N, rfl⟩ : ∃ N : Nat, n = N := ⟨n.toNat, by omega⟩
  have h := List.all_eq_true.1 padX_all N (List.mem_range.2 (by omega))
  have h := List.all_eq_true.1 h D (List.mem_range.2 (by omega))
  rw [padN_nat (by omega)]
  exact LawfulBEq.eq_of_beq h

theorem padded_spec (n d : Int) : CallsF Try.prog 57 [iv n, iv d] [] (iv (padN n d)) [] := by
  have no : ¬((1 ≤ n ∧ n ≤ 1024) ∧ (0 ≤ d ∧ d ≤ 6)) → iv 0 = iv (padN n d) := fun hn => by rw [padN, if_neg hn]
  refine e57 ?_
  conv => whnf
  refine ifB_of (fun h1 => ?_) (fun h1 => ?_)
  · conv => whnf
    exact ⟨[], [], rfl, no (by simp at h1; omega), rfl⟩
  conv => whnf
  refine ifB_of (fun h2 => ?_) (fun h2 => ?_)
  · conv => whnf
    exact ⟨[], [], rfl, no (by simp at h2; omega), rfl⟩
  conv => whnf
  refine CallsF.call [] [] (deep_spec d) rfl rfl rfl rfl rfl (.inl rfl) ?_
  conv => whnf
  refine ifB_of (fun h3 => ?_) (fun h3 => ?_)
  · conv => whnf
    exact ⟨[], [], rfl, no (by simp at h3; omega), rfl⟩
  conv => whnf
  have hc : (1 ≤ n ∧ n ≤ 1024) ∧ (0 ≤ d ∧ d ≤ 6) := by simp at h1 h2 h3; omega
  refine need_of ((by simp; omega)) ?_
  conv => whnf
  exact ⟨[], [], rfl, congrArg iv (padX_eq hc), rfl⟩

theorem padded09_spec (n d : Int) : CallsF Try.prog 59 [iv n, iv d] [] (iv (padN n d)) [] := by
  have no : ¬((1 ≤ n ∧ n ≤ 1024) ∧ (0 ≤ d ∧ d ≤ 6)) → iv 0 = iv (padN n d) := fun hn => by rw [padN, if_neg hn]
  refine e59 ?_
  conv => whnf
  refine ifB_of (fun h1 => ?_) (fun h1 => ?_)
  · conv => whnf
    exact ⟨[], [], rfl, no (by simp at h1; omega), rfl⟩
  conv => whnf
  refine ifB_of (fun h2 => ?_) (fun h2 => ?_)
  · conv => whnf
    exact ⟨[], [], rfl, no (by simp at h2; omega), rfl⟩
  conv => whnf
  refine ifB_of (fun h3 => ?_) (fun h3 => ?_)
  · conv => whnf
    exact ⟨[], [], rfl, no (by simp at h3; omega), rfl⟩
  conv => whnf
  refine ifB_of (fun h4 => ?_) (fun h4 => ?_)
  · conv => whnf
    exact ⟨[], [], rfl, no (by simp at h4; omega), rfl⟩
  conv => whnf
  have hc : (1 ≤ n ∧ n ≤ 1024) ∧ (0 ≤ d ∧ d ≤ 6) := by simp at h1 h2 h3 h4; omega
  obtain ⟨D, rfl⟩ : ∃ D : Nat, d = D := ⟨d.toNat, by omega⟩
  obtain ⟨N, rfl⟩ : ∃ N : Nat, n = N := ⟨n.toNat, by omega⟩
  have hP : 1 ≤ 2 ^ D ∧ 2 ^ D ≤ 2 ^ 6 := ⟨Nat.one_le_two_pow, Nat.pow_le_pow_right (by omega) (by omega)⟩
  have hs := padN_nat (N := N) (D := D) (by omega)
  rw [hs]
  generalize hq : 2 ^ D = P at *
  have hb : N ≤ (N + (P - 1)) / P * P ∧ (N + (P - 1)) / P * P < N + P := by
    have g1 := Nat.div_add_mod (N + (P - 1)) P
    have g2 := Nat.mod_lt (N + (P - 1)) (show P > 0 by omega)
    rw [Nat.mul_comm] at g1
    omega
  refine LoopA.inv (fun m st => ∃ i : Nat, N ≤ i ∧ i + m = (N + (P - 1)) / P * P ∧ st = ⟨[(0, iv i), (1, iv D)], [], 0, 0⟩) ((N + (P - 1)) / P * P - N) [0, 1] [] [] (by rfl) ?_ ?_
  · conv => whnf
    exact ⟨N, by omega, by omega, rfl⟩
  rintro m st ⟨i, hi, hm, rfl⟩
  conv => whnf
  refine CallsF.call [] [] (pow_spec D (by omega)) rfl rfl rfl rfl rfl (.inl rfl) ?_
  conv => whnf
  rw [hq]
  refine need_of ((by simp; omega)) ?_
  conv => whnf
  have er : ((i : Int).tmod (P : Int)) = ((i % P : Nat) : Int) := by rw [Int.tmod_eq_emod_of_nonneg (by omega), ← Int.natCast_emod]
  refine ifB_of (fun h5 => ?_) (fun h5 => ?_)
  · have h5 : ¬i % P = 0 := by rw [er] at h5; have h5 := bne_iff_ne.1 h5; omega
    have hne : i ≠ (N + (P - 1)) / P * P := fun e => h5 (by rw [e]; exact Nat.mul_mod_left _ _)
    have e1 : IntKind.wrap .i64 ((i : Int) + 1) = ((i + 1 : Nat) : Int) := by rw [wrap_id (by omega) (by omega)]; rfl
    conv => whnf
    refine ⟨m - 1, [0, 1], [], [], by omega, rfl, ?_⟩
    conv => whnf
    exact ⟨i + 1, by omega, by omega, by rw [← e1]⟩
  · have h5 : i % P = 0 := by rw [er] at h5; have h5 := bne_eq_false_iff_eq.1 h5; omega
    have : i = (N + (P - 1)) / P * P := by
      obtain ⟨k, rfl⟩ := Nat.dvd_of_mod_eq_zero h5
      generalize (N + (P - 1)) / P = q at *
      rw [Nat.mul_comm P k] at *
      have a : k ≤ q := Nat.le_of_mul_le_mul_right (show k * P ≤ q * P by omega) (by omega)
      have b : q < k + 1 := Nat.lt_of_mul_lt_mul_right (a := P) (by rw [Nat.add_mul]; omega)
      have : k = q := by omega
      rw [this]
    subst this
    conv => whnf
    exact ⟨[], [], rfl, rfl, rfl⟩
end Go.Proofs.TryN

