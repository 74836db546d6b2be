/- Layer 40: levels and rates. -/
import Derived.Test.YtipafgbcdmgmbaaDoorN40G
import Derived.Test.YtipafgbcdmgmbaaDoorF41
namespace Go.Proofs.TrydN
open Go Go.AL Go.Proofs

/-- How often most may be halved. -/
def lvl (n : Nat) : Nat → Nat → Nat
  | _, 0 => 0
  | m, f + 1 => if n ≤ m then 1 + lvl n (m / 2) f else 0
/-- How often the squares may be doubled. -/
def lv2 (m : Nat) : Nat → Nat → Nat
  | _, 0 => 0
  | s, f + 1 => if s ≤ m then 1 + lv2 m (s * 2) f else 0
theorem lvl_half (m : Nat) : ∀ (f s n j : Nat), s = n * 2 ^ j → lvl n (m / 2 ^ j) f = lv2 m s f
  | 0, _, _, _, _ => rfl
  | f + 1, s, n, j, h => by
    have e : n ≤ m / 2 ^ j ↔ s ≤ m := by rw [h]; exact Nat.le_div_iff_mul_le (Nat.two_pow_pos j)
    rw [lvl, lv2, Nat.div_div_eq_div_mul, ← Nat.pow_succ, lvl_half m f (s * 2) n (j + 1) (by rw [h, Nat.pow_succ, Nat.mul_assoc])]
    by_cases hs : s ≤ m
    · rw [if_pos hs, if_pos (e.2 hs)]
    · rw [if_neg hs, if_neg fun h => hs (e.1 h)]

def levelI (c q peak : Int) : Int :=
  let p := (max 0 (min peak 65535)).toNat
  let n := (max 0 (min q 1073741824)).toNat
  if n = 0 then 63 else (lvl n (p * p * (max 0 (min c 1073741824)).toNat) 63 : Int) - 1

theorem half_i (m : Nat) : (m : Int).fdiv (2 ^ (min (1 : Int).toNat IntKind.i64.bits)) = ((m / 2 : Nat) : Int) := by
  rw [show (2 ^ (min (1 : Int).toNat IntKind.i64.bits) : Int) = 2 by rfl, Int.fdiv_eq_ediv_of_nonneg _ (by decide)]; omega

set_option maxHeartbeats 4000000 in
set_option maxRecDepth 10000 in
theorem levelA_spec (g : G) (peak : Int) : CallsF Tryd.prog 8 [g.av, iv peak] [] (iv (levelI g.c g.q peak)) [] := by
  obtain ⟨c, d, w, s, q⟩ := g
  unfold levelI
  simp only
  have k0 := clamp_spec peak 65535 (by decide)
  have k1 := clamp_spec c 1073741824 (by decide)
  have k2 := clamp_spec q 1073741824 (by decide)
  obtain ⟨p, hp, hp1⟩ : ∃ p : Nat, max 0 (min peak 65535) = (p : Int) ∧ p ≤ 65535 := ⟨(max 0 (min peak 65535)).toNat, by omega, by omega⟩
  obtain ⟨C, hC, hC1⟩ : ∃ p : Nat, max 0 (min c 1073741824) = (p : Int) ∧ p ≤ 1073741824 := ⟨(max 0 (min c 1073741824)).toNat, by omega, by omega⟩
  obtain ⟨S, hS, hS1⟩ : ∃ p : Nat, max 0 (min q 1073741824) = (p : Int) ∧ p ≤ 1073741824 := ⟨(max 0 (min q 1073741824)).toNat, by omega, by omega⟩
  rw [hp] at k0
  rw [hC] at k1
  rw [hS] at k2
  rw [hp, hC, hS, Int.toNat_natCast, Int.toNat_natCast, Int.toNat_natCast]
  have b1 : p * p ≤ 65535 * 65535 := Nat.mul_le_mul hp1 hp1
  have b2 : p * p * C ≤ 65535 * 65535 * 1073741824 := Nat.mul_le_mul b1 hC1
  have em : IntKind.wrap .i64 (IntKind.wrap .i64 ((p : Int) * p) * C) = ((p * p * C : Nat) : Int) := by
    rw [← Int.natCast_mul, wrap_id (n := ((p * p : Nat) : Int)) (by omega) (by omega), ← Int.natCast_mul, wrap_id (by omega) (by omega)]
  refine e8 ?_
  conv => whnf
  refine CallsF.call [] [] k0 rfl rfl rfl rfl rfl (.inl rfl) ?_
  conv => whnf
  refine CallsF.call [] [] k1 rfl rfl rfl rfl rfl (.inl rfl) ?_
  conv => whnf
  refine ⟨.inl ⟨_, rfl⟩, ?_⟩
  conv => whnf
  rw [em]
  generalize p * p * C = m at *
  conv => whnf
  refine CallsF.call [] [] k2 rfl rfl rfl rfl rfl (.inl rfl) ?_
  conv => whnf
  cases hz : ((S : Int) == 0)
  · have hz' : ¬S = 0 := fun h => by rw [h] at hz; cases hz
    rw [if_neg hz']
    conv => whnf
    obtain ⟨L, hL⟩ : ∃ L, lvl S m 63 = L := ⟨_, rfl⟩
    rw [hL]
    refine LoopA.inv (fun n st => ∃ j M : Nat, n + j = 63 ∧ L = j + lvl S M (63 - j) ∧ M ≤ 4611686018427387904 ∧ st = ⟨[(5, iv M), (6, iv S), (7, iv ((j : Int) - 1))], [], 0, 0⟩) 63 [5, 6, 7] [] [] (by rfl) ?_ ?_
    · conv => whnf
      exact ⟨0, m, rfl, by rw [Nat.zero_add, ← hL], by omega, rfl⟩
    rintro n st ⟨j, M, hn, hI, hM, rfl⟩
    conv => whnf
    refine ifB_of (fun h1 => ?_) (fun h1 => ?_)
    · have h1 : (j : Int) - 1 < 62 := of_decide_eq_true h1
      have ef : 63 - j = (63 - (j + 1)) + 1 := by omega
      rw [ef, lvl] at hI
      conv => whnf
      refine ifB_of (fun h2 => ?_) (fun h2 => ?_)
      · have h2 : S ≤ M := by have := of_decide_eq_true h2; omega
        rw [if_pos h2] at hI
        conv => whnf
        rw [half_i M]
        refine ⟨(63 - (j + 1)), [5, 6, 7], [], [], by omega, rfl, ?_⟩
        conv => whnf
        refine ⟨j + 1, M / 2, by omega, by omega, by omega, ?_⟩
        rw [show IntKind.wrap .i64 ((j : Int) - 1 + 1) = ((j + 1 : Nat) : Int) - 1 by rw [wrap_id (by omega) (by omega)]; omega]
      · have h2 : ¬S ≤ M := by have := of_decide_eq_false h2; omega
        rw [if_neg h2] at hI
        conv => whnf
        exact ⟨[], [], rfl, congrArg iv (by omega), rfl⟩
    · have h1 : ¬(j : Int) - 1 < 62 := of_decide_eq_false h1
      obtain rfl : j = 63 := by omega
      rw [Nat.sub_self, lvl] at hI
      conv => whnf
      exact ⟨[], [], rfl, congrArg iv (by omega), rfl⟩
  · have hz' : S = 0 := by have := eq_of_beq hz; omega
    rw [if_pos hz']
    conv => whnf
    exact ⟨[], [], rfl, rfl, rfl⟩

set_option maxHeartbeats 4000000 in
set_option maxRecDepth 10000 in
theorem rlevelA_spec (g : G) (peak : Int) : CallsF Tryd.prog 9 [g.av, iv peak] [] (iv (levelI g.c g.q peak)) [] := by
  obtain ⟨c, d, w, s, q⟩ := g
  unfold levelI
  simp only
  have k0 := near_spec peak 65535 (by decide)
  have k1 := near_spec c 1073741824 (by decide)
  have k2 := near_spec q 1073741824 (by decide)
  obtain ⟨p, hp, hp1⟩ : ∃ p : Nat, max 0 (min peak 65535) = (p : Int) ∧ p ≤ 65535 := ⟨(max 0 (min peak 65535)).toNat, by omega, by omega⟩
  obtain ⟨C, hC, hC1⟩ : ∃ p : Nat, max 0 (min c 1073741824) = (p : Int) ∧ p ≤ 1073741824 := ⟨(max 0 (min c 1073741824)).toNat, by omega, by omega⟩
  obtain ⟨S, hS, hS1⟩ : ∃ p : Nat, max 0 (min q 1073741824) = (p : Int) ∧ p ≤ 1073741824 := ⟨(max 0 (min q 1073741824)).toNat, by omega, by omega⟩
  rw [hp] at k0
  rw [hC] at k1
  rw [hS] at k2
  rw [hp, hC, hS, Int.toNat_natCast, Int.toNat_natCast, Int.toNat_natCast]
  have b1 : p * p ≤ 65535 * 65535 := Nat.mul_le_mul hp1 hp1
  have b2 : p * p * C ≤ 65535 * 65535 * 1073741824 := Nat.mul_le_mul b1 hC1
  have em : IntKind.wrap .i64 (IntKind.wrap .i64 ((p : Int) * p) * C) = ((p * p * C : Nat) : Int) := by
    rw [← Int.natCast_mul, wrap_id (n := ((p * p : Nat) : Int)) (by omega) (by omega), ← Int.natCast_mul, wrap_id (by omega) (by omega)]
  refine e9 ?_
  conv => whnf
  refine CallsF.call [] [] k0 rfl rfl rfl rfl rfl (.inl rfl) ?_
  conv => whnf
  refine CallsF.call [] [] k2 rfl rfl rfl rfl rfl (.inl rfl) ?_
  conv => whnf
  cases hz : ((S : Int) == 0)
  · have hz' : ¬S = 0 := fun h => by rw [h] at hz; cases hz
    rw [if_neg hz']
    conv => whnf
    refine CallsF.call [] [] k1 rfl rfl rfl rfl rfl (.inl rfl) ?_
    conv => whnf
    rw [em]
    generalize p * p * C = m at *
    conv => whnf
    rw [show lvl S m 63 = lv2 m S 63 from by have h := lvl_half m 63 S S 0 (by simp); simpa using h]
    obtain ⟨L, hL⟩ : ∃ L, lv2 m S 63 = L := ⟨_, rfl⟩
    rw [hL]
    refine LoopA.inv (fun n st => ∃ j M : Nat, n + j = 63 ∧ L = j + lv2 m M (63 - j) ∧ M ≤ 9223372036854775806 ∧ st = ⟨[(6, iv M), (7, iv m), (8, iv ((j : Int) - 1))], [], 0, 0⟩) 63 [6, 7, 8] [] [] (by rfl) ?_ ?_
    · conv => whnf
      exact ⟨0, S, rfl, by rw [Nat.zero_add, ← hL], by omega, rfl⟩
    rintro n st ⟨j, M, hn, hI, hM, rfl⟩
    conv => whnf
    refine ifB_of (fun h2 => ?_) (fun h2 => ?_)
    · have h2 : ¬M ≤ m := by have := of_decide_eq_true h2; omega
      have e0 : lv2 m M (63 - j) = 0 := by
        cases 63 - j with
        | zero => rfl
        | succ f => rw [lv2, if_neg h2]
      rw [e0] at hI
      conv => whnf
      exact ⟨[], [], rfl, congrArg iv (by omega), rfl⟩
    have h2 : M ≤ m := by have := of_decide_eq_false h2; omega
    conv => whnf
    cases h1 : ((j : Int) - 1 == 62)
    · have h1 : ¬(j : Int) - 1 = 62 := fun h => by rw [h] at h1; cases h1
      have ef : 63 - j = (63 - (j + 1)) + 1 := by omega
      rw [ef, lv2, if_pos h2] at hI
      have em2 : IntKind.wrap .i64 ((M : Int) * 2) = ((M * 2 : Nat) : Int) := by rw [wrap_id (by omega) (by omega)]; omega
      conv => whnf
      refine ifB_of (fun h => absurd (of_decide_eq_true h) (by omega)) (fun _ => ?_)
      conv => whnf
      refine ⟨(63 - (j + 1)), [6, 7, 8], [], [], by omega, rfl, ?_⟩
      conv => whnf
      refine ⟨j + 1, M * 2, by omega, by omega, by omega, ?_⟩
      rw [show IntKind.wrap .i64 ((j : Int) - 1 + 1) = ((j + 1 : Nat) : Int) - 1 by rw [wrap_id (by omega) (by omega)]; omega, em2]
    · have h1 := eq_of_beq h1
      obtain rfl : j = 63 := by omega
      rw [Nat.sub_self, lv2] at hI
      conv => whnf
      exact ⟨[], [], rfl, congrArg iv (by omega), rfl⟩
  · have hz' : S = 0 := by have := eq_of_beq hz; omega
    rw [if_pos hz']
    conv => whnf
    exact ⟨[], [], rfl, rfl, rfl⟩

def rateI (b c : Int) : Int :=
  let C := max 0 (min c 1099511627776)
  if C = 0 then 0 else IntKind.wrap .i64 ((IntKind.wrap .i64 (8000 * max 0 (min b 1099511627776))).tdiv C)

theorem rateA_spec (b c : Int) : CallsF Tryd.prog 10 [iv b, iv c] [] (iv (rateI b c)) [] := by
  have k0 := clamp_spec c 1099511627776 (by decide)
  have k1 := clamp_spec b 1099511627776 (by decide)
  unfold rateI
  simp only
  generalize max 0 (min c 1099511627776) = C at *
  generalize max 0 (min b 1099511627776) = B at *
  refine e10 ?_
  conv => whnf
  refine CallsF.call [] [] k0 rfl rfl rfl rfl rfl (.inl rfl) ?_
  conv => whnf
  cases hz : (C == 0)
  · have hz' : ¬C = 0 := fun h => by rw [h] at hz; cases hz
    rw [if_neg hz']
    conv => whnf
    refine CallsF.call [] [] k1 rfl rfl rfl rfl rfl (.inl rfl) ?_
    conv => whnf
    refine need_of ((decide_eq_true hz')) ?_
    conv => whnf
    exact ⟨[], [], rfl, rfl, rfl⟩
  · rw [if_pos (eq_of_beq hz)]
    conv => whnf
    exact ⟨[], [], rfl, rfl, rfl⟩

theorem rrateA_spec (b c : Int) : CallsF Tryd.prog 11 [iv b, iv c] [] (iv (rateI b c)) [] := by
  have k0 := near_spec c 1099511627776 (by decide)
  have k1 := near_spec b 1099511627776 (by decide)
  unfold rateI
  simp only
  generalize max 0 (min c 1099511627776) = C at *
  generalize max 0 (min b 1099511627776) = B at *
  refine e11 ?_
  conv => whnf
  refine CallsF.call [] [] k0 rfl rfl rfl rfl rfl (.inl rfl) ?_
  conv => whnf
  cases hz : (C == 0)
  · have hz' : ¬C = 0 := fun h => by rw [h] at hz; cases hz
    rw [if_neg hz']
    conv => whnf
    refine CallsF.call [] [] k1 rfl rfl rfl rfl rfl (.inl rfl) ?_
    conv => whnf
    refine need_of ((decide_eq_true hz')) ?_
    conv => whnf
    exact ⟨[], [], rfl, rfl, rfl⟩
  · rw [if_pos (eq_of_beq hz)]
    conv => whnf
    exact ⟨[], [], rfl, rfl, rfl⟩

end Go.Proofs.TrydN

