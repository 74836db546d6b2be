/- Layer 40: the document's number as a text. -/
import Derived.Test.YtipafgbcdmgmbaaDoorN40M
namespace Go.Proofs.TrydN
open Go Go.AL Go.Proofs

theorem decD_lt {u : Nat} (h : u < 10) : Lib.decDigits u = [UInt8.ofNat (48 + u)] := by rw [Lib.decDigits, dif_pos h]
theorem decD_ge {u : Nat} (h : ¬u < 10) : Lib.decDigits u = Lib.decDigits (u / 10) ++ [UInt8.ofNat (48 + u % 10)] := by rw [Lib.decDigits, dif_neg h]

theorem app1 (x : UInt8) (s : List UInt8) : (⟨#[x]⟩ : ByteArray) ++ (⟨s.toArray⟩ : ByteArray) = ⟨(x :: s).toArray⟩ := by
  apply ByteArray.ext
  rw [ByteArray.data_append]
  simp

theorem dig {D : Nat} (h : D < 10) : (⟨#[48, 49, 50, 51, 52, 53, 54, 55, 56, 57]⟩ : ByteArray).extract D (D + 1) = ⟨#[UInt8.ofNat (48 + D)]⟩ := by
  rcases (by omega : D = 0 ∨ D = 1 ∨ D = 2 ∨ D = 3 ∨ D = 4 ∨ D = 5 ∨ D = 6 ∨ D = 7 ∨ D = 8 ∨ D = 9) with rfl | rfl | rfl | rfl | rfl | rfl | rfl | rfl | rfl | rfl <;> rfl

set_option maxHeartbeats 4000000 in
set_option maxRecDepth 10000 in
theorem num_spec (n : Int) (hn : okI n) : CallsF Tryd.prog 29 [iv n] [] (.str ⟨(Lib.itoa n).toArray⟩) [] := by
  unfold okI at hn
  refine e29 ?_
  conv => whnf
  refine LoopA.inv (fun r st => ∃ (k : Nat) (m : Int) (s : List UInt8), r + k = 19 ∧ m.natAbs < 10 ^ r ∧ (k = 0 ∨ m ≠ 0) ∧ s.length = k ∧ Lib.decDigits n.natAbs = (if k = 0 then Lib.decDigits m.natAbs else Lib.decDigits m.natAbs ++ s) ∧ st = ⟨[(0, iv m), (3, .str ⟨s.toArray⟩), (4, .bool (decide (n < 0)))], [], 0, 0⟩) 19 [0, 3, 4] [] [] (by rfl) ?_ ?_
  · conv => whnf
    exact ⟨0, n, [], rfl, by omega, .inl rfl, rfl, rfl, rfl⟩
  rintro r st ⟨k, m, s, hr, hm, hk, hs, hd, rfl⟩
  obtain ⟨R, rfl⟩ : ∃ R, r = R + 1 := by
    cases r with
    | zero =>
      exfalso
      have : m.natAbs < 1 := hm
      omega
    | succ R => exact ⟨R, rfl⟩
  have hp : (10 : Nat) ^ R ≤ 10 ^ 18 := Nat.pow_le_pow_right (by decide) (by omega)
  have hdm : (m.tdiv 10).natAbs = m.natAbs / 10 := by rw [Int.natAbs_tdiv]; rfl
  have hmm : (m.tmod 10).natAbs = m.natAbs % 10 := by rw [Int.natAbs_tmod]; rfl
  have hlt : m.natAbs / 10 < 10 ^ R := by rw [Nat.pow_succ] at hm; omega
  have e2 : IntKind.wrap .i64 (m.tdiv 10) = m.tdiv 10 := wrap_id (by omega) (by omega)
  conv => whnf
  generalize m.tmod 10 = d at *
  refine ifB_of (fun h3 => ?_) (fun h3 => ?_)
  · have h3 : d < 0 := of_decide_eq_true h3
    have e3 : IntKind.wrap .i64 (0 - d) = ((m.natAbs % 10 : Nat) : Int) := by rw [wrap_id (by omega) (by omega)]; omega
    have e4 := inc_nat (n := m.natAbs % 10) (by omega)
    conv => whnf
    rw [e3, e4]
    refine need_of (decide_eq_true ⟨Int.natCast_nonneg _, by omega, by
      show _ ≤ ((10 : Nat) : Int)
      omega⟩) ?_
    rw [Int.toNat_natCast, Int.toNat_natCast, dig (by omega)]
    refine need_of (decide_eq_true (by
      show 1 + s.toArray.size ≤ _
      rw [List.size_toArray]
      omega)) ?_
    rw [app1]
    conv => whnf
    rw [e2]
    have hd2 : Lib.decDigits n.natAbs = (if m.natAbs < 10 then [] else Lib.decDigits (m.natAbs / 10)) ++ (UInt8.ofNat (48 + m.natAbs % 10) :: s) := by
      have hk0 : k = 0 → s = [] := fun h => List.length_eq_zero_iff.1 (by omega)
      have hd' : Lib.decDigits n.natAbs = Lib.decDigits m.natAbs ++ s := by
        by_cases h : k = 0
        · rw [hd, if_pos h, hk0 h, List.append_nil]
        · rw [hd, if_neg h]
      rw [hd']
      by_cases h : m.natAbs < 10
      · rw [if_pos h, decD_lt h, Nat.mod_eq_of_lt h]; rfl
      · rw [if_neg h, decD_ge h, List.append_assoc]; rfl
    generalize m.tdiv 10 = m' at *
    cases hz : (m' == 0)
    · have hz' : m' ≠ 0 := fun h => by rw [h] at hz; cases hz
      rw [if_neg (by omega)] at hd2
      conv => whnf
      refine ⟨R, [0, 3, 4], [], [], by omega, rfl, ?_⟩
      conv => whnf
      refine ⟨k + 1, m', UInt8.ofNat (48 + m.natAbs % 10) :: s, by omega, by rw [hdm]; exact hlt, .inr hz', by rw [List.length_cons, hs], ?_, rfl⟩
      rw [if_neg (by omega), hdm, hd2]
    · have hz' : m' = 0 := eq_of_beq hz
      rw [if_pos (by omega), List.nil_append] at hd2
      rw [← hd2]
      conv => whnf
      refine ifB_of (fun h6 => ?_) (fun h6 => ?_)
      · have h6 : n < 0 := of_decide_eq_true h6
        conv => whnf
        have hlen : (Lib.decDigits n.natAbs).length = k + 1 := by rw [hd2, List.length_cons, hs]
        refine need_of (decide_eq_true (by
          show 1 + (Lib.decDigits n.natAbs).toArray.size ≤ _
          rw [List.size_toArray]
          omega)) ?_
        rw [app1]
        conv => whnf
        exact ⟨[], [], rfl, by rw [Lib.itoa, if_pos h6]; rfl, rfl⟩
      · have h6 : ¬n < 0 := of_decide_eq_false h6
        conv => whnf
        exact ⟨[], [], rfl, by rw [Lib.itoa, if_neg h6, show n.toNat = n.natAbs by omega]; rfl, rfl⟩
  · have h3 : ¬d < 0 := of_decide_eq_false h3
    obtain rfl : d = ((m.natAbs % 10 : Nat) : Int) := by omega
    have e4 := inc_nat (n := m.natAbs % 10) (by omega)
    conv => whnf
    rw [e4]
    refine need_of (decide_eq_true ⟨Int.natCast_nonneg _, by omega, by
      show _ ≤ ((10 : Nat) : Int)
      omega⟩) ?_
    rw [Int.toNat_natCast, Int.toNat_natCast, dig (by omega)]
    refine need_of (decide_eq_true (by
      show 1 + s.toArray.size ≤ _
      rw [List.size_toArray]
      omega)) ?_
    rw [app1]
    conv => whnf
    rw [e2]
    have hd2 : Lib.decDigits n.natAbs = (if m.natAbs < 10 then [] else Lib.decDigits (m.natAbs / 10)) ++ (UInt8.ofNat (48 + m.natAbs % 10) :: s) := by
      have hk0 : k = 0 → s = [] := fun h => List.length_eq_zero_iff.1 (by omega)
      have hd' : Lib.decDigits n.natAbs = Lib.decDigits m.natAbs ++ s := by
        by_cases h : k = 0
        · rw [hd, if_pos h, hk0 h, List.append_nil]
        · rw [hd, if_neg h]
      rw [hd']
      by_cases h : m.natAbs < 10
      · rw [if_pos h, decD_lt h, Nat.mod_eq_of_lt h]; rfl
      · rw [if_neg h, decD_ge h, List.append_assoc]; rfl
    generalize m.tdiv 10 = m' at *
    cases hz : (m' == 0)
    · have hz' : m' ≠ 0 := fun h => by rw [h] at hz; cases hz
      rw [if_neg (by omega)] at hd2
      conv => whnf
      refine ⟨R, [0, 3, 4], [], [], by omega, rfl, ?_⟩
      conv => whnf
      refine ⟨k + 1, m', UInt8.ofNat (48 + m.natAbs % 10) :: s, by omega, by rw [hdm]; exact hlt, .inr hz', by rw [List.length_cons, hs], ?_, rfl⟩
      rw [if_neg (by omega), hdm, hd2]
    · have hz' : m' = 0 := eq_of_beq hz
      rw [if_pos (by omega), List.nil_append] at hd2
      rw [← hd2]
      conv => whnf
      refine ifB_of (fun h6 => ?_) (fun h6 => ?_)
      · have h6 : n < 0 := of_decide_eq_true h6
        conv => whnf
        have hlen : (Lib.decDigits n.natAbs).length = k + 1 := by rw [hd2, List.length_cons, hs]
        refine need_of (decide_eq_true (by
          show 1 + (Lib.decDigits n.natAbs).toArray.size ≤ _
          rw [List.size_toArray]
          omega)) ?_
        rw [app1]
        conv => whnf
        exact ⟨[], [], rfl, by rw [Lib.itoa, if_pos h6]; rfl, rfl⟩
      · have h6 : ¬n < 0 := of_decide_eq_false h6
        conv => whnf
        exact ⟨[], [], rfl, by rw [Lib.itoa, if_neg h6, show n.toNat = n.natAbs by omega]; rfl, rfl⟩

end Go.Proofs.TrydN

