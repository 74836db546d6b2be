/- Layer 36: lists of bands, components. -/
import Derived.Test.YthigehjpkpbmcaaAL27
import Derived.Test.YthigehjpkpbmcaaF36
import Derived.Test.YthigehjpkpbmcaaN36D
namespace Go.Proofs.TryN
open Go Go.AL Go.Proofs

theorem padN_fix (W D : Nat) : (0 < padN W D ∧ padN W D = W) ↔ (1 ≤ W ∧ W ≤ 1024) ∧ D ≤ 6 ∧ 2 ^ D ∣ W := by
  constructor
  · rintro ⟨h1, h2⟩
    have h := padN_in _ _ h1
    rw [padN_nat (by omega)] at h2
    have h2 : (W + (2 ^ D - 1)) / 2 ^ D * 2 ^ D = W := by exact_mod_cast h2
    exact ⟨by omega, by omega, ⟨(W + (2 ^ D - 1)) / 2 ^ D, by rw [Nat.mul_comm]; exact h2.symm⟩⟩
  · rintro ⟨h1, h2, ⟨k, hk⟩⟩
    have hP : 1 ≤ 2 ^ D := Nat.one_le_two_pow
    have e : padN W D = W := by
      rw [padN_nat ⟨h1, h2⟩]
      have : (W + (2 ^ D - 1)) / 2 ^ D = k := by
        rw [hk, Nat.mul_add_div (by omega), Nat.div_eq_of_lt (by omega), Nat.add_zero]
      rw [this, Nat.mul_comm, ← hk]
    exact ⟨by omega, e⟩

theorem fitsB_iff (W H D : Nat) : fitsB W H D = true ↔ ((1 ≤ W ∧ W ≤ 1024) ∧ 2 ^ D ∣ W) ∧ ((1 ≤ H ∧ H ≤ 1024) ∧ 2 ^ D ∣ H) ∧ D ≤ 6 := by
  have a := padN_fix W D
  have b := padN_fix H D
  have e : fitsB W H D = true ↔ (0 < padN W D ∧ padN W D = W) ∧ (0 < padN H D ∧ padN H D = H) := by
    simp [fitsB, and_assoc]
  rw [e, a, b]
  constructor
  · rintro ⟨⟨a1, a2, a3⟩, b1, b2, b3⟩; exact ⟨⟨a1, a3⟩, ⟨b1, b3⟩, a2⟩
  · rintro ⟨⟨a1, a3⟩, ⟨b1, b3⟩, a2⟩; exact ⟨⟨a1, a2, a3⟩, b1, a2, b3⟩

theorem half_dvd {W D : Nat} (h : 2 ^ (D + 1) ∣ W) (h1 : 1 ≤ W) : 1 ≤ W / 2 ∧ 2 ^ D ∣ W / 2 := by
  obtain ⟨k, rfl⟩ := h
  have e : 2 ^ (D + 1) * k / 2 = 2 ^ D * k := by
    rw [Nat.pow_succ, Nat.mul_comm (2 ^ D) 2, Nat.mul_assoc, Nat.mul_div_cancel_left _ (by omega)]
  rw [e]
  refine ⟨?_, ⟨k, rfl⟩⟩
  rcases k with _ | k
  · simp at h1
  · have : 1 ≤ 2 ^ D := Nat.one_le_two_pow
    exact Nat.mul_pos (by omega) (by omega)

theorem fitsB_half {W H D : Nat} (h : fitsB W H (D + 1 : Nat) = true) : fitsB (W / 2 : Nat) (H / 2 : Nat) D = true := by
  rw [fitsB_iff] at h ⊢
  obtain ⟨⟨a1, a3⟩, ⟨b1, b3⟩, a2⟩ := h
  have a := half_dvd a3 a1.1
  have b := half_dvd b3 b1.1
  exact ⟨⟨⟨a.1, by omega⟩, a.2⟩, ⟨⟨b.1, by omega⟩, b.2⟩, by omega⟩

theorem bandK_half {W H D k : Nat} (hk : k < 3 * D + 1) : bandK (W / 2) (H / 2) D k = bandK W H (D + 1) k := by
  have hl : loL k ≤ D := by unfold loL; omega
  have e : D + 1 - (loL k - 1) = (D - (loL k - 1)) + 1 := by omega
  have ed : ∀ n : Nat, n / 2 / 2 ^ (D - (loL k - 1)) = n / 2 ^ (D + 1 - (loL k - 1)) := fun n => by
    rw [e, Nat.pow_succ, Nat.mul_comm, Nat.div_div_eq_div_mul]
  simp only [bandK, bandR, ed]

def listR (W H D : Nat) : List (List AV) := (List.range (3 * D + 1)).map (bandK W H D)

theorem listR_succ (W H D : Nat) : listR W H (D + 1) = listR (W / 2) (H / 2) D ++ [bandR W H (D + 1) (D + 1) 1, bandR W H (D + 1) (D + 1) 2, bandR W H (D + 1) (D + 1) 3] := by
  rw [listR, show 3 * (D + 1) + 1 = 3 * D + 1 + 1 + 1 + 1 by omega, List.range_succ, List.range_succ, List.range_succ]
  simp only [List.map_append, List.append_assoc]
  congr 1
  · rw [listR]
    exact List.map_congr_left fun k hk => (bandK_half (by simpa using hk)).symm
  · have h1 := bandK_at W H (D + 1) D 1 (by omega)
    have h2 := bandK_at W H (D + 1) D 2 (by omega)
    have h3 := bandK_at W H (D + 1) D 3 (by omega)
    simp only [List.map_cons, List.map_nil, List.cons_append, List.nil_append]
    rw [← h1, ← h2, ← h3]

theorem half_nat (n : Nat) (h : n ≤ 2 ^ 60) : IntKind.wrap .i64 ((n : Int).tdiv 2) = ((n / 2 : Nat) : Int) := by
  rw [Int.tdiv_eq_ediv_of_nonneg (by omega), wrap_id (by omega) (by omega)]; rfl

theorem list_no (w h d : Int) (hf : fitsB w h d = false) : CallsF Try.prog 58 [iv w, iv h, iv d] [] .snil [] := by
  refine e58 ?_
  conv => whnf
  refine CallsF.call [] [] (padded09_spec w d) rfl rfl rfl rfl rfl (.inl rfl) ?_
  conv => whnf
  refine ifB_of (fun h1 => ?_) (fun h1 => ?_)
  · conv => whnf
    exact ⟨[], [], rfl, rfl, rfl⟩
  conv => whnf
  refine CallsF.call [] [] (padded09_spec h d) rfl rfl rfl rfl rfl (.inl rfl) ?_
  conv => whnf
  refine ifB_of (fun h2 => ?_) (fun h2 => ?_)
  · conv => whnf
    exact ⟨[], [], rfl, rfl, rfl⟩
  conv => whnf
  refine ifB_of (fun h3 => ?_) (fun h3 => ?_)
  · conv => whnf
    exact ⟨[], [], rfl, rfl, rfl⟩
  conv => whnf
  refine ifB_of (fun h4 => ?_) (fun h4 => ?_)
  · conv => whnf
    exact ⟨[], [], rfl, rfl, rfl⟩
  exfalso
  simp only [bne_eq_false_iff_eq, decide_eq_false_iff_not] at h1 h2 h3 h4
  simp [fitsB, h1, h2] at hf
  omega

set_option maxRecDepth 10000 in
theorem list_yes : ∀ (D W H : Nat), fitsB W H D = true → CallsF Try.prog 58 [iv W, iv H, iv D] [] (.sl 0 0 (3 * D + 1)) [some (.arr 6 (listR W H D))]
  | D, W, H, hf => by
    have hf' := hf
    simp only [fitsB, Bool.and_eq_true, decide_eq_true_eq, beq_iff_eq] at hf'
    obtain ⟨⟨⟨q1, q2⟩, q3⟩, q4⟩ := hf'
    obtain ⟨r1, r2, r3⟩ := fitsB_in hf
    refine e58 ?_
    conv => whnf
    refine CallsF.call [] [] (padded09_spec W D) rfl rfl rfl rfl rfl (.inl rfl) ?_
    conv => whnf
    refine ifB_of (fun h1 => ?_) (fun h1 => ?_)
    · exact absurd (bne_iff_ne.1 h1) (by simp [q2])
    conv => whnf
    refine CallsF.call [] [] (padded09_spec H D) rfl rfl rfl rfl rfl (.inl rfl) ?_
    conv => whnf
    refine ifB_of (fun h2 => ?_) (fun h2 => ?_)
    · exact absurd (bne_iff_ne.1 h2) (by simp [q4])
    conv => whnf
    refine ifB_of (fun h3 => ?_) (fun h3 => ?_)
    · have := of_decide_eq_true h3; omega
    conv => whnf
    refine ifB_of (fun h4 => ?_) (fun h4 => ?_)
    · have := of_decide_eq_true h4; omega
    conv => whnf
    refine ifB_of (fun h5 => ?_) (fun h5 => ?_)
    · have h5 := LawfulBEq.eq_of_beq h5
      obtain rfl : D = 0 := by omega
      conv => whnf
      have e : listR W H 0 = [[iv 0, iv 0, iv 0, iv 0, iv W, iv H]] := by simp [listR, bandK, bandR, loL, loO]
      rw [e]
      exact ⟨[0], [], rfl, rfl, rfl⟩
    conv => whnf
    have h5 : D ≠ 0 := fun e => by subst e; simp at h5
    obtain ⟨E, rfl⟩ : ∃ E, D = E + 1 := ⟨D - 1, by omega⟩
    have eD : IntKind.wrap .i64 (((E + 1 : Nat) : Int) - 1) = (E : Int) := by rw [wrap_id (by omega) (by omega)]; omega
    rw [half_nat W (by omega), half_nat H (by omega), eD]
    refine CallsF.call [] [] (list_yes E (W / 2) (H / 2) (fitsB_half hf)) rfl rfl rfl rfl rfl (.inl rfl) ?_
    conv => whnf
    rw [half_nat W (by omega), half_nat H (by omega)]
    have hl : (listR (W / 2) (H / 2) E).length = 3 * E + 1 := by simp [listR]
    refine need_of ((Bool.and_eq_true_iff.2 ⟨decide_eq_true ⟨by rw [hl, Nat.zero_add], by show (48 + 1) * (3 * E + 1 + 3) ≤ 2 ^ 46; omega⟩, rfl⟩)) ?_
    conv => whnf
    have eb : ∀ o, bandR W H (E + 1) (E + 1) o = [iv (E + 1 : Nat), iv o, iv ((if o % 2 = 1 then W / 2 else 0 : Nat) : Int), iv ((if 2 ≤ o then H / 2 else 0 : Nat) : Int), iv ((W / 2 : Nat) : Int), iv ((H / 2 : Nat) : Int)] := fun o => by
      have : E + 1 - (E + 1 - 1) = 1 := by omega
      rw [bandR, this]
    rw [listR_succ, eb, eb, eb]
    exact ⟨[2], [], rfl, rfl, rfl⟩
end Go.Proofs.TryN

