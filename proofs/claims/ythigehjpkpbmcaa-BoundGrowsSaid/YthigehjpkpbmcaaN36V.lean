/- Layer 36: BoundGrows. -/
import Derived.Test.YthigehjpkpbmcaaAL29
import Derived.Test.YthigehjpkpbmcaaF36
import Derived.Test.YthigehjpkpbmcaaN36R
namespace Go.Proofs.TryN
open Go Go.AL Go.Proofs

theorem coderN_mono {n m : Int} (h : n ≤ m) : coderN n ≤ coderN m := by
  have : clamp40 n ≤ clamp40 m := by unfold clamp40; split <;> split <;> (try split) <;> (try split) <;> omega
  unfold coderN; omega

theorem bandN_mono (f d : Int) (a b : List Int) (m : Bool) (l h : Int) {w w' : Int} (hw : w ≤ w') (h2 : w' ≤ 1024) : bandN f d a b m l w h ≤ bandN f d a b m l w' h := by
  by_cases hc : shapeR f d a b = true ∧ 0 ≤ l ∧ l ≤ d ∧ sideB w = true ∧ sideB h = true
  · have c4 := hc.2.2.2.1
    have c5 := hc.2.2.2.2
    simp only [sideB, Bool.and_eq_true, decide_eq_true_eq] at c4 c5
    have hc' : shapeR f d a b = true ∧ 0 ≤ l ∧ l ≤ d ∧ sideB w' = true ∧ sideB h = true := ⟨hc.1, hc.2.1, hc.2.2.1, by simp only [sideB, Bool.and_eq_true, decide_eq_true_eq]; omega, hc.2.2.2.2⟩
    rw [bandN, if_pos hc, bandN, if_pos hc']
    have : 82 * w * h ≤ 82 * w' * h := Int.mul_le_mul_of_nonneg_right (by omega) (by omega)
    omega
  · rw [bandN, if_neg hc]; exact (bandN_in ..).1

theorem compT_mono (f d : Int) (a b : List Int) (m : Bool) (h D k : Nat) {W W' : Nat} (hw : W ≤ W') (h2 : W' ≤ 1024) : compT f d a b m W h D k ≤ compT f d a b m W' h D k := by
  have e : W / 2 ^ (D - (loL k - 1)) ≤ W' / 2 ^ (D - (loL k - 1)) := Nat.div_le_div_right hw
  have e2 : W' / 2 ^ (D - (loL k - 1)) ≤ W' := Nat.div_le_self _ _
  have := coderN_mono (bandN_mono f d a b m (loL k) ((h / 2 ^ (D - (loL k - 1)) : Nat) : Int) (w := ((W / 2 ^ (D - (loL k - 1)) : Nat) : Int)) (w' := ((W' / 2 ^ (D - (loL k - 1)) : Nat) : Int)) (by omega) (by omega))
  unfold compT; omega

theorem sumT_mono (f d : Int) (a b : List Int) (m : Bool) (h D : Nat) {W W' : Nat} (hw : W ≤ W') (h2 : W' ≤ 1024) : ∀ k : Nat, sumT f d a b m W h D k ≤ sumT f d a b m W' h D k
  | 0 => Int.le_refl _
  | k + 1 => by
    have h1 := sumT_mono f d a b m h D hw h2 k
    have h2 := compT_mono f d a b m h D k hw h2
    rw [sumT, sumT]; omega

theorem four {d : Int} (h : 0 ≤ d ∧ d ≤ 3) : d = 0 ∨ d = 1 ∨ d = 2 ∨ d = 3 := by omega

theorem padN_low {n d : Int} (hn : 1 ≤ n ∧ n ≤ 257) (hd : 0 ≤ d ∧ d ≤ 3) : (n ≤ padN n d ∧ padN n d ≤ 264) ∧ padN (padN n d) d = padN n d := by
  have hk := padN.eq_1 n d
  rw [if_pos (by omega)] at hk
  have hk2 := padN.eq_1 (padN n d) d
  generalize padN n d = k at *
  rcases four hd with rfl | rfl | rfl | rfl
  all_goals
    simp only [Int.toNat_zero, Int.pow_zero, Int.reduceToNat, Int.reducePow, Int.reduceSub] at hk hk2
    refine ⟨by omega, ?_⟩
    rw [if_pos (by omega)] at hk2
    omega

theorem padN_grow {n d : Int} (hn : 1 ≤ n ∧ n ≤ 256) (hd : 0 ≤ d ∧ d ≤ 3) : padN n d ≤ padN (n + 1) d := by
  rcases four hd with rfl | rfl | rfl | rfl
  all_goals
    rw [padN, if_pos (by omega), padN, if_pos (by omega)]
    simp only [Int.toNat_zero, Int.pow_zero, Int.reduceToNat, Int.reducePow, Int.reduceSub]
    omega

theorem fitsB_low {w h d : Int} (hw : 1 ≤ w ∧ w ≤ 257) (hh : 1 ≤ h ∧ h ≤ 257) (hd : 0 ≤ d ∧ d ≤ 3) : fitsB (padN w d) (padN h d) d = true := by
  have a := padN_low hw hd
  have b := padN_low hh hd
  have h1 : 0 < padN w d := by omega
  have h2 : 0 < padN h d := by omega
  simp [fitsB, a.2, b.2, h1, h2]

theorem compN_mono (f d : Int) (a b : List Int) (m : Bool) {w h : Int} (hw : 1 ≤ w ∧ w ≤ 256) (hh : 1 ≤ h ∧ h ≤ 256) (hd : 0 ≤ d ∧ d ≤ 3) : compN f d a b m w h ≤ compN f d a b m (w + 1) h := by
  by_cases hc : shapeR f d a b = true
  · rw [compN, if_pos ⟨hc, fitsB_low (by omega) (by omega) hd⟩, compN, if_pos ⟨hc, fitsB_low (by omega) (by omega) hd⟩]
    have := padN_grow hw hd
    have := (padN_low (n := w + 1) (d := d) (by omega) hd).1
    exact sumT_mono f d a b m _ _ (by omega) (by omega) _
  · rw [compN, if_neg (fun h => hc h.1), compN, if_neg (fun h => hc h.1)]; omega

theorem motionN_mono {n : Int} (h : 0 ≤ n) : motionN n ≤ motionN (n + 1) := by
  have := coderN_mono (n := 5301 * (if 4096 < n then 4096 else n)) (m := 5301 * (if 4096 < n + 1 then 4096 else n + 1)) (by split <;> split <;> omega)
  rw [motionN, motionN, if_neg (show ¬ n < 0 by omega), if_neg (show ¬ n + 1 < 0 by omega)]
  omega

theorem coderN_eight {n : Int} (h0 : 0 ≤ n) (h : n ≤ 65535) : 9 * n ≤ 8 * coderN n := by
  unfold coderN clamp40; rw [if_neg (by omega), if_neg (by omega)]; omega

set_option maxRecDepth 10000 in
theorem BoundGrows_spec (f d : Int) (a b : List Int) (m : Bool) (x y z n : Int) (ha : a.length = 7) (hb : b.length = 7) (hx : 0 ≤ x ∧ x ≤ 255) (hy : 0 ≤ y ∧ y ≤ 255) (hz : 0 ≤ z ∧ z ≤ 255) (hn : 0 ≤ n ∧ n ≤ 65535) :
    CallsA Try.prog 9 [sh f d a b m, .agg [.int .u8 x, .int .u8 y, .int .u8 z], .int .u16 n] [] (fun r _ => r = .bool true) := by
  obtain ⟨a0, a1, a2, a3, a4, a5, a6, rfl⟩ := len7 ha
  obtain ⟨b0, b1, b2, b3, b4, b5, b6, rfl⟩ := len7 hb
  refine e9 ?_
  conv => whnf
  refine CallsF.call [] [] first36_spec rfl rfl rfl rfl rfl (.inl rfl) ?_
  conv => whnf
  refine need_of ((by rfl)) ?_
  conv => whnf
  obtain ⟨D, hD, hd⟩ : ∃ D, IntKind.wrap .i64 (x.tmod 4) = D ∧ 0 ≤ D ∧ D ≤ 3 := by
    refine ⟨_, rfl, ?_⟩
    have : 0 ≤ x.tmod 4 ∧ x.tmod 4 ≤ 3 := by rw [Int.tmod_eq_emod_of_nonneg hx.1]; omega
    rw [wrap_id (by omega) (by omega)]; exact this
  obtain ⟨Y, hY, hy'⟩ : ∃ Y, IntKind.wrap .i64 (1 + IntKind.wrap .i64 y) = Y ∧ 1 ≤ Y ∧ Y ≤ 256 := by
    refine ⟨_, rfl, ?_⟩
    rw [wrap_id (n := y) (by omega) (by omega), wrap_id (by omega) (by omega)]; omega
  obtain ⟨Z, hZ, hz'⟩ : ∃ Z, IntKind.wrap .i64 (1 + IntKind.wrap .i64 z) = Z ∧ 1 ≤ Z ∧ Z ≤ 256 := by
    refine ⟨_, rfl, ?_⟩
    rw [wrap_id (n := z) (by omega) (by omega), wrap_id (by omega) (by omega)]; omega
  have hY1 : IntKind.wrap .i64 (Y + 1) = Y + 1 := wrap_id (by omega) (by omega)
  have hN : IntKind.wrap .i64 n = n := wrap_id (by omega) (by omega)
  have hN1 : IntKind.wrap .i64 (n + 1) = n + 1 := wrap_id (by omega) (by omega)
  rw [hD]
  refine CallsF.call [] [] (one_spec f D) rfl rfl rfl rfl rfl (.inl rfl) ?_
  conv => whnf
  rw [hY, hZ]
  conv => whnf
  refine CallsF.call [] [] (comp_spec f D ones ones false Y Z rfl rfl) rfl rfl rfl rfl rfl (.inl rfl) ?_
  conv => whnf
  refine ⟨⟨_, rfl⟩, ?_⟩
  conv => whnf
  rw [hY1]
  refine CallsF.call [] [] (comp_spec f D ones ones false (Y + 1) Z rfl rfl) rfl rfl rfl rfl rfl (.inl rfl) ?_
  conv => whnf
  rw [hN]
  rw [decide_eq_true (compN_mono f D ones ones false hy' hz' hd)]
  conv => whnf
  refine CallsF.call [] [] (band_spec f D ones ones false 0 Y Z rfl rfl) rfl rfl rfl rfl rfl (.inl rfl) ?_
  conv => whnf
  refine ⟨⟨_, rfl⟩, ?_⟩
  conv => whnf
  rw [hY1]
  refine CallsF.call [] [] (band_spec f D ones ones false 0 (Y + 1) Z rfl rfl) rfl rfl rfl rfl rfl (.inl rfl) ?_
  conv => whnf
  rw [decide_eq_true (bandN_mono f D ones ones false 0 Z (w := Y) (w' := Y + 1) (by omega) (by omega))]
  conv => whnf
  refine CallsF.call [] [] (coder_spec n) rfl rfl rfl rfl rfl (.inl rfl) ?_
  conv => whnf
  rw [hN1]
  refine CallsF.call [] [] (coder_spec (n + 1)) rfl rfl rfl rfl rfl (.inl rfl) ?_
  conv => whnf
  rw [decide_eq_true (coderN_mono (n := n) (m := n + 1) (by omega))]
  conv => whnf
  refine CallsF.call [] [] (motion_spec n) rfl rfl rfl rfl rfl (.inl rfl) ?_
  conv => whnf
  rw [hN1]
  refine CallsF.call [] [] (motion_spec (n + 1)) rfl rfl rfl rfl rfl (.inl rfl) ?_
  conv => whnf
  rw [decide_eq_true (motionN_mono hn.1)]
  conv => whnf
  refine CallsF.call [] [] (coder_spec n) rfl rfl rfl rfl rfl (.inl rfl) ?_
  conv => whnf
  have hc := coderN_in n
  have h8 := coderN_eight hn.1 hn.2
  rw [wrap_id (n := 8 * coderN n) (by omega) (by omega), wrap_id (n := 9 * n) (by omega) (by omega)]
  exact ⟨[], [], rfl, congrArg AV.bool (decide_eq_true h8)⟩
end Go.Proofs.TryN

