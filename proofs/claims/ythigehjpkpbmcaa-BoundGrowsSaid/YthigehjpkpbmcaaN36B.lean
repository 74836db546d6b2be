/- Layer 36: bands and motion of the document. -/
import Derived.Test.YthigehjpkpbmcaaAL27
import Derived.Test.YthigehjpkpbmcaaF36
import Derived.Test.YthigehjpkpbmcaaN36A
namespace Go.Proofs.TryN
open Go Go.AL Go.Proofs

set_option maxRecDepth 10000 in
set_option maxHeartbeats 600000 in
theorem band36_spec (f d : Int) (a b : List Int) (m : Bool) (l w h : Int) (ha : a.length = 7) (hb : b.length = 7) : CallsF Try.prog 33 [sh f d a b m, iv l, iv w, iv h] [] (iv (bandN f d a b m l w h)) [] := by
  obtain ⟨a0, a1, a2, a3, a4, a5, a6, rfl⟩ := len7 ha
  obtain ⟨b0, b1, b2, b3, b4, b5, b6, rfl⟩ := len7 hb
  have no : ¬(shapeR f d [a0, a1, a2, a3, a4, a5, a6] [b0, b1, b2, b3, b4, b5, b6] = true ∧ 0 ≤ l ∧ l ≤ d ∧ sideB w = true ∧ sideB h = true) → iv 0 = iv (bandN f d [a0, a1, a2, a3, a4, a5, a6] [b0, b1, b2, b3, b4, b5, b6] m l w h) := fun hn => by rw [bandN, if_neg hn]
  refine e33 ?_
  conv => whnf
  refine CallsF.call [] [] (shape15_spec f d _ _ m ha hb) rfl rfl rfl rfl rfl (.inl rfl) ?_
  conv => whnf
  refine ifB_of (fun h1 => ?_) (fun h1 => ?_)
  · conv => whnf
    exact ⟨[], [], rfl, no (by simp at h1; simp [h1]), rfl⟩
  conv => whnf
  refine ifB_of (fun h2 => ?_) (fun h2 => ?_)
  · conv => whnf
    exact ⟨[], [], rfl, no (by simp at h2; omega), rfl⟩
  conv => whnf
  refine ifB_of (fun h3 => ?_) (fun h3 => ?_)
  · conv => whnf
    exact ⟨[], [], rfl, no (by simp at h3; omega), rfl⟩
  conv => whnf
  refine ifB_of (fun h4 => ?_) (fun h4 => ?_)
  · conv => whnf
    exact ⟨[], [], rfl, no (by simp at h4; simp [sideB]; omega), rfl⟩
  conv => whnf
  refine ifB_of (fun h5 => ?_) (fun h5 => ?_)
  · conv => whnf
    exact ⟨[], [], rfl, no (by simp at h5; simp [sideB]; omega), rfl⟩
  conv => whnf
  refine ifB_of (fun h6 => ?_) (fun h6 => ?_)
  · conv => whnf
    exact ⟨[], [], rfl, no (by simp at h6; simp [sideB]; omega), rfl⟩
  conv => whnf
  refine ifB_of (fun h7 => ?_) (fun h7 => ?_)
  · conv => whnf
    exact ⟨[], [], rfl, no (by simp at h7; simp [sideB]; omega), rfl⟩
  conv => whnf
  have hc : shapeR f d [a0, a1, a2, a3, a4, a5, a6] [b0, b1, b2, b3, b4, b5, b6] = true ∧ 0 ≤ l ∧ l ≤ d ∧ sideB w = true ∧ sideB h = true := ⟨by simpa using h1, by simp at h2; omega, by simp at h3; omega, by simp at h4 h5; simp [sideB]; omega, by simp at h6 h7; simp [sideB]; omega⟩
  have hB : bandN f d [a0, a1, a2, a3, a4, a5, a6] [b0, b1, b2, b3, b4, b5, b6] m l w h = 82 * w * h + (if m then 83 else 1) * ([a0, a1, a2, a3, a4, a5, a6].getD l.toNat 0 * [b0, b1, b2, b3, b4, b5, b6].getD l.toNat 0) := by rw [bandN, if_pos hc]
  obtain ⟨c1, c2, c3, c4, c5⟩ := hc
  obtain ⟨_, g2, g3⟩ := shapeR_in c1
  obtain ⟨g4, g5⟩ := g3 l.toNat (by omega)
  simp only [sideB, Bool.and_eq_true, decide_eq_true_eq] at c4 c5
  obtain ⟨t1, t2⟩ := band_terms c4 c5 g4 g5
  obtain ⟨q, rfl⟩ : ∃ q : Nat, l = q := ⟨l.toNat, by omega⟩
  have hq : q = 0 ∨ q = 1 ∨ q = 2 ∨ q = 3 ∨ q = 4 ∨ q = 5 ∨ q = 6 := by omega
  have ew : IntKind.wrap .i64 (IntKind.wrap .i64 (82 * w) * h) = 82 * (w * h) := by
    rw [wrap_id (n := 82 * w) (by omega) (by omega), Int.mul_assoc, wrap_id (by omega) (by omega)]
  have fin : ∀ x y : Int, x = [a0, a1, a2, a3, a4, a5, a6].getD (q : Int).toNat 0 → y = [b0, b1, b2, b3, b4, b5, b6].getD (q : Int).toNat 0 →
      IntKind.wrap .i64 (x * y) = x * y ∧ IntKind.wrap .i64 (82 * (w * h) + x * y) = 82 * (w * h) + x * y ∧ IntKind.wrap .i64 (IntKind.wrap .i64 (82 * x) * y) = 82 * (x * y) ∧ IntKind.wrap .i64 (82 * (w * h) + x * y + 82 * (x * y)) = 82 * (w * h) + x * y + 82 * (x * y) ∧
      82 * w * h + (if m then 83 else 1) * (x * y) = (if m then 82 * (w * h) + x * y + 82 * (x * y) else 82 * (w * h) + x * y) := by
    rintro x y rfl rfl
    have e1 : 82 * w * h = 82 * (w * h) := by rw [Int.mul_assoc]
    refine ⟨wrap_id (by omega) (by omega), wrap_id (by omega) (by omega), ?_, wrap_id (by omega) (by omega), ?_⟩
    · rw [wrap_id (n := 82 * _) (by omega) (by omega), Int.mul_assoc, wrap_id (by omega) (by omega)]
    · rw [e1]; cases m <;> simp <;> omega
  cases m
  case false =>
    rcases hq with rfl | rfl | rfl | rfl | rfl | rfl | rfl <;>
    (obtain ⟨q1, q2, q3, q4, q5⟩ := fin _ _ rfl rfl
     rw [hB, q5]
     conv => whnf
     refine need_of rfl ?_
     conv => whnf
     refine need_of rfl ?_
     conv => whnf
     refine ⟨[], [], rfl, congrArg iv (Eq.trans (b := IntKind.wrap .i64 (IntKind.wrap .i64 (IntKind.wrap .i64 (82 * w) * h) + IntKind.wrap .i64 (_ * _))) rfl ?_), rfl⟩
     rw [ew]; exact Eq.trans (congrArg (fun z => IntKind.wrap .i64 (82 * (w * h) + z)) q1) q2)
  case true =>
    rcases hq with rfl | rfl | rfl | rfl | rfl | rfl | rfl <;>
    (obtain ⟨q1, q2, q3, q4, q5⟩ := fin _ _ rfl rfl
     rw [hB, q5]
     conv => whnf
     refine need_of rfl ?_
     conv => whnf
     refine need_of rfl ?_
     conv => whnf
     refine need_of rfl ?_
     conv => whnf
     refine need_of rfl ?_
     conv => whnf
     refine ⟨[], [], rfl, congrArg iv (Eq.trans (b := IntKind.wrap .i64 (IntKind.wrap .i64 (IntKind.wrap .i64 (IntKind.wrap .i64 (82 * w) * h) + IntKind.wrap .i64 (_ * _)) + IntKind.wrap .i64 (IntKind.wrap .i64 (82 * _) * _))) rfl ?_), rfl⟩
     rw [ew]; exact Eq.trans (congrArg (fun z => IntKind.wrap .i64 (IntKind.wrap .i64 (82 * (w * h) + z) + _)) q1) (Eq.trans (congrArg (fun z => IntKind.wrap .i64 (_ + z)) q3) (Eq.trans (congrArg (fun z => IntKind.wrap .i64 (z + _)) q2) q4)))

def motionN (n : Int) : Int := if n < 0 then 0 else 8 + coderN (5301 * (if 4096 < n then 4096 else n))

theorem motion_spec (n : Int) : CallsF Try.prog 36 [iv n] [] (iv (motionN n)) [] := by
  refine e36 ?_
  conv => whnf
  refine ifB_of (fun h1 => ?_) (fun h1 => ?_)
  · conv => whnf
    exact ⟨[], [], rfl, congrArg iv (by rw [motionN, if_pos (of_decide_eq_true h1)]), rfl⟩
  conv => whnf
  have h1 := of_decide_eq_false h1
  have e : IntKind.wrap .i64 (5301 * (if 4096 < n then 4096 else n)) = 5301 * (if 4096 < n then 4096 else n) := wrap_id (by split <;> omega) (by split <;> omega)
  have hc := coderN_in (5301 * (if 4096 < n then 4096 else n))
  refine CallsF.call [] [] (coder_spec _) rfl rfl rfl rfl rfl (.inl rfl) ?_
  conv => whnf
  refine ⟨[], [], rfl, congrArg iv ?_, rfl⟩
  show IntKind.wrap .i64 (8 + coderN (IntKind.wrap .i64 (5301 * (if 4096 < n then 4096 else n)))) = _
  rw [e, wrap_id (by omega) (by omega), motionN, if_neg h1]

theorem motion36_spec (n : Int) : CallsF Try.prog 37 [iv n] [] (iv (motionN n)) [] := by
  have fin : ∀ m : Int, 0 ≤ m → m ≤ 4096 → IntKind.wrap .i64 (5301 * m) = 5301 * m ∧ IntKind.wrap .i64 (8 + coderN (5301 * m)) = 8 + coderN (5301 * m) := fun m h0 h1 => by
    have := coderN_in (5301 * m)
    exact ⟨wrap_id (by omega) (by omega), wrap_id (by omega) (by omega)⟩
  refine e37 ?_
  conv => whnf
  refine ifB_of (fun h1 => ?_) (fun h1 => ?_)
  · conv => whnf
    exact ⟨[], [], rfl, congrArg iv (by rw [motionN, if_pos (of_decide_eq_true h1)]), rfl⟩
  conv => whnf
  have h1 := of_decide_eq_false h1
  refine ifB_of (fun h2 => ?_) (fun h2 => ?_)
  · have h2 := of_decide_eq_true h2
    obtain ⟨f1, f2⟩ := fin 4096 (by omega) (by omega)
    conv => whnf
    refine CallsF.call [] [] (coder36_spec _) rfl rfl rfl rfl rfl (.inl rfl) ?_
    conv => whnf
    exact ⟨[], [], rfl, congrArg iv (by rw [motionN, if_neg h1, if_pos h2, f1, f2]), rfl⟩
  · have h2 := of_decide_eq_false h2
    obtain ⟨f1, f2⟩ := fin n (by omega) (by omega)
    conv => whnf
    refine CallsF.call [] [] (coder36_spec _) rfl rfl rfl rfl rfl (.inl rfl) ?_
    conv => whnf
    exact ⟨[], [], rfl, congrArg iv (by rw [motionN, if_neg h1, if_neg h2, f1, f2]), rfl⟩
end Go.Proofs.TryN

