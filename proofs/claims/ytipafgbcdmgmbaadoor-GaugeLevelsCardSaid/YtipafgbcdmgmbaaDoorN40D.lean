/- Layer 40: the histograms: what each function answers, as contracts. -/
import Derived.Test.YtipafgbcdmgmbaaDoorN40C
namespace Go.Proofs.TrydN
open Go Go.AL Go.Proofs

theorem clamp_spec (n m : Int) (hm : 0 ≤ m) : CallsF Tryd.prog 25 [iv n, iv m] [] (iv (max 0 (min n m))) [] := by
  have e : max 0 (min n m) = if m < (if 0 > n then 0 else n) then m else (if 0 > n then 0 else n) := by (repeat' split) <;> omega
  refine e25 ?_
  conv => whnf
  exact ⟨[], [], rfl, by rw [e]; rfl, rfl⟩

theorem near_spec (n m : Int) (hm : 0 ≤ m) : CallsF Tryd.prog 26 [iv n, iv m] [] (iv (max 0 (min n m))) [] := by
  refine e26 ?_
  conv => whnf
  iterate 2 (all_goals (try (refine ifB_of (fun _ => ?_) (fun _ => ?_))); all_goals (conv => whnf))
  all_goals (refine ⟨[], [], rfl, congrArg iv ?_, rfl⟩; simp only [decide_eq_true_eq, decide_eq_false_iff_not] at *; omega)

/-- Whether there is a histogram. -/
def histB (w h : Int) (v : List Int) (b m : Int) : Bool := right w h v && (decide (1 ≤ b) && decide (b ≤ 256)) && (decide (1 ≤ m) && decide (m ≤ 65535))
def histL (w h : Int) (v : List Int) (b m : Int) : List Int := if histB w h v b m = true then hist b m v v.length else []

theorem histB_in {w h : Int} {v : List Int} {b m : Int} (hb : histB w h v b m = true) : right w h v = true ∧ (1 ≤ b ∧ b ≤ 256) ∧ (1 ≤ m ∧ m ≤ 65535) ∧ v.length ≤ 1048576 := by
  simp only [histB, Bool.and_eq_true, decide_eq_true_eq] at hb
  obtain ⟨⟨h1, h2⟩, h3⟩ := hb
  obtain ⟨a1, a2, a3, a4⟩ := right_in h1
  have b3 : w * h ≤ 1024 * 1024 := Int.mul_le_mul (by omega) (by omega) (by omega) (by omega)
  exact ⟨h1, h2, h3, by omega⟩

theorem bin_wrap {b m : Int} (hb : 1 ≤ b ∧ b ≤ 256) (hm : 1 ≤ m ∧ m ≤ 65535) (v : Int) :
    IntKind.wrap .i64 ((IntKind.wrap .i64 (max 0 (min v m) * b)).tdiv (IntKind.wrap .i64 (m + 1))) = binOf b m v := by
  have hi := binOf_in hb.1 hm.1 v
  unfold binOf at hi ⊢
  have h0 : 0 ≤ max 0 (min v m) := by omega
  have h1 : max 0 (min v m) ≤ m := by omega
  generalize max 0 (min v m) = x at *
  have e0 : 0 ≤ x * b := Int.mul_nonneg h0 (by omega)
  have e1 : x * b ≤ 65535 * 256 := Int.mul_le_mul (by omega) hb.2 (by omega) (by omega)
  rw [wrap_id (n := x * b) (by omega) (by omega), wrap_id (n := m + 1) (by omega) (by omega), wrap_id (by omega) (by omega)]

set_option maxRecDepth 10000 in
theorem hist_spec (w h : Int) (v : List Int) (b m : Int) : CallsF Tryd.prog 14 [pl w h v, iv b, iv m] [] (.ri .i64 (histL w h v b m)) [] := by
  refine CallsF.le ?_
  cases hB : histB w h v b m
  · have e : histL w h v b m = [] := by rw [histL, hB]; rfl
    rw [e]
    refine e14 ?_
    conv => whnf
    refine CallsF.call [] [] (right_spec w h v) rfl rfl rfl rfl rfl (.inl rfl) ?_
    conv => whnf
    cases h1 : right w h v
    · conv => whnf
      exact ⟨[], [], rfl, .snil .i64, rfl⟩
    rw [histB, h1] at hB
    simp only [Bool.true_and, Bool.and_eq_false_iff, decide_eq_false_iff_not] at hB
    conv => whnf
    refine ifB_of (fun g1 => ?_) (fun g1 => ?_)
    · conv => whnf
      exact ⟨[], [], rfl, .snil .i64, rfl⟩
    conv => whnf
    refine ifB_of (fun g2 => ?_) (fun g2 => ?_)
    · conv => whnf
      exact ⟨[], [], rfl, .snil .i64, rfl⟩
    conv => whnf
    refine ifB_of (fun g3 => ?_) (fun g3 => ?_)
    · conv => whnf
      exact ⟨[], [], rfl, .snil .i64, rfl⟩
    conv => whnf
    refine ifB_of (fun g4 => ?_) (fun g4 => ?_)
    · conv => whnf
      exact ⟨[], [], rfl, .snil .i64, rfl⟩
    conv => whnf
    exfalso
    simp only [decide_eq_false_iff_not] at g1 g2 g3 g4
    omega
  · obtain ⟨h1, hb, hm, hN⟩ := histB_in hB
    have e : histL w h v b m = hist b m v v.length := by rw [histL, hB]; rfl
    rw [e]
    refine e14 ?_
    conv => whnf
    refine CallsF.call [] [] (right_spec w h v) rfl rfl rfl rfl rfl (.inl rfl) ?_
    conv => whnf
    rw [h1]
    conv => whnf
    refine ifB_of (fun h => absurd h (by simp; omega)) (fun _ => ?_)
    conv => whnf
    refine ifB_of (fun h => absurd h (by simp; omega)) (fun _ => ?_)
    conv => whnf
    refine ifB_of (fun h => absurd h (by simp; omega)) (fun _ => ?_)
    conv => whnf
    refine ifB_of (fun h => absurd h (by simp; omega)) (fun _ => ?_)
    conv => whnf
    refine need_of ((decide_eq_true ⟨by omega, rfl, by have : ((8 : Nat) : Int) = 8 := rfl; omega⟩)) ?_
    conv => whnf
    rw [← hist_zero b m v]
    refine LoopA.inv (fun n st => ∃ i : Nat, n + i = v.length ∧ st = ⟨[(1, iv b), (2, iv m), (3, .bp 0 0), (7, .sl 1 0 b.toNat), (32, .ri .i64 v), (33, iv (v.length : Nat)), (34, iv i)], [some (.box [iv w, iv h, .ri .i64 v]), some (.ia .i64 (hist b m v i))], 2, 0⟩) v.length [1, 2, 3, 7, 32, 33, 34] [0, 1] [] (by rfl) ?_ ?_
    · conv => whnf
      exact ⟨0, rfl, rfl⟩
    rintro n st ⟨i, hn, rfl⟩
    conv => whnf
    refine ifB_of (fun h5 => ?_) (fun h5 => ?_)
    · have h5 : i < v.length := by have := of_decide_eq_true h5; omega
      have e1 := inc_nat (n := i) (by omega)
      have hq := binOf_in hb.1 hm.1 (v.getD i 0)
      have hw := bin_wrap hb hm (v.getD i 0)
      have hs := hist_succ hb.1 hm.1 h5
      have hg := hist_get (b := b) (m := m) (v := v) (n := i) (k := (binOf b m (v.getD i 0)).toNat) (by omega)
      have hc := cnt_le b m v (binOf b m (v.getD i 0)).toNat i
      conv => whnf
      refine need_of ((decide_eq_true ⟨Int.natCast_nonneg i, by omega⟩)) ?_
      conv => whnf
      refine CallsF.call [] [] (clamp_spec (v.getD i 0) m (by omega)) rfl rfl rfl rfl rfl (.inl rfl) ?_
      conv => whnf
      refine need_of (decide_eq_true (by rw [wrap_id (by omega) (by omega)]; omega)) ?_
      rw [hw]
      clear hw
      have hl := hist_len b m v i
      generalize binOf b m (v.getD i 0) = q at *
      obtain ⟨Q, rfl⟩ : ∃ Q : Nat, q = Q := ⟨q.toNat, by omega⟩
      rw [Int.toNat_natCast] at hs hg hc
      generalize cnt b m v Q i = C at *
      obtain ⟨xs, hx⟩ : ∃ xs, hist b m v i = xs := ⟨_, rfl⟩
      rw [hx] at hs hg hl ⊢
      conv => whnf
      refine need_of ((decide_eq_true ⟨Int.natCast_nonneg Q, by omega⟩)) ?_
      conv => whnf
      rw [Int.toNat_natCast, Nat.zero_add]
      refine need_of (decide_eq_true (by omega)) ?_
      rw [show xs.getD Q 0 = (C : Int) by rw [List.getD_eq_getElem?_getD, hg]; rfl]
      conv => whnf
      refine need_of ((decide_eq_true ⟨Int.natCast_nonneg Q, by omega⟩)) ?_
      conv => whnf
      rw [Int.toNat_natCast, Nat.zero_add]
      refine need_of ((decide_eq_true (by omega))) ?_
      conv => whnf
      refine ⟨(v.length - (i + 1)), [1, 2, 3, 7, 32, 33, 34], [0, 1], [], by omega, rfl, ?_⟩
      conv => whnf
      refine ⟨i + 1, by omega, ?_⟩
      rw [e1, hs, wrap_id (n := (C : Int) + 1) (by omega) (by omega)]
    · have h5 : ¬i < v.length := by have := of_decide_eq_false h5; omega
      obtain rfl : i = v.length := by omega
      conv => whnf
      have ht : (hist b m v v.length).take b.toNat = hist b m v v.length := List.take_of_length_le (by rw [hist_len]; omega)
      refine ⟨[], [1], rfl, AV.le.of_eq ?_, rfl⟩
      show AV.ri .i64 (List.take b.toNat (List.drop 0 (hist b m v v.length))) = _
      rw [List.drop_zero, ht]

end Go.Proofs.TrydN

