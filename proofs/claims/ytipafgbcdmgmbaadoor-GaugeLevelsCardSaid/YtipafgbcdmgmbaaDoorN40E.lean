/- Layer 40: the document's histogram. -/
import Derived.Test.YtipafgbcdmgmbaaDoorN40D
namespace Go.Proofs.TrydN
open Go Go.AL Go.Proofs

def pre (b m : Int) (v : List Int) (k : Nat) : List Int := (List.range k).map fun j => (cnt b m v j v.length : Int)
theorem pre_len (b m : Int) (v : List Int) (k : Nat) : (pre b m v k).length = k := by simp [pre]

set_option maxHeartbeats 4000000 in
set_option maxRecDepth 10000 in
theorem rhist_spec (w h : Int) (v : List Int) (b m : Int) : CallsF Tryd.prog 15 [pl w h v, iv b, iv m] [] (.ri .i64 (histL w h v b m)) [] := by
  refine CallsF.le ?_
  cases hB : histB w h v b m
  · have e : histL w h v b m = [] := by rw [histL, hB]; rfl
    rw [e]
    refine e15 ?_
    conv => whnf
    refine CallsF.call [] [] (right7_spec w h v) rfl rfl rfl rfl rfl (.inl rfl) ?_
    conv => whnf
    cases h1 : right w h v
    · conv => whnf
      exact ⟨[], [], rfl, .snil .i64, rfl⟩
    rw [histB, h1] at hB
    simp only [Bool.true_and, Bool.and_eq_false_iff, decide_eq_false_iff_not] at hB
    conv => whnf
    refine ifB_of (fun g1 => ?_) (fun g1 => ?_)
    · conv => whnf
      exact ⟨[], [], rfl, .snil .i64, rfl⟩
    conv => whnf
    refine ifB_of (fun g2 => ?_) (fun g2 => ?_)
    · conv => whnf
      exact ⟨[], [], rfl, .snil .i64, rfl⟩
    conv => whnf
    refine ifB_of (fun g3 => ?_) (fun g3 => ?_)
    · conv => whnf
      exact ⟨[], [], rfl, .snil .i64, rfl⟩
    conv => whnf
    refine ifB_of (fun g4 => ?_) (fun g4 => ?_)
    · conv => whnf
      exact ⟨[], [], rfl, .snil .i64, rfl⟩
    conv => whnf
    exfalso
    simp only [decide_eq_false_iff_not] at g1 g2 g3 g4
    omega
  · obtain ⟨h1, hb, hm, hN⟩ := histB_in hB
    have e : histL w h v b m = pre b m v b.toNat := by rw [histL, hB]; rfl
    rw [e]
    refine e15 ?_
    conv => whnf
    refine CallsF.call [] [] (right7_spec w h v) rfl rfl rfl rfl rfl (.inl rfl) ?_
    conv => whnf
    rw [h1]
    conv => whnf
    refine ifB_of (fun h => absurd h (by simp; omega)) (fun _ => ?_)
    conv => whnf
    refine ifB_of (fun h => absurd h (by simp; omega)) (fun _ => ?_)
    conv => whnf
    refine ifB_of (fun h => absurd h (by simp; omega)) (fun _ => ?_)
    conv => whnf
    refine ifB_of (fun h => absurd h (by simp; omega)) (fun _ => ?_)
    conv => whnf
    refine LoopA.inv (fun n st => ∃ k : Nat, n + k = b.toNat ∧ ((k = 0 ∧ st = ⟨[(1, iv b), (2, iv m), (3, .bp 0 0), (7, .snil), (8, iv k)], [some (.box [iv w, iv h, .ri .i64 v])], 1, 0⟩) ∨ (0 < k ∧ st = ⟨[(1, iv b), (2, iv m), (3, .bp 0 0), (7, .sl 1 0 k), (8, iv k)], [some (.box [iv w, iv h, .ri .i64 v]), some (.ia .i64 (pre b m v k))], 2, 0⟩))) b.toNat [1, 2, 3, 7, 8] [0] [] (by rfl) ?_ ?_
    · conv => whnf
      exact ⟨0, rfl, .inl ⟨rfl, rfl⟩⟩
    rintro n st ⟨k, hn, ⟨hk, rfl⟩ | ⟨hk, rfl⟩⟩
    · conv => whnf
      refine ifB_of (fun h4 => ?_) (fun h4 => ?_)
      · have h4 : k < b.toNat := by have := of_decide_eq_true h4; omega
        conv => whnf
        refine LoopA.inv (fun n st => ∃ i : Nat, n + i = v.length ∧ st = ⟨[(1, iv b), (2, iv m), (3, .bp 0 0), (7, .snil), (8, iv k), (9, iv (cnt b m v k i)), (37, .ri .i64 v), (38, iv (v.length : Nat)), (39, iv i)], [some (.box [iv w, iv h, .ri .i64 v])], 1, 0⟩) v.length [1, 2, 3, 7, 8, 9, 37, 38, 39] [0] [] (by rfl) ?_ ?_
        · conv => whnf
          exact ⟨0, rfl, rfl⟩
        rintro n2 st ⟨i, hn2, rfl⟩
        conv => whnf
        refine ifB_of (fun h5 => ?_) (fun h5 => ?_)
        · have h5 : i < v.length := by have := of_decide_eq_true h5; omega
          have e2 := inc_nat (n := i) (by omega)
          have hw := bin_wrap hb hm (v.getD i 0)
          have hc := cnt_succ (b := b) (m := m) (k := k) h5
          have hcl := cnt_le b m v k i
          conv => whnf
          refine need_of ((decide_eq_true ⟨Int.natCast_nonneg i, by omega⟩)) ?_
          conv => whnf
          refine CallsF.call [] [] (near_spec (v.getD i 0) m (by omega)) rfl rfl rfl rfl rfl (.inl rfl) ?_
          conv => whnf
          refine need_of (decide_eq_true (by rw [wrap_id (by omega) (by omega)]; omega)) ?_
          rw [hw]
          clear hw
          generalize binOf b m (v.getD i 0) = q at *
          obtain ⟨C, hC⟩ : ∃ C, cnt b m v k i = C := ⟨_, rfl⟩
          rw [hC] at hc hcl ⊢
          conv => whnf
          cases hq : (q == (k : Int))
          · rw [hq] at hc
            conv => whnf
            refine ⟨(v.length - (i + 1)), [1, 2, 3, 7, 8, 9, 37, 38, 39], [0], [], by omega, rfl, ?_⟩
            conv => whnf
            refine ⟨i + 1, by omega, ?_⟩
            rw [e2, hc]; rfl
          · rw [hq] at hc
            conv => whnf
            refine ⟨(v.length - (i + 1)), [1, 2, 3, 7, 8, 9, 37, 38, 39], [0], [], by omega, rfl, ?_⟩
            conv => whnf
            refine ⟨i + 1, by omega, ?_⟩
            rw [e2, hc, inc_nat (by omega)]; rfl
        · have h5 : ¬i < v.length := by have := of_decide_eq_false h5; omega
          obtain rfl : i = v.length := by omega
          obtain ⟨C, hC⟩ : ∃ C, cnt b m v k v.length = C := ⟨_, rfl⟩
          have hp : pre b m v (k + 1) = pre b m v k ++ [(C : Int)] := by rw [pre, List.range_succ, List.map_append, ← hC]; rfl
          rw [hC]
          conv => whnf
          refine ⟨(b.toNat - (k + 1)), [1, 2, 3, 7, 8], [0, 2], [], by omega, rfl, ?_⟩
          conv => whnf
          refine ⟨k + 1, by omega, .inr ⟨by omega, ?_⟩⟩
          rw [inc_nat (by omega), hp]
          rw [show k = 0 by omega]; rfl
      · have h4 : ¬(k : Int) < b := of_decide_eq_false h4
        exfalso
        omega
    · conv => whnf
      refine ifB_of (fun h4 => ?_) (fun h4 => ?_)
      · have h4 : k < b.toNat := by have := of_decide_eq_true h4; omega
        conv => whnf
        refine LoopA.inv (fun n st => ∃ i : Nat, n + i = v.length ∧ st = ⟨[(1, iv b), (2, iv m), (3, .bp 0 0), (7, .sl 1 0 k), (8, iv k), (9, iv (cnt b m v k i)), (37, .ri .i64 v), (38, iv (v.length : Nat)), (39, iv i)], [some (.box [iv w, iv h, .ri .i64 v]), some (.ia .i64 (pre b m v k))], 2, 0⟩) v.length [1, 2, 3, 7, 8, 9, 37, 38, 39] [0, 1] [] (by rfl) ?_ ?_
        · conv => whnf
          exact ⟨0, rfl, rfl⟩
        rintro n2 st ⟨i, hn2, rfl⟩
        conv => whnf
        refine ifB_of (fun h5 => ?_) (fun h5 => ?_)
        · have h5 : i < v.length := by have := of_decide_eq_true h5; omega
          have e2 := inc_nat (n := i) (by omega)
          have hw := bin_wrap hb hm (v.getD i 0)
          have hc := cnt_succ (b := b) (m := m) (k := k) h5
          have hcl := cnt_le b m v k i
          conv => whnf
          refine need_of ((decide_eq_true ⟨Int.natCast_nonneg i, by omega⟩)) ?_
          conv => whnf
          refine CallsF.call [] [] (near_spec (v.getD i 0) m (by omega)) rfl rfl rfl rfl rfl (.inl rfl) ?_
          conv => whnf
          refine need_of (decide_eq_true (by rw [wrap_id (by omega) (by omega)]; omega)) ?_
          rw [hw]
          clear hw
          generalize binOf b m (v.getD i 0) = q at *
          obtain ⟨C, hC⟩ : ∃ C, cnt b m v k i = C := ⟨_, rfl⟩
          rw [hC] at hc hcl ⊢
          conv => whnf
          cases hq : (q == (k : Int))
          · rw [hq] at hc
            conv => whnf
            refine ⟨(v.length - (i + 1)), [1, 2, 3, 7, 8, 9, 37, 38, 39], [0, 1], [], by omega, rfl, ?_⟩
            conv => whnf
            refine ⟨i + 1, by omega, ?_⟩
            rw [e2, hc]; rfl
          · rw [hq] at hc
            conv => whnf
            refine ⟨(v.length - (i + 1)), [1, 2, 3, 7, 8, 9, 37, 38, 39], [0, 1], [], by omega, rfl, ?_⟩
            conv => whnf
            refine ⟨i + 1, by omega, ?_⟩
            rw [e2, hc, inc_nat (by omega)]; rfl
        · have h5 : ¬i < v.length := by have := of_decide_eq_false h5; omega
          obtain rfl : i = v.length := by omega
          obtain ⟨C, hC⟩ : ∃ C, cnt b m v k v.length = C := ⟨_, rfl⟩
          have hp : pre b m v (k + 1) = pre b m v k ++ [(C : Int)] := by rw [pre, List.range_succ, List.map_append, ← hC]; rfl
          rw [hC]
          conv => whnf
          have hpl := pre_len b m v k
          refine need_of ((decide_eq_true ⟨by omega, by simp; omega⟩)) ?_
          conv => whnf
          refine ⟨(b.toNat - (k + 1)), [1, 2, 3, 7, 8], [0, 3], [], by omega, rfl, ?_⟩
          conv => whnf
          refine ⟨k + 1, by omega, .inr ⟨by omega, ?_⟩⟩
          rw [inc_nat (by omega), hp]
          rfl
      · have h4 : ¬(k : Int) < b := of_decide_eq_false h4
        obtain rfl : k = b.toNat := by omega
        have ht : (pre b m v b.toNat).take b.toNat = pre b m v b.toNat := List.take_of_length_le (by rw [pre_len]; omega)
        conv => whnf
        refine ⟨[], [1], rfl, AV.le.of_eq ?_, rfl⟩
        show AV.ri .i64 (List.take b.toNat (List.drop 0 (pre b m v b.toNat))) = _
        rw [List.drop_zero, ht]

end Go.Proofs.TrydN

