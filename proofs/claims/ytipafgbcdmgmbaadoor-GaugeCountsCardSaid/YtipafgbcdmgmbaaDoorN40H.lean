/- Layer 40: the law of counts: the histogram of any plane. -/
import Derived.Test.YtipafgbcdmgmbaaDoorN40G
namespace Go.Proofs.TrydN
open Go Go.AL Go.Proofs

set_option maxHeartbeats 4000000 in
set_option maxRecDepth 10000 in
theorem counts_spec (w h : Int) (v : List Int) (b m : Int) : CallsF Tryd.prog 4 [pl w h v, iv b, iv m] [] (.bool true) [] := by
  have k0 := hist_spec w h v b m
  have k1 := rhist_spec w h v b m
  have hl : (histL w h v b m).length ≤ 256 := by
    cases hB : histB w h v b m
    · rw [histL, hB]; exact Nat.zero_le _
    · have := (histB_in hB).2.1
      rw [histL, hB, if_pos rfl, hist_len]; omega
  obtain ⟨xs, hx⟩ : ∃ xs, histL w h v b m = xs := ⟨_, rfl⟩
  rw [hx] at k0 k1 hl
  refine e4 ?_
  conv => whnf
  refine CallsF.call [] [] first_spec rfl rfl rfl rfl rfl (.inl rfl) ?_
  conv => whnf
  refine ifB_of (fun h1 => ?_) (fun h1 => ?_)
  · conv => whnf
    exact ⟨[], [], rfl, rfl, rfl⟩
  conv => whnf
  refine CallsF.call [] [] k0 rfl rfl rfl rfl rfl (.inl rfl) ?_
  conv => whnf
  refine ⟨.inl ⟨_, rfl⟩, ?_⟩
  conv => whnf
  refine CallsF.call [] [] k1 rfl rfl rfl rfl rfl (.inl rfl) ?_
  conv => whnf
  refine ifB_of (fun h2 => ?_) (fun h2 => ?_)
  · exact absurd h2 (by simp)
  conv => whnf
  refine LoopA.inv (fun n st => ∃ i : Nat, n + i = xs.length ∧ st = ⟨[(7, .ri .i64 xs), (8, .ri .i64 xs), (30, iv (xs.length : Nat)), (31, iv i)], [], 0, 0⟩) xs.length [7, 8, 30, 31] [] [] (by rfl) ?_ ?_
  · conv => whnf
    exact ⟨0, rfl, rfl⟩
  rintro n st ⟨i, hn, rfl⟩
  conv => whnf
  refine ifB_of (fun h5 => ?_) (fun h5 => ?_)
  · have h5 : i < xs.length := by have := of_decide_eq_true h5; omega
    have e1 := inc_nat (n := i) (by omega)
    conv => whnf
    refine need_of ((decide_eq_true ⟨Int.natCast_nonneg i, by omega⟩)) ?_
    conv => whnf
    refine need_of ((decide_eq_true ⟨Int.natCast_nonneg i, by omega⟩)) ?_
    conv => whnf
    refine ifB_of (fun h6 => ?_) (fun h6 => ?_)
    · exact absurd h6 (by simp)
    conv => whnf
    refine ⟨(xs.length - (i + 1)), [7, 8, 30, 31], [], [], by omega, rfl, ?_⟩
    conv => whnf
    refine ⟨i + 1, by omega, ?_⟩
    rw [e1]
  · conv => whnf
    exact ⟨[], [], rfl, rfl, rfl⟩

end Go.Proofs.TrydN

