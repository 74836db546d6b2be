/- Layer 26: who waits. -/
import Derived.Test.YtdcpobifckmoaaaN26G
namespace Go.Proofs.TryN
open Go Go.AL Go.Proofs

theorem take0_spec (next : Int) : CallsF Try.prog 9 [.bp 0 0] [some (.box [iv next, .snil])] .snil [some (.box [iv next, .snil])] := by
  refine e9 ?_
  conv => whnf
  refine LoopA.steps 1 [0, 3] [] [] (by rfl) ?_
  conv => whnf
  exact ⟨[], [], rfl, rfl, rfl⟩
theorem take_nil : CallsF Try.prog 9 [.pnil] [] .snil [] := by
  refine e9 ?_
  conv => whnf
  exact ⟨[], [], rfl, rfl, rfl⟩
theorem waiting0_spec (next : Int) : CallsF Try.prog 15 [.bp 0 0] [some (.box [iv next, .snil])] .snil [some (.box [iv next, .snil])] := by
  refine e15 ?_
  conv => whnf
  refine LoopA.steps 1 [3, 11, 12, 13] [] [] (by rfl) ?_
  conv => whnf
  exact ⟨[], [], rfl, rfl, rfl⟩
theorem waiting_nil : CallsF Try.prog 15 [.pnil] [] .snil [] := by
  refine e15 ?_
  conv => whnf
  exact ⟨[], [], rfl, rfl, rfl⟩

def nums (W : List (Int × Int)) : List Int := W.map fun x => x.1

theorem nums_succ {W : List (Int × Int)} {i : Nat} (h : i < W.length) : (nums W).take (i + 1) = (nums W).take i ++ [W[i].1] := by
  unfold nums
  rw [List.take_succ_eq_append_getElem (by simpa using h)]; simp

set_option maxRecDepth 10000 in
theorem waiting_spec (next : Int) (W : List (Int × Int)) (hlen : W.length ≤ 9) :
    CallsF Try.prog 15 [.bp 0 0] [some (.box [iv next, .sl 1 0 W.length]), some (.arr 10 (irows W))] (.ri .i64 (nums W)) [some (.box [iv next, .sl 1 0 W.length]), some (.arr 10 (irows W))] := by
  refine CallsF.le ?_
  have hnl : (nums W).length = W.length := by rw [nums, List.length_map]
  obtain ⟨rows, hr⟩ : ∃ rows, irows W = rows := ⟨_, rfl⟩
  rw [hr]
  refine e15 ?_
  conv => whnf
  refine LoopA.inv (fun n st => ∃ i : Nat, n + i = W.length ∧ ((i = 0 ∧ st = ⟨[(3, .snil), (11, .sl 1 0 W.length), (12, iv (W.length : Nat)), (13, iv 0)], [some (.box [iv next, .sl 1 0 W.length]), some (.arr 10 rows)], 2, 2⟩) ∨ (0 < i ∧ st = ⟨[(3, .sl 2 0 i), (11, .sl 1 0 W.length), (12, iv (W.length : Nat)), (13, iv i)], [some (.box [iv next, .sl 1 0 W.length]), some (.arr 10 rows), some (.ia .i64 ((nums W).take i))], 3, 2⟩))) W.length [3, 11, 12, 13] [] [] (by rfl) ?_ ?_
  · conv => whnf
    exact ⟨0, rfl, .inl ⟨rfl, rfl⟩⟩
  rintro n st ⟨i, hn, ⟨rfl, rfl⟩ | ⟨hi, rfl⟩⟩
  · conv => whnf
    refine ifB_of (fun h1 => ?_) (fun h1 => ?_)
    · have h1 : 0 < W.length := by have := of_decide_eq_true h1; omega
      have hrow := irow_at hr h1
      have hs := nums_succ h1
      conv => whnf
      refine need_of ((decide_eq_true ⟨by omega, by omega⟩)) ?_
      conv => whnf
      rw [aop_loadN_arr hrow rfl rfl rfl]
      conv => whnf
      refine ⟨(W.length - 1), [3, 11, 12, 13], [4], [], by omega, rfl, ?_⟩
      conv => whnf
      refine ⟨1, by omega, .inr ⟨by omega, ?_⟩⟩
      rw [hs]
      rfl
    · have h1 : W = [] := by
        have := of_decide_eq_false h1
        exact List.eq_nil_of_length_eq_zero (by omega)
      subst h1
      conv => whnf
      exact ⟨[], [], rfl, AV.le.snil .i64, rfl⟩
  · conv => whnf
    refine ifB_of (fun h1 => ?_) (fun h1 => ?_)
    · have h1 : i < W.length := by have := of_decide_eq_true h1; omega
      have hrow : nth rows (0 + (i : Int).toNat) = some (irow W[i]) := by rw [Nat.zero_add]; exact irow_at hr h1
      have hs := nums_succ h1
      have hl2 : ((nums W).take i).length = i := by rw [List.length_take]; omega
      conv => whnf
      refine need_of ((decide_eq_true ⟨by omega, by omega⟩)) ?_
      conv => whnf
      rw [aop_loadN_arr hrow rfl rfl rfl]
      conv => whnf
      generalize (nums W).take i = xs at *
      refine need_of ((decide_eq_true ⟨by omega, (show 9 * (i + 1) ≤ 2 ^ 46 by omega)⟩)) ?_
      conv => whnf
      rw [inc_nat i (by omega)]
      refine ⟨(W.length - (i + 1)), [3, 11, 12, 13], [5], [], by omega, rfl, ?_⟩
      conv => whnf
      refine ⟨i + 1, by omega, .inr ⟨by omega, ?_⟩⟩
      rw [hs]
      rfl
    · have h1 : i = W.length := by have := of_decide_eq_false h1; omega
      subst h1
      conv => whnf
      refine ⟨[], [2], rfl, AV.le.of_eq ?_, rfl⟩
      show AV.ri .i64 (List.take W.length (List.drop 0 (List.take W.length (nums W)))) = _
      rw [List.drop_zero, ← hnl, List.take_length, List.take_length]

end Go.Proofs.TryN

