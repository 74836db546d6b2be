/- Layer 26: a frame of one's own is put. -/
import Derived.Test.YtdcpobifckmoaaaN26M
namespace Go.Proofs.TryN
open Go Go.AL Go.Proofs

/-- A frame's numbers, where they are one's own. -/
def vs3 (v : Int) : AHeap := [some (.ia .i64 [IntKind.wrap .i64 (v + 0)]), some (.ia .i64 [IntKind.wrap .i64 (v + 1)]), some (.ia .i64 [IntKind.wrap .i64 (v + 2)])]

set_option maxRecDepth 10000 in
theorem copied_own (v : Int) : CallsF Try.prog 19 [.agg [iv 1, iv 1, .sl 0 0 1, iv 1, iv 1, .sl 1 0 1, iv 1, iv 1, .sl 2 0 1]] (vs3 v) (.agg (frow v)) (vs3 v) := by
  refine e19 ?_
  conv => whnf
  refine LoopA.steps 4 [1, 2, 6, 7] [3, 4] [] (by rfl) ?_
  conv => whnf
  first | refine pt_of [1, 2, 6, 7] [3, 4, 6] [] (by rfl) ?_ | refine ptw_of [1, 2, 6, 7] [3, 4, 6] [] (by rfl) ?_
  conv => whnf
  first | refine pt_of [1, 2, 6, 7] [3, 4, 5, 7] [] (by rfl) ?_ | refine ptw_of [1, 2, 6, 7] [3, 4, 5, 7] [] (by rfl) ?_
  conv => whnf
  first | refine pt_of [1, 2, 6, 7] [3, 4, 5, 6, 8] [] (by rfl) ?_ | refine ptw_of [1, 2, 6, 7] [3, 4, 5, 6, 8] [] (by rfl) ?_
  conv => whnf
  exact ⟨[], [5, 6, 7], rfl, rfl, rfl⟩

set_option maxRecDepth 10000 in
set_option maxHeartbeats 1000000 in
theorem put_own (next : Int) (W : List (Int × Int)) (hW : Waits next W) (n : Int) (h1 : next ≤ n) (h2 : n ≤ next + 8) (hh : hasW W n = false) :
    CallsF Try.prog 8 [.bp 0 0, iv n, .agg [iv 1, iv 1, .sl 1 0 1, iv 1, iv 1, .sl 2 0 1, iv 1, iv 1, .sl 3 0 1]] (some (.box [iv next, .sl 4 0 W.length]) :: vs3 n ++ [some (.arr 10 (irows W))]) (iv 0) (some (.box [iv next, .sl 5 0 (putW W n n).length]) :: vs3 n ++ [none, some (.arr 10 (irows (putW W n n)))]) := by
  have hlen := hW.len_le
  have hlo := hW.lo
  have hl : (irows W).length = W.length := by rw [irows, List.length_map]
  have k0 := place_spec next W n (posW W n) (by omega) (fun x hx => by have := hW.rng x hx; omega) (posW_le W n) posW_lo (posW_hi hW.rise)
  have hput := irows_put W n n
  have k1 := insert_spec (irows W) (posW W n) (n, n) (by rw [hl]; exact posW_le W n) (by omega) (irows_closed W)
  rw [hput, hl] at k1
  change CallsF Try.prog _ _ _ (.tup [iv (posW W n : Nat), .bool (hasW W n)]) _ at k0
  have hpl : (putW W n n).length = W.length + 1 := by
    have := congrArg List.length hput
    rw [insR_len _ _ _ (by rw [hl]; exact posW_le W n), irows, irows, List.length_map, List.length_map] at this
    exact this.symm
  have k2 := copied_own n
  rw [hh] at k0
  rw [hpl]
  generalize irows (putW W n n) = rows2 at *
  generalize irows W = rows at *
  generalize posW W n = p at *
  refine m8 4 ?_
  conv => whnf
  refine ifB_of (fun h => absurd (of_decide_eq_true h) (by omega)) (fun _ => ?_)
  conv => whnf
  rw [wrap_id (n := n - next) (by omega) (by omega)]
  refine ifB_of (fun h => absurd (of_decide_eq_true h) (by omega)) (fun _ => ?_)
  conv => whnf
  refine CallsF.call [0, 4] [] k0 rfl rfl rfl rfl rfl (.inl rfl) ?_
  conv => whnf
  refine CallsF.call [1, 2, 3] [] k2 rfl rfl rfl rfl rfl (.inl rfl) ?_
  conv => whnf
  refine ⟨.inl ⟨_, rfl⟩, ?_⟩
  conv => whnf
  refine CallsF.call [4, 6] [] k1 rfl rfl rfl rfl rfl (.inl rfl) ?_
  conv => whnf
  exact ⟨[7], [], rfl, rfl, rfl⟩

set_option maxRecDepth 10000 in
theorem put0_own (next : Int) (_hlo : 0 ≤ next ∧ next < 1000000) (n : Int) (h1 : next ≤ n) (h2 : n ≤ next + 8) :
    CallsF Try.prog 8 [.bp 0 0, iv n, .agg [iv 1, iv 1, .sl 1 0 1, iv 1, iv 1, .sl 2 0 1, iv 1, iv 1, .sl 3 0 1]] (some (.box [iv next, .snil]) :: vs3 n) (iv 0) (some (.box [iv next, .sl 4 0 1]) :: vs3 n ++ [some (.arr 10 [irow (n, n)])]) := by
  have k0 := place0_spec next n
  have k1 := insert0_spec (n, n)
  have k2 := copied_own n
  refine e8 ?_
  conv => whnf
  refine ifB_of (fun h => absurd (of_decide_eq_true h) (by omega)) (fun _ => ?_)
  conv => whnf
  rw [wrap_id (n := n - next) (by omega) (by omega)]
  refine ifB_of (fun h => absurd (of_decide_eq_true h) (by omega)) (fun _ => ?_)
  conv => whnf
  refine CallsF.call [0] [] k0 rfl rfl rfl rfl rfl (.inl rfl) ?_
  conv => whnf
  refine CallsF.call [1, 2, 3] [] k2 rfl rfl rfl rfl rfl (.inl rfl) ?_
  conv => whnf
  refine ⟨.inl ⟨_, rfl⟩, ?_⟩
  conv => whnf
  refine CallsF.call [5] [] k1 rfl rfl rfl rfl rfl (.inl rfl) ?_
  conv => whnf
  exact ⟨[6], [], rfl, rfl, rfl⟩

end Go.Proofs.TryN

