/- Layer 25: frames of one number each, as they are made and copied. -/
import Derived.Test.YtdjnndcdplgojaaF25
namespace Go.Proofs.TryN
open Go Go.AL Go.Proofs

theorem mixed_ok (n : Int) : -9223372036854775808 ≤ IntKind.wrap .i64 n ∧ IntKind.wrap .i64 n ≤ 9223372036854775807 := by
  rw [IntKind.wrap_i64]; omega

/-- A frame of a number. -/
def frow (n : Int) : List AV := [iv 1, iv 1, .ri .i64 [IntKind.wrap .i64 (n + 0)], iv 1, iv 1, .ri .i64 [IntKind.wrap .i64 (n + 1)], iv 1, iv 1, .ri .i64 [IntKind.wrap .i64 (n + 2)]]

set_option maxRecDepth 10000 in
theorem one_spec (n : Int) : CallsF Try.prog 9 [iv n] [] (.agg (frow n)) [] := by
  refine e9 ?_
  conv => whnf
  refine LoopA.steps 4 [0, 2, 3, 5] [0, 1] [] (by rfl) ?_
  conv => whnf
  first | refine pt_of [0, 2, 3, 5] [0, 1, 2] [] (by rfl) ?_ | refine ptw_of [0, 2, 3, 5] [0, 1, 2] [] (by rfl) ?_
  conv => whnf
  first | refine pt_of [0, 2, 3, 5] [0, 1, 2, 3] [] (by rfl) ?_ | refine ptw_of [0, 2, 3, 5] [0, 1, 2, 3] [] (by rfl) ?_
  conv => whnf
  first | refine pt_of [0, 2, 3, 5] [0, 1, 2, 3, 4] [] (by rfl) ?_ | refine ptw_of [0, 2, 3, 5] [0, 1, 2, 3, 4] [] (by rfl) ?_
  conv => whnf
  exact ⟨[], [2, 3, 4], rfl, rfl, rfl⟩

set_option maxRecDepth 10000 in
/-- The same, still one's own. -/
theorem one_own (n : Int) : CallsF Try.prog 9 [iv n] [] (.agg [iv 1, iv 1, .sl 0 0 1, iv 1, iv 1, .sl 1 0 1, iv 1, iv 1, .sl 2 0 1])
    [some (.ia .i64 [IntKind.wrap .i64 (n + 0)]), some (.ia .i64 [IntKind.wrap .i64 (n + 1)]), some (.ia .i64 [IntKind.wrap .i64 (n + 2)])] := by
  refine e9 ?_
  conv => whnf
  refine LoopA.steps 4 [0, 2, 3, 5] [0, 1] [] (by rfl) ?_
  conv => whnf
  first | refine pt_of [0, 2, 3, 5] [0, 1, 2] [] (by rfl) ?_ | refine ptw_of [0, 2, 3, 5] [0, 1, 2] [] (by rfl) ?_
  conv => whnf
  first | refine pt_of [0, 2, 3, 5] [0, 1, 2, 3] [] (by rfl) ?_ | refine ptw_of [0, 2, 3, 5] [0, 1, 2, 3] [] (by rfl) ?_
  conv => whnf
  first | refine pt_of [0, 2, 3, 5] [0, 1, 2, 3, 4] [] (by rfl) ?_ | refine ptw_of [0, 2, 3, 5] [0, 1, 2, 3, 4] [] (by rfl) ?_
  conv => whnf
  exact ⟨[2, 3, 4], [], rfl, rfl, rfl⟩

set_option maxRecDepth 10000 in
theorem clone_own (x : Int) : CallsF Try.prog 21 [.ri .i64 [x]] [] (.sl 0 0 1) [some (.ia .i64 [x])] := by
  refine e21 ?_
  conv => whnf
  conv => whnf
  exact ⟨[0], [], rfl, rfl, rfl⟩
theorem clone_frz (x : Int) : CallsF Try.prog 21 [.ri .i64 [x]] [] (.ri .i64 [x]) [] := by
  refine e21 ?_
  conv => whnf
  conv => whnf
  exact ⟨[], [0], rfl, rfl, rfl⟩
theorem clone_nil : CallsF Try.prog 21 [.snil] [] .snil [] := by
  refine e21 ?_
  conv => whnf
  conv => whnf
  exact ⟨[], [], rfl, rfl, rfl⟩

/-- Copied, and kept as it is. -/
theorem copied_frz (w0 h0 x0 w1 h1 x1 w2 h2 x2 : Int) : CallsF Try.prog 17 [.agg [iv w0, iv h0, .ri .i64 [x0], iv w1, iv h1, .ri .i64 [x1], iv w2, iv h2, .ri .i64 [x2]]] []
    (.agg [iv w0, iv h0, .ri .i64 [x0], iv w1, iv h1, .ri .i64 [x1], iv w2, iv h2, .ri .i64 [x2]]) [] := by
  refine e17 ?_
  conv => whnf
  refine LoopA.steps 4 [1, 2, 4] [0, 1] [] (by rfl) ?_
  conv => whnf
  refine CallsF.call [] [] (clone_frz x0) rfl rfl rfl rfl rfl (.inl rfl) ?_
  conv => whnf
  first | refine pt_of [1, 2, 4] [0, 1] [] (by rfl) ?_ | refine ptw_of [1, 2, 4] [0, 1] [] (by rfl) ?_
  conv => whnf
  refine CallsF.call [] [] (clone_frz x1) rfl rfl rfl rfl rfl (.inl rfl) ?_
  conv => whnf
  first | refine pt_of [1, 2, 4] [0, 1] [] (by rfl) ?_ | refine ptw_of [1, 2, 4] [0, 1] [] (by rfl) ?_
  conv => whnf
  refine CallsF.call [] [] (clone_frz x2) rfl rfl rfl rfl rfl (.inl rfl) ?_
  conv => whnf
  first | refine pt_of [1, 2, 4] [0, 1] [] (by rfl) ?_ | refine ptw_of [1, 2, 4] [0, 1] [] (by rfl) ?_
  conv => whnf
  exact ⟨[], [], rfl, rfl, rfl⟩

/-- Copied, and still one's own. -/
theorem copied_own (w0 h0 x0 w1 h1 x1 w2 h2 x2 : Int) : CallsF Try.prog 17 [.agg [iv w0, iv h0, .ri .i64 [x0], iv w1, iv h1, .ri .i64 [x1], iv w2, iv h2, .ri .i64 [x2]]] []
    (.agg [iv w0, iv h0, .sl 0 0 1, iv w1, iv h1, .sl 1 0 1, iv w2, iv h2, .sl 2 0 1]) [some (.ia .i64 [x0]), some (.ia .i64 [x1]), some (.ia .i64 [x2])] := by
  refine e17 ?_
  conv => whnf
  refine LoopA.steps 4 [1, 2, 4] [0, 1] [] (by rfl) ?_
  conv => whnf
  refine CallsF.call [] [] (clone_own x0) rfl rfl rfl rfl rfl (.inl rfl) ?_
  conv => whnf
  first | refine pt_of [1, 2, 4] [0, 1, 2] [] (by rfl) ?_ | refine ptw_of [1, 2, 4] [0, 1, 2] [] (by rfl) ?_
  conv => whnf
  refine CallsF.call [] [] (clone_own x1) rfl rfl rfl rfl rfl (.inl rfl) ?_
  conv => whnf
  first | refine pt_of [1, 2, 4] [0, 1, 2, 3] [] (by rfl) ?_ | refine ptw_of [1, 2, 4] [0, 1, 2, 3] [] (by rfl) ?_
  conv => whnf
  refine CallsF.call [] [] (clone_own x2) rfl rfl rfl rfl rfl (.inl rfl) ?_
  conv => whnf
  first | refine pt_of [1, 2, 4] [0, 1, 2, 3, 4] [] (by rfl) ?_ | refine ptw_of [1, 2, 4] [0, 1, 2, 3, 4] [] (by rfl) ?_
  conv => whnf
  exact ⟨[2, 3, 4], [], rfl, rfl, rfl⟩

/-- No frame's copy. -/
theorem copied_zero : CallsF Try.prog 17 [.agg [iv 0, iv 0, .snil, iv 0, iv 0, .snil, iv 0, iv 0, .snil]] [] (.agg [iv 0, iv 0, .snil, iv 0, iv 0, .snil, iv 0, iv 0, .snil]) [] := by
  refine e17 ?_
  conv => whnf
  refine LoopA.steps 4 [1, 2, 4] [0, 1] [] (by rfl) ?_
  conv => whnf
  refine CallsF.call [] [] clone_nil rfl rfl rfl rfl rfl (.inl rfl) ?_
  conv => whnf
  first | refine pt_of [1, 2, 4] [0, 1] [] (by rfl) ?_ | refine ptw_of [1, 2, 4] [0, 1] [] (by rfl) ?_
  conv => whnf
  refine CallsF.call [] [] clone_nil rfl rfl rfl rfl rfl (.inl rfl) ?_
  conv => whnf
  first | refine pt_of [1, 2, 4] [0, 1] [] (by rfl) ?_ | refine ptw_of [1, 2, 4] [0, 1] [] (by rfl) ?_
  conv => whnf
  refine CallsF.call [] [] clone_nil rfl rfl rfl rfl rfl (.inl rfl) ?_
  conv => whnf
  first | refine pt_of [1, 2, 4] [0, 1] [] (by rfl) ?_ | refine ptw_of [1, 2, 4] [0, 1] [] (by rfl) ?_
  conv => whnf
  exact ⟨[], [], rfl, rfl, rfl⟩

end Go.Proofs.TryN

