/- Layer 26: a frame is the same as itself; the queue's small functions. -/
import Derived.Test.YtdcpobifckmoaaaN26A
namespace Go.Proofs.TryN
open Go Go.AL Go.Proofs

theorem neq_self (n : Int) : (n != n) = false := by simp

set_option maxRecDepth 10000 in
theorem same7_spec (w h x : Int) : CallsF Try.prog 21 [.agg [iv w, iv h, .ri .i64 [x]], .agg [iv w, iv h, .ri .i64 [x]]] [] (.bool true) [] := by
  refine e21 ?_
  conv => whnf
  rw [neq_self]
  conv => whnf
  rw [neq_self]
  conv => whnf
  refine LoopA.steps 2 [2, 3, 29, 30] [0, 1] [] (by rfl) ?_
  conv => whnf
  rw [neq_self]
  conv => whnf
  first | refine pt_of [2, 3, 29, 30] [0, 1] [] (by rfl) ?_ | refine ptw_of [2, 3, 29, 30] [0, 1] [] (by rfl) ?_
  conv => whnf
  exact ⟨[], [], rfl, rfl, rfl⟩

set_option maxRecDepth 10000 in
theorem same24_spec (n : Int) : CallsF Try.prog 10 [.agg (frow n), .agg (frow n)] [] (.bool true) [] := by
  have k0 := same7_spec 1 1 (IntKind.wrap .i64 (n + 0))
  have k1 := same7_spec 1 1 (IntKind.wrap .i64 (n + 1))
  have k2 := same7_spec 1 1 (IntKind.wrap .i64 (n + 2))
  unfold frow
  generalize IntKind.wrap .i64 (n + 0) = a0 at *
  generalize IntKind.wrap .i64 (n + 1) = a1 at *
  generalize IntKind.wrap .i64 (n + 2) = a2 at *
  refine e10 ?_
  conv => whnf
  refine LoopA.steps 4 [2, 3, 5] [0, 1] [] (by rfl) ?_
  conv => whnf
  refine CallsF.call [] [] k0 rfl rfl rfl rfl rfl (.inl rfl) ?_
  conv => whnf
  first | refine pt_of [2, 3, 5] [0, 1] [] (by rfl) ?_ | refine ptw_of [2, 3, 5] [0, 1] [] (by rfl) ?_
  conv => whnf
  refine CallsF.call [] [] k1 rfl rfl rfl rfl rfl (.inl rfl) ?_
  conv => whnf
  first | refine pt_of [2, 3, 5] [0, 1] [] (by rfl) ?_ | refine ptw_of [2, 3, 5] [0, 1] [] (by rfl) ?_
  conv => whnf
  refine CallsF.call [] [] k2 rfl rfl rfl rfl rfl (.inl rfl) ?_
  conv => whnf
  first | refine pt_of [2, 3, 5] [0, 1] [] (by rfl) ?_ | refine ptw_of [2, 3, 5] [0, 1] [] (by rfl) ?_
  conv => whnf
  exact ⟨[], [], rfl, rfl, rfl⟩

/-- An item that waits. -/
def irow (x : Int × Int) : List AV := iv x.1 :: frow x.2
def irows (W : List (Int × Int)) : List (List AV) := W.map irow

theorem irow_closed (x : Int × Int) : (irow x).all closed = true := rfl
theorem irows_closed (W : List (Int × Int)) : (irows W).all (fun r => r.all closed) = true := by
  rw [List.all_eq_true]
  intro r hr
  obtain ⟨x, _, rfl⟩ := List.mem_map.1 hr
  rfl

theorem new_spec : CallsF Try.prog 6 [] [] (.bp 0 0) [some (.box [iv 0, .snil])] := by
  refine e6 ?_
  conv => whnf
  exact ⟨[0], [], rfl, rfl, rfl⟩

theorem end_nil : CallsF Try.prog 11 [.pnil] [] (iv 1) [] := by
  refine e11 ?_
  conv => whnf
  exact ⟨[], [], rfl, rfl, rfl⟩
theorem end0_spec (next : Int) : CallsF Try.prog 11 [.bp 0 0] [some (.box [iv next, .snil])] (iv 0) [some (.box [iv next, .snil])] := by
  refine e11 ?_
  conv => whnf
  exact ⟨[], [], rfl, rfl, rfl⟩
theorem end_spec (next : Int) (rows : List (List AV)) : CallsF Try.prog 11 [.bp 0 0] [some (.box [iv next, .sl 1 0 rows.length]), some (.arr 10 rows)] (iv (if rows = [] then 0 else 260)) [some (.box [iv next, .sl 1 0 rows.length]), some (.arr 10 rows)] := by
  cases rows with
  | nil =>
    refine e11 ?_
    conv => whnf
    exact ⟨[], [], rfl, rfl, rfl⟩
  | cons r rs =>
    refine e11 ?_
    conv => whnf
    refine ifB_of (fun _ => ?_) (fun h => absurd h (by simp))
    conv => whnf
    exact ⟨[], [], rfl, rfl, rfl⟩
theorem next_nil : CallsF Try.prog 12 [.pnil] [] (iv 0) [] := by
  refine e12 ?_
  conv => whnf
  exact ⟨[], [], rfl, rfl, rfl⟩
theorem next0_spec (next : Int) : CallsF Try.prog 12 [.bp 0 0] [some (.box [iv next, .snil])] (iv next) [some (.box [iv next, .snil])] := by
  refine e12 ?_
  conv => whnf
  exact ⟨[], [], rfl, rfl, rfl⟩
theorem next_spec (next : Int) (rows : List (List AV)) : CallsF Try.prog 12 [.bp 0 0] [some (.box [iv next, .sl 1 0 rows.length]), some (.arr 10 rows)] (iv next) [some (.box [iv next, .sl 1 0 rows.length]), some (.arr 10 rows)] := by
  refine e12 ?_
  conv => whnf
  exact ⟨[], [], rfl, rfl, rfl⟩

theorem cmp_spec (x : Int × Int) (n : Int) : CallsF Try.prog 23 [.agg (irow x), iv n] [] (iv (IntKind.wrap .i64 (x.1 - n))) [] := by
  refine e23 ?_
  conv => whnf
  exact ⟨[], [], rfl, rfl, rfl⟩

end Go.Proofs.TryN

