/- Layer 25: a frame is the same as itself; a new buffer, and what it gives. -/
import Derived.Test.YtdjnndcdplgojaaN25A
namespace Go.Proofs.TryN
open Go Go.AL Go.Proofs

theorem neq_self (n : Int) : (n != n) = false := by simp

set_option maxRecDepth 10000 in
theorem same7_spec (w h x : Int) : CallsF Try.prog 18 [.agg [iv w, iv h, .ri .i64 [x]], .agg [iv w, iv h, .ri .i64 [x]]] [] (.bool true) [] := by
  refine e18 ?_
  conv => whnf
  rw [neq_self]
  conv => whnf
  rw [neq_self]
  conv => whnf
  refine LoopA.steps 2 [2, 3, 29, 30] [0, 1] [] (by rfl) ?_
  conv => whnf
  rw [neq_self]
  conv => whnf
  first | refine pt_of [2, 3, 29, 30] [0, 1] [] (by rfl) ?_ | refine ptw_of [2, 3, 29, 30] [0, 1] [] (by rfl) ?_
  conv => whnf
  exact ⟨[], [], rfl, rfl, rfl⟩

set_option maxRecDepth 10000 in
theorem same24_spec (n : Int) : CallsF Try.prog 13 [.agg (frow n), .agg (frow n)] [] (.bool true) [] := by
  have k0 := same7_spec 1 1 (IntKind.wrap .i64 (n + 0))
  have k1 := same7_spec 1 1 (IntKind.wrap .i64 (n + 1))
  have k2 := same7_spec 1 1 (IntKind.wrap .i64 (n + 2))
  unfold frow
  generalize IntKind.wrap .i64 (n + 0) = a0 at *
  generalize IntKind.wrap .i64 (n + 1) = a1 at *
  generalize IntKind.wrap .i64 (n + 2) = a2 at *
  refine e13 ?_
  conv => whnf
  refine LoopA.steps 4 [2, 3, 5] [0, 1] [] (by rfl) ?_
  conv => whnf
  refine CallsF.call [] [] k0 rfl rfl rfl rfl rfl (.inl rfl) ?_
  conv => whnf
  first | refine pt_of [2, 3, 5] [0, 1] [] (by rfl) ?_ | refine ptw_of [2, 3, 5] [0, 1] [] (by rfl) ?_
  conv => whnf
  refine CallsF.call [] [] k1 rfl rfl rfl rfl rfl (.inl rfl) ?_
  conv => whnf
  first | refine pt_of [2, 3, 5] [0, 1] [] (by rfl) ?_ | refine ptw_of [2, 3, 5] [0, 1] [] (by rfl) ?_
  conv => whnf
  refine CallsF.call [] [] k2 rfl rfl rfl rfl rfl (.inl rfl) ?_
  conv => whnf
  first | refine pt_of [2, 3, 5] [0, 1] [] (by rfl) ?_ | refine ptw_of [2, 3, 5] [0, 1] [] (by rfl) ?_
  conv => whnf
  exact ⟨[], [], rfl, rfl, rfl⟩

/-- A frame that is none. -/
def zrow : List AV := [iv 0, iv 0, .snil, iv 0, iv 0, .snil, iv 0, iv 0, .snil]

set_option maxRecDepth 10000 in
theorem same7_zero : CallsF Try.prog 18 [.agg [iv 0, iv 0, .snil], .agg [iv 0, iv 0, .snil]] [] (.bool true) [] := by
  refine e18 ?_
  conv => whnf
  conv => whnf
  refine LoopA.steps 1 [2, 3, 29, 30] [0, 1] [] (by rfl) ?_
  conv => whnf
  exact ⟨[], [], rfl, rfl, rfl⟩

set_option maxRecDepth 10000 in
theorem same24_zero : CallsF Try.prog 13 [.agg zrow, .agg zrow] [] (.bool true) [] := by
  unfold zrow
  refine e13 ?_
  conv => whnf
  refine LoopA.steps 4 [2, 3, 5] [0, 1] [] (by rfl) ?_
  conv => whnf
  refine CallsF.call [] [] same7_zero rfl rfl rfl rfl rfl (.inl rfl) ?_
  conv => whnf
  first | refine pt_of [2, 3, 5] [0, 1] [] (by rfl) ?_ | refine ptw_of [2, 3, 5] [0, 1] [] (by rfl) ?_
  conv => whnf
  refine CallsF.call [] [] same7_zero rfl rfl rfl rfl rfl (.inl rfl) ?_
  conv => whnf
  first | refine pt_of [2, 3, 5] [0, 1] [] (by rfl) ?_ | refine ptw_of [2, 3, 5] [0, 1] [] (by rfl) ?_
  conv => whnf
  refine CallsF.call [] [] same7_zero rfl rfl rfl rfl rfl (.inl rfl) ?_
  conv => whnf
  first | refine pt_of [2, 3, 5] [0, 1] [] (by rfl) ?_ | refine ptw_of [2, 3, 5] [0, 1] [] (by rfl) ?_
  conv => whnf
  exact ⟨[], [], rfl, rfl, rfl⟩

/-- What a buffer's map holds: numbers, and what their frames were made of. -/
def ents (B : List (Int × Int)) : List (Int × AV) := B.map fun p => (p.1, .agg (frow p.2))

theorem new_spec : CallsF Try.prog 7 [] [] (.bp 0 0) [some (.box [.map 1]), some (.mp (ents []))] := by
  refine e7 ?_
  conv => whnf
  conv => whnf
  exact ⟨[1, 0], [], rfl, rfl, rfl⟩

end Go.Proofs.TryN

