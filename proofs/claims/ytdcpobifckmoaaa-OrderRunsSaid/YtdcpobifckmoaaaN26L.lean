/- Layer 26: first(). -/
import Derived.Test.YtdcpobifckmoaaaF28
import Derived.Test.YtdcpobifckmoaaaN26K
namespace Go.Proofs.TryN
open Go Go.AL Go.Proofs

theorem w1 : Waits 0 [(1, 1)] := ⟨by omega, by simp, by simp⟩
theorem w2 : Waits 2 [] := ⟨by omega, by simp, by simp⟩

theorem f_take1 : CallsF Try.prog 9 [.bp 0 0] [some (.box [iv 0, .sl 1 0 1]), some (.arr 10 [irow (1, 1)])] (.ro 9 []) [some (.box [iv 0, .sl 2 0 1]), none, some (.arr 10 [irow (1, 1)])] :=
  take_spec 0 [(1, 1)] (by omega) (by decide)
theorem f_end1 : CallsF Try.prog 11 [.bp 0 0] [some (.box [iv 0, .sl 1 0 1]), some (.arr 10 [irow (1, 1)])] (iv 260) [some (.box [iv 0, .sl 1 0 1]), some (.arr 10 [irow (1, 1)])] := by
  have := end_spec 0 [irow (1, 1)]
  rwa [if_neg (by simp)] at this
theorem f_put2 : CallsF Try.prog 8 [.bp 0 0, iv 0, .agg (frow 0)] [some (.box [iv 0, .sl 1 0 1]), some (.arr 10 [irow (1, 1)])] (iv 0) [some (.box [iv 0, .sl 2 0 2]), none, some (.arr 10 [irow (0, 0), irow (1, 1)])] :=
  put_spec 0 [(1, 1)] w1 0 0 (by omega)
theorem f_take2 : CallsF Try.prog 9 [.bp 0 0] [some (.box [iv 0, .sl 1 0 2]), some (.arr 10 [irow (0, 0), irow (1, 1)])] (.ro 9 [frow 0, frow 1]) [some (.box [iv 2, .sl 2 0 0]), none, some (.arr 10 [])] :=
  take_spec 0 [(0, 0), (1, 1)] (by omega) (by decide)
theorem f_put3 : CallsF Try.prog 8 [.bp 0 0, iv 1, .agg (frow 1)] [some (.box [iv 2, .sl 1 0 0]), some (.arr 10 [])] (iv 251) [some (.box [iv 2, .sl 2 0 0]), none, some (.arr 10 [])] :=
  put_spec 2 [] w2 1 1 (by omega)
theorem f_put4 : CallsF Try.prog 8 [.bp 0 0, iv 11, .agg (frow 1)] [some (.box [iv 2, .sl 1 0 0]), some (.arr 10 [])] (iv 260) [some (.box [iv 2, .sl 2 0 0]), none, some (.arr 10 [])] :=
  put_spec 2 [] w2 11 1 (by omega)
theorem f_end2 : CallsF Try.prog 11 [.bp 0 0] [some (.box [iv 2, .sl 1 0 0]), some (.arr 10 [])] (iv 0) [some (.box [iv 2, .sl 1 0 0]), some (.arr 10 [])] :=
  end_spec 2 []

set_option maxRecDepth 20000 in
set_option maxHeartbeats 4000000 in
theorem first_spec : CallsF Try.prog 5 [] [] (.bool true) [] := by
  have k0 := one_spec 0
  have k1 := one_spec 1
  have p0 := put0_spec 0 (by omega) 1 1 (by omega) (by omega) (by omega)
  have n2 := next_spec 2 []
  have s1 := same24_spec 1
  refine e5 ?_
  conv => whnf
  refine CallsF.call [] [] new_spec rfl rfl rfl rfl rfl (.inl rfl) ?_
  conv => whnf
  refine CallsF.call [] [] k1 rfl rfl rfl rfl rfl (.inl rfl) ?_
  conv => whnf
  refine CallsF.call [0] [] p0 rfl rfl rfl rfl rfl (.inl rfl) ?_
  conv => whnf
  refine CallsF.call [0, 1] [] f_take1 rfl rfl rfl rfl rfl (.inl rfl) ?_
  conv => whnf
  refine CallsF.call [0, 2] [] f_end1 rfl rfl rfl rfl rfl (.inl rfl) ?_
  conv => whnf
  refine CallsF.call [] [] k0 rfl rfl rfl rfl rfl (.inl rfl) ?_
  conv => whnf
  refine CallsF.call [0, 2] [] f_put2 rfl rfl rfl rfl rfl (.inl rfl) ?_
  conv => whnf
  refine CallsF.call [0, 3] [] f_take2 rfl rfl rfl rfl rfl (.inl rfl) ?_
  conv => whnf
  refine CallsF.call [] [] k1 rfl rfl rfl rfl rfl (.inl rfl) ?_
  conv => whnf
  refine ⟨.inl ⟨_, rfl⟩, ?_⟩
  conv => whnf
  refine CallsF.call [] [] s1 rfl rfl rfl rfl rfl (.inl rfl) ?_
  conv => whnf
  refine CallsF.call [0, 4] [] n2 rfl rfl rfl rfl rfl (.inl rfl) ?_
  conv => whnf
  refine CallsF.call [] [] k1 rfl rfl rfl rfl rfl (.inl rfl) ?_
  conv => whnf
  refine CallsF.call [0, 4] [] f_put3 rfl rfl rfl rfl rfl (.inl rfl) ?_
  conv => whnf
  refine CallsF.call [] [] k1 rfl rfl rfl rfl rfl (.inl rfl) ?_
  conv => whnf
  refine CallsF.call [0, 5] [] f_put4 rfl rfl rfl rfl rfl (.inl rfl) ?_
  conv => whnf
  refine CallsF.call [0, 6] [] f_end2 rfl rfl rfl rfl rfl (.inl rfl) ?_
  conv => whnf
  exact ⟨[], [], rfl, rfl, rfl⟩

end Go.Proofs.TryN

