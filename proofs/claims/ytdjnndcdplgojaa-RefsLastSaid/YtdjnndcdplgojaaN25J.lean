/- Layer 25: what is asked ahead of everything. -/
import Derived.Test.YtdjnndcdplgojaaN25I
import Derived.Test.YtdjnndcdplgojaaF26
namespace Go.Proofs.TryN
open Go Go.AL Go.Proofs Go.Sort Go.Shelf

theorem new_all : CallsF Try.prog 7 [] [] (.bp 0 0) (bufH []) := new_spec

set_option maxRecDepth 10000 in
theorem first_spec : CallsF Try.prog 6 [] [] (.bool true) [] := by
  obtain ⟨B1, h1, k1⟩ := put_all 0 0 Bf.fresh
  rw [show putL 0 0 [] = [(0, 0)] by decide] at h1
  obtain ⟨B2, h2, k2⟩ := put_all 1 1 h1
  rw [show putL 1 1 [(0, 0)] = [(0, 0), (1, 1)] by decide] at h2
  obtain ⟨B3, h3, k3⟩ := put_all 2 2 h2
  rw [show putL 2 2 [(0, 0), (1, 1)] = [(0, 0), (1, 1), (2, 2)] by decide] at h3
  obtain ⟨B4, h4, k4⟩ := put_all 3 3 h3
  rw [show putL 3 3 [(0, 0), (1, 1), (2, 2)] = [(0, 0), (1, 1), (2, 2), (3, 3)] by decide] at h4
  obtain ⟨B5, h5, k5⟩ := put_all 4 4 h4
  rw [show putL 4 4 [(0, 0), (1, 1), (2, 2), (3, 3)] = [(1, 1), (2, 2), (3, 3), (4, 4)] by decide] at h5
  rw [show putE 0 [] = 0 by decide] at k1
  rw [show putE 1 [(0, 0)] = 0 by decide] at k2
  rw [show putE 2 [(0, 0), (1, 1)] = 0 by decide] at k3
  rw [show putE 3 [(0, 0), (1, 1), (2, 2)] = 0 by decide] at k4
  rw [show putE 4 [(0, 0), (1, 1), (2, 2), (3, 3)] = 0 by decide] at k5
  have g4 := get_all 4 h5
  have g0 := get_all 0 h5
  rw [show lk 4 [(1, 1), (2, 2), (3, 3), (4, 4)] = some 4 by decide] at g4
  rw [show lk 0 [(1, 1), (2, 2), (3, 3), (4, 4)] = none by decide] at g0
  obtain ⟨B6, h6, k6⟩ := put_all 4 1 h5
  rw [show putL 4 1 [(1, 1), (2, 2), (3, 3), (4, 4)] = [(1, 1), (2, 2), (3, 3), (4, 4)] by decide] at h6
  rw [show putE 4 [(1, 1), (2, 2), (3, 3), (4, 4)] = 251 by decide] at k6
  have r2 := retire_all 2 h6
  rw [show lk 2 [(1, 1), (2, 2), (3, 3), (4, 4)] = some 2 by decide] at r2
  have h7 := h6.bar 2
  rw [show bar 2 [(1, 1), (2, 2), (3, 3), (4, 4)] = [(1, 1), (3, 3), (4, 4)] by decide] at h7
  have r3 := retire_all 2 h7
  rw [show lk 2 [(1, 1), (3, 3), (4, 4)] = none by decide] at r3
  have h8 := h7.bar 2
  rw [show bar 2 [(1, 1), (3, 3), (4, 4)] = [(1, 1), (3, 3), (4, 4)] by decide] at h8
  have nn := numbers_all h8
  refine e6 ?_
  conv => whnf
  refine CallsF.call [] [] new_all rfl rfl rfl rfl rfl (.inl rfl) ?_
  conv => whnf
  refine LoopA.steps 6 [0, 1, 10] [0, 1] [] (by rfl) ?_
  conv => whnf
  refine CallsF.call [] [] (one_spec 0) rfl rfl rfl rfl rfl (.inl rfl) ?_
  conv => whnf
  refine CallsF.call [0, 1] [] k1 rfl rfl rfl rfl rfl (.inl rfl) ?_
  conv => whnf
  first | refine pt_of [0, 1, 10] [0, 1] [] (by rfl) ?_ | refine ptw_of [0, 1, 10] [0, 1] [] (by rfl) ?_
  conv => whnf
  refine CallsF.call [] [] (one_spec 1) rfl rfl rfl rfl rfl (.inl rfl) ?_
  conv => whnf
  refine CallsF.call [0, 1] [] k2 rfl rfl rfl rfl rfl (.inl rfl) ?_
  conv => whnf
  first | refine pt_of [0, 1, 10] [0, 1] [] (by rfl) ?_ | refine ptw_of [0, 1, 10] [0, 1] [] (by rfl) ?_
  conv => whnf
  refine CallsF.call [] [] (one_spec 2) rfl rfl rfl rfl rfl (.inl rfl) ?_
  conv => whnf
  refine CallsF.call [0, 1] [] k3 rfl rfl rfl rfl rfl (.inl rfl) ?_
  conv => whnf
  first | refine pt_of [0, 1, 10] [0, 1] [] (by rfl) ?_ | refine ptw_of [0, 1, 10] [0, 1] [] (by rfl) ?_
  conv => whnf
  refine CallsF.call [] [] (one_spec 3) rfl rfl rfl rfl rfl (.inl rfl) ?_
  conv => whnf
  refine CallsF.call [0, 1] [] k4 rfl rfl rfl rfl rfl (.inl rfl) ?_
  conv => whnf
  first | refine pt_of [0, 1, 10] [0, 1] [] (by rfl) ?_ | refine ptw_of [0, 1, 10] [0, 1] [] (by rfl) ?_
  conv => whnf
  refine CallsF.call [] [] (one_spec 4) rfl rfl rfl rfl rfl (.inl rfl) ?_
  conv => whnf
  refine CallsF.call [0, 1] [] k5 rfl rfl rfl rfl rfl (.inl rfl) ?_
  conv => whnf
  first | refine pt_of [0, 1, 10] [0, 1] [] (by rfl) ?_ | refine ptw_of [0, 1, 10] [0, 1] [] (by rfl) ?_
  conv => whnf
  refine CallsF.call [0, 1] [] g4 rfl rfl rfl rfl rfl (.inl rfl) ?_
  conv => whnf
  refine CallsF.call [0, 1] [] g0 rfl rfl rfl rfl rfl (.inl rfl) ?_
  conv => whnf

  refine CallsF.call [] [] (one_spec 4) rfl rfl rfl rfl rfl (.inl rfl) ?_
  conv => whnf
  refine ⟨.inl ⟨_, rfl⟩, ?_⟩
  conv => whnf
  refine CallsF.call [] [] (same24_spec 4) rfl rfl rfl rfl rfl (.inl rfl) ?_
  conv => whnf
  refine CallsF.call [] [] (one_spec 1) rfl rfl rfl rfl rfl (.inl rfl) ?_
  conv => whnf
  refine CallsF.call [0, 1] [] k6 rfl rfl rfl rfl rfl (.inl rfl) ?_
  conv => whnf
  refine CallsF.call [0, 1] [] r2 rfl rfl rfl rfl rfl (.inl rfl) ?_
  conv => whnf
  refine CallsF.call [0, 1] [] r3 rfl rfl rfl rfl rfl (.inl rfl) ?_
  conv => whnf
  refine CallsF.call [0, 1] [] nn rfl rfl rfl rfl rfl (.inl rfl) ?_
  conv => whnf
  exact ⟨[], [], rfl, rfl, rfl⟩

end Go.Proofs.TryN

