/- Layer 40: how far films are apart, and the document's answer. -/
import Derived.Test.YtipafgbcdmgmbaaDoorN40J
namespace Go.Proofs.TrydN
open Go Go.AL Go.Proofs

theorem planes2_spec (p q : Pl) (hp : p.ok) (hq : q.ok) : CallsF Tryd.prog 16 [pl p.w p.h p.v, pl q.w q.h q.v] [] (gP p q).av [] := planes_spec p.w p.h p.v q.w q.h q.v hp hq
theorem rplanes2_spec (p q : Pl) (hp : p.ok) (hq : q.ok) : CallsF Tryd.prog 20 [pl p.w p.h p.v, pl q.w q.h q.v] [] (gP p q).av [] := rplanes_spec p.w p.h p.v q.w q.h q.v hp hq

theorem eq5 (a b c d e : Int) : (a == a && (b == b && (c == c && (d == d && (e == e && true))))) = true := by simp only [beq_self_eq_true, Bool.and_self]

set_option maxHeartbeats 4000000 in
set_option maxRecDepth 10000 in
theorem tells_spec (fs gs : List Fr) (hl : fs.length ≤ 9223372036854775807) (hl2 : gs.length ≤ 9223372036854775807) (hf : ∀ f ∈ fs, f.ok) (hg : ∀ f ∈ gs, f.ok) :
    CallsF Tryd.prog 6 [.ro 9 (fs.map Fr.row), .ro 9 (gs.map Fr.row)] [] (.bool true) [] := by
  have kf := films_spec fs gs hl hf hg
  have kg := films_spec gs fs hl2 hg hf
  rw [films_comm gs fs, Nat.min_comm] at kg
  obtain ⟨A, hA⟩ : ∃ rows, fs.map Fr.row = rows := ⟨_, rfl⟩
  obtain ⟨B, hB⟩ : ∃ rows, gs.map Fr.row = rows := ⟨_, rfl⟩
  have hAl : A.length = fs.length := by rw [← hA, List.length_map]
  have hBl : B.length = gs.length := by rw [← hB, List.length_map]
  rw [hA, hB] at kf kg ⊢
  obtain ⟨M, hM⟩ : ∃ M, min fs.length gs.length = M := ⟨_, rfl⟩
  rw [hM] at kf kg
  have hMi : (if ((B.length : Nat) : Int) < ((A.length : Nat) : Int) then ((B.length : Nat) : Int) else ((A.length : Nat) : Int)) = (M : Int) := by rw [min_cast, hAl, hBl, hM]
  refine e6 ?_
  conv => whnf
  refine CallsF.call [] [] first_spec rfl rfl rfl rfl rfl (.inl rfl) ?_
  conv => whnf
  refine LoopA.steps 3 [0, 1, 5, 19, 20, 21] [0] [] (by rfl) ?_
  conv => whnf
  refine LoopA.inv (fun n st => ∃ (i : Nat) (N : Int), n + i = fs.length ∧ st = ⟨[(0, .ro 9 A), (1, .ro 9 B), (5, iv N), (19, .sl 0 0 2), (20, iv 2), (21, iv 0), (25, .ro 9 A), (26, iv (A.length : Nat)), (27, iv i)], [some (.arr 1 [[.ro 9 A], [.ro 9 B]])], 1, 0⟩) fs.length [0, 1, 5, 19, 20, 21, 25, 26, 27] [0] [] (by rfl) ?_ ?_
  · conv => whnf
    exact ⟨0, 0, rfl, rfl⟩
  rintro n st ⟨i, N, hn, rfl⟩
  conv => whnf
  refine ifB_of (fun h5 => ?_) (fun h5 => ?_)
  · have h5 : i < fs.length := by have := of_decide_eq_true h5; omega
    have e1 := inc_nat2 (n := i) (by omega)
    have r0 := row_at hA h5
    generalize fs.getD i default = f at r0
    conv => whnf
    rw [aop_idxS_ro r0 rfl rfl]
    conv => whnf
    refine LoopA.steps 4 [0, 1, 5, 19, 20, 21, 25, 26, 27, 32, 33] [0] [] (by rfl) ?_
    conv => whnf
    refine pt_of [0, 1, 5, 19, 20, 21, 25, 26, 27, 32, 33] [0] [] (by rfl) ?_
    conv => whnf
    refine pt_of [0, 1, 5, 19, 20, 21, 25, 26, 27, 32, 33] [0] [] (by rfl) ?_
    conv => whnf
    refine pt_of [0, 1, 5, 19, 20, 21, 25, 26, 27, 32, 33] [0] [] (by rfl) ?_
    conv => whnf
    refine ⟨(fs.length - (i + 1)), [0, 1, 5, 19, 20, 21, 25, 26, 27], [0], [], by omega, rfl, ?_⟩
    conv => whnf
    refine ⟨i + 1, IntKind.wrap .i64 (IntKind.wrap .i64 (IntKind.wrap .i64 (N + (f.a.v.length : Nat)) + (f.b.v.length : Nat)) + (f.c.v.length : Nat)), by omega, ?_⟩
    rw [e1]
  have h5 : ¬i < fs.length := by have := of_decide_eq_false h5; omega
  obtain rfl : i = fs.length := by omega
  clear h5 hn
  conv => whnf
  refine pt_of [0, 1, 5, 19, 20, 21] [0] [] (by rfl) ?_
  conv => whnf
  refine LoopA.inv (fun n st => ∃ (i : Nat) (N : Int), n + i = gs.length ∧ st = ⟨[(0, .ro 9 A), (1, .ro 9 B), (5, iv N), (19, .sl 0 0 2), (20, iv 2), (21, iv 1), (25, .ro 9 B), (26, iv (B.length : Nat)), (27, iv i)], [some (.arr 1 [[.ro 9 A], [.ro 9 B]])], 1, 0⟩) gs.length [0, 1, 5, 19, 20, 21, 25, 26, 27] [0] [] (by rfl) ?_ ?_
  · conv => whnf
    exact ⟨0, N, rfl, rfl⟩
  rintro n st ⟨i, N, hn, rfl⟩
  conv => whnf
  refine ifB_of (fun h5 => ?_) (fun h5 => ?_)
  · have h5 : i < gs.length := by have := of_decide_eq_true h5; omega
    have e1 := inc_nat2 (n := i) (by omega)
    have r0 := row_at hB h5
    generalize gs.getD i default = f at r0
    conv => whnf
    rw [aop_idxS_ro r0 rfl rfl]
    conv => whnf
    refine LoopA.steps 4 [0, 1, 5, 19, 20, 21, 25, 26, 27, 32, 33] [0] [] (by rfl) ?_
    conv => whnf
    refine pt_of [0, 1, 5, 19, 20, 21, 25, 26, 27, 32, 33] [0] [] (by rfl) ?_
    conv => whnf
    refine pt_of [0, 1, 5, 19, 20, 21, 25, 26, 27, 32, 33] [0] [] (by rfl) ?_
    conv => whnf
    refine pt_of [0, 1, 5, 19, 20, 21, 25, 26, 27, 32, 33] [0] [] (by rfl) ?_
    conv => whnf
    refine ⟨(gs.length - (i + 1)), [0, 1, 5, 19, 20, 21, 25, 26, 27], [0], [], by omega, rfl, ?_⟩
    conv => whnf
    refine ⟨i + 1, IntKind.wrap .i64 (IntKind.wrap .i64 (IntKind.wrap .i64 (N + (f.a.v.length : Nat)) + (f.b.v.length : Nat)) + (f.c.v.length : Nat)), by omega, ?_⟩
    rw [e1]
  have h5 : ¬i < gs.length := by have := of_decide_eq_false h5; omega
  obtain rfl : i = gs.length := by omega
  clear h5 hn
  conv => whnf
  refine pt_of [0, 1, 5, 19, 20, 21] [0] [] (by rfl) ?_
  conv => whnf
  refine ifB_of (fun h6 => ?_) (fun h6 => ?_)
  · conv => whnf
    exact ⟨[], [], rfl, rfl, rfl⟩
  conv => whnf
  rw [hMi]
  refine LoopA.inv (fun n st => ∃ i : Nat, n + i = M ∧ st = ⟨[(0, .ro 9 A), (1, .ro 9 B), (12, .bp 0 0), (50, iv M), (51, iv i)], [some (.box [iv (films fs gs i).c, iv (films fs gs i).d, iv (films fs gs i).w, iv (films fs gs i).s, iv (films fs gs i).q])], 1, 0⟩) M [0, 1, 12, 50, 51] [1] [] (by rfl) ?_ ?_
  · conv => whnf
    exact ⟨0, rfl, rfl⟩
  rintro n st ⟨i, hn, rfl⟩
  have hs : films fs gs (i + 1) = (films fs gs i).join (gFr (fs.getD i default) (gs.getD i default)) := rfl
  obtain ⟨g, hgg⟩ : ∃ g, films fs gs i = g := ⟨_, rfl⟩
  rw [hgg] at hs ⊢
  conv => whnf
  refine ifB_of (fun h5 => ?_) (fun h5 => ?_)
  · have h5 : i < M := by have := of_decide_eq_true h5; omega
    have e1 := inc_nat2 (n := i) (by omega)
    have o0 := ok_at hf (i := i) (by omega)
    have o1 := ok_at hg (i := i) (by omega)
    have r0 := row_at hA (i := i) (by omega)
    have r1 := row_at hB (i := i) (by omega)
    generalize fs.getD i default = f at *
    generalize gs.getD i default = f2 at *
    have k0 := frames2_spec f f2 o0 o1
    have k1 := rframes2_spec f f2 o0 o1
    have k2 := planes2_spec f.a f2.a o0.1 o1.1
    have k3 := rplanes2_spec f.a f2.a o0.1 o1.1
    have j := both_spec g (gFr f f2)
    generalize gP f.a f2.a = y at *
    generalize gFr f f2 = x at *
    obtain ⟨u, hu⟩ : ∃ u, g.join x = u := ⟨_, rfl⟩
    rw [hu] at j hs
    obtain ⟨x0, x1, x2, x3, x4⟩ := x
    obtain ⟨y0, y1, y2, y3, y4⟩ := y
    replace k0 : CallsF Tryd.prog 19 [.agg f.row, .agg f2.row] [] (.agg [iv x0, iv x1, iv x2, iv x3, iv x4]) [] := k0
    replace k1 : CallsF Tryd.prog 18 [.agg f.row, .agg f2.row] [] (.agg [iv x0, iv x1, iv x2, iv x3, iv x4]) [] := k1
    replace k2 : CallsF Tryd.prog 16 [pl f.a.w f.a.h f.a.v, pl f2.a.w f2.a.h f2.a.v] [] (.agg [iv y0, iv y1, iv y2, iv y3, iv y4]) [] := k2
    replace k3 : CallsF Tryd.prog 20 [pl f.a.w f.a.h f.a.v, pl f2.a.w f2.a.h f2.a.v] [] (.agg [iv y0, iv y1, iv y2, iv y3, iv y4]) [] := k3
    conv => whnf
    rw [aop_idxS_ro r0 rfl rfl]
    conv => whnf
    rw [aop_idxS_ro r1 rfl rfl]
    conv => whnf
    refine CallsF.call [] [] k1 rfl rfl rfl rfl rfl (.inl rfl) ?_
    conv => whnf
    rw [aop_idxS_ro r0 rfl rfl]
    conv => whnf
    rw [aop_idxS_ro r1 rfl rfl]
    conv => whnf
    refine CallsF.call [] [] k0 rfl rfl rfl rfl rfl (.inl rfl) ?_
    conv => whnf
    refine ⟨.inl ⟨_, rfl⟩, ?_⟩
    conv => whnf
    rw [eq5]
    conv => whnf
    rw [aop_idxS_ro r0 rfl rfl]
    conv => whnf
    rw [aop_idxS_ro r1 rfl rfl]
    conv => whnf
    rw [aop_idxS_ro r0 rfl rfl]
    conv => whnf
    rw [aop_idxS_ro r1 rfl rfl]
    conv => whnf
    refine CallsF.call [] [] k2 rfl rfl rfl rfl rfl (.inl rfl) ?_
    conv => whnf
    refine ⟨.inl ⟨_, rfl⟩, ?_⟩
    conv => whnf
    refine CallsF.call [] [] k3 rfl rfl rfl rfl rfl (.inl rfl) ?_
    conv => whnf
    rw [eq5]
    conv => whnf
    refine CallsF.call [] [] j rfl rfl rfl rfl rfl (.inl rfl) ?_
    conv => whnf
    refine ⟨(M - (i + 1)), [0, 1, 12, 50, 51], [0], [], by omega, rfl, ?_⟩
    conv => whnf
    refine ⟨i + 1, by omega, ?_⟩
    rw [e1, hs]
  · have h5 : ¬i < M := by have := of_decide_eq_false h5; omega
    obtain rfl : i = M := by omega
    rw [hgg] at kf kg
    obtain ⟨u0, u1, u2, u3, u4⟩ := g
    replace kf : CallsF Tryd.prog 22 [.ro 9 A, .ro 9 B] [] (.agg [iv u0, iv u1, iv u2, iv u3, iv u4]) [] := kf
    replace kg : CallsF Tryd.prog 22 [.ro 9 B, .ro 9 A] [] (.agg [iv u0, iv u1, iv u2, iv u3, iv u4]) [] := kg
    have j0 := join_spec ⟨u0, u1, u2, u3, u4⟩ ⟨u0, u1, u2, u3, u4⟩
    have j1 := both_spec ⟨u0, u1, u2, u3, u4⟩ ⟨u0, u1, u2, u3, u4⟩
    obtain ⟨⟨q0, q1, q2, q3, q4⟩, hq⟩ : ∃ q, G.join ⟨u0, u1, u2, u3, u4⟩ ⟨u0, u1, u2, u3, u4⟩ = q := ⟨_, rfl⟩
    rw [hq] at j0 j1
    replace j0 : CallsF Tryd.prog 23 [.agg [iv u0, iv u1, iv u2, iv u3, iv u4], .agg [iv u0, iv u1, iv u2, iv u3, iv u4]] [] (.agg [iv q0, iv q1, iv q2, iv q3, iv q4]) [] := j0
    replace j1 : CallsF Tryd.prog 21 [.agg [iv u0, iv u1, iv u2, iv u3, iv u4], .agg [iv u0, iv u1, iv u2, iv u3, iv u4]] [] (.agg [iv q0, iv q1, iv q2, iv q3, iv q4]) [] := j1
    conv => whnf
    refine CallsF.call [] [] kf rfl rfl rfl rfl rfl (.inl rfl) ?_
    conv => whnf
    refine ⟨.inl ⟨_, rfl⟩, ?_⟩
    conv => whnf
    rw [eq5]
    conv => whnf
    refine CallsF.call [] [] kg rfl rfl rfl rfl rfl (.inl rfl) ?_
    conv => whnf
    refine ⟨.inl ⟨_, rfl⟩, ?_⟩
    conv => whnf
    rw [eq5]
    conv => whnf
    refine CallsF.call [] [] j0 rfl rfl rfl rfl rfl (.inl rfl) ?_
    conv => whnf
    refine ⟨.inl ⟨_, rfl⟩, ?_⟩
    conv => whnf
    refine CallsF.call [] [] j1 rfl rfl rfl rfl rfl (.inl rfl) ?_
    conv => whnf
    exact ⟨[], [], rfl, congrArg AV.bool (eq5 q0 q1 q2 q3 q4), rfl⟩

end Go.Proofs.TrydN

