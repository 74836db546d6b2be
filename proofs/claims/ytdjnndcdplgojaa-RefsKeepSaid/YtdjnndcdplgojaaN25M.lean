/- Layer 25: frames that are still one's own, put and got; the law of keeping. -/
import Derived.Test.YtdjnndcdplgojaaN25J
namespace Go.Proofs.TryN
open Go Go.AL Go.Proofs Go.Sort Go.Shelf

theorem clone_of (x : Int) : CallsF Try.prog 21 [.sl 0 0 1] [some (.ia .i64 [x])] (.ri .i64 [x]) [some (.ia .i64 [x])] := by
  refine e21 ?_
  conv => whnf
  conv => whnf
  exact ⟨[], [1], rfl, rfl, rfl⟩

set_option maxRecDepth 10000 in
theorem copied_of (w0 h0 x0 w1 h1 x1 w2 h2 x2 : Int) : CallsF Try.prog 17 [.agg [iv w0, iv h0, .sl 0 0 1, iv w1, iv h1, .sl 1 0 1, iv w2, iv h2, .sl 2 0 1]] [some (.ia .i64 [x0]), some (.ia .i64 [x1]), some (.ia .i64 [x2])]
    (.agg [iv w0, iv h0, .ri .i64 [x0], iv w1, iv h1, .ri .i64 [x1], iv w2, iv h2, .ri .i64 [x2]]) [some (.ia .i64 [x0]), some (.ia .i64 [x1]), some (.ia .i64 [x2])] := by
  refine e17 ?_
  conv => whnf
  refine LoopA.steps 4 [1, 2, 4] [3, 4] [] (by rfl) ?_
  conv => whnf
  refine CallsF.call [0] [] (clone_of x0) rfl rfl rfl rfl rfl (.inl rfl) ?_
  conv => whnf
  first | refine pt_of [1, 2, 4] [3, 4] [] (by rfl) ?_ | refine ptw_of [1, 2, 4] [3, 4] [] (by rfl) ?_
  conv => whnf
  refine CallsF.call [1] [] (clone_of x1) rfl rfl rfl rfl rfl (.inl rfl) ?_
  conv => whnf
  first | refine pt_of [1, 2, 4] [3, 4] [] (by rfl) ?_ | refine ptw_of [1, 2, 4] [3, 4] [] (by rfl) ?_
  conv => whnf
  refine CallsF.call [2] [] (clone_of x2) rfl rfl rfl rfl rfl (.inl rfl) ?_
  conv => whnf
  first | refine pt_of [1, 2, 4] [3, 4] [] (by rfl) ?_ | refine ptw_of [1, 2, 4] [3, 4] [] (by rfl) ?_
  conv => whnf
  exact ⟨[], [], rfl, rfl, rfl⟩

/-- The three numbers of a frame. -/
def n3 (v : Int) : AHeap := [some (.ia .i64 [IntKind.wrap .i64 (v + 0)]), some (.ia .i64 [IntKind.wrap .i64 (v + 1)]), some (.ia .i64 [IntKind.wrap .i64 (v + 2)])]

set_option maxRecDepth 10000 in
theorem put_own (n v : Int) (h0 : 0 ≤ n) (h1 : n ≤ 2147483647) :
    CallsF Try.prog 8 [.bp 0 0, iv n, .agg [iv 1, iv 1, .sl 2 0 1, iv 1, iv 1, .sl 3 0 1, iv 1, iv 1, .sl 4 0 1]] (bufH [] ++ n3 v) (iv 0) (bufH [(n, v)] ++ n3 v) := by
  have k := fun a b c => copied_of 1 1 a 1 1 b 1 1 c
  rw [show bufH [] = [some (.box [.map 1]), some (.mp [])] from rfl, show bufH [(n, v)] = [some (.box [.map 1]), some (.mp [(n, .agg (frow v))])] from rfl]
  unfold frow n3
  generalize IntKind.wrap .i64 (v + 0) = a0 at *
  generalize IntKind.wrap .i64 (v + 1) = a1 at *
  generalize IntKind.wrap .i64 (v + 2) = a2 at *
  refine e8 ?_
  conv => whnf
  refine ifB_of (fun h => absurd (of_decide_eq_true h) (by omega)) (fun _ => ?_)
  conv => whnf
  refine ifB_of (fun h => absurd (of_decide_eq_true h) (by omega)) (fun _ => ?_)
  conv => whnf
  refine CallsF.call [2, 3, 4] [] (k a0 a1 a2) rfl rfl rfl rfl rfl (.inl rfl) ?_
  conv => whnf
  refine ⟨.inl ⟨_, rfl⟩, ?_⟩
  conv => whnf
  exact ⟨[], [], rfl, rfl, rfl⟩

set_option maxRecDepth 10000 in
theorem get_own (n v : Int) : CallsF Try.prog 11 [.bp 0 0, iv n] (bufH [(n, v)]) (.tup [.agg [iv 1, iv 1, .sl 2 0 1, iv 1, iv 1, .sl 3 0 1, iv 1, iv 1, .sl 4 0 1], .bool true]) (bufH [(n, v)] ++ n3 v) := by
  have h : mpGet n (ents [(n, v)]) = some (.agg (frow v)) := by rw [get_ents, lk, if_pos rfl]; rfl
  unfold bufH n3
  generalize ents [(n, v)] = es at *
  unfold frow at *
  have k := fun a b c => copied_own 1 1 a 1 1 b 1 1 c
  generalize IntKind.wrap .i64 (v + 0) = a0 at *
  generalize IntKind.wrap .i64 (v + 1) = a1 at *
  generalize IntKind.wrap .i64 (v + 2) = a2 at *
  refine e11 ?_
  conv => whnf
  rw [h]
  conv => whnf
  refine CallsF.call [] [] (k a0 a1 a2) rfl rfl rfl rfl rfl (.inl rfl) ?_
  conv => whnf
  exact ⟨[4, 5, 6], [], rfl, rfl, rfl⟩

theorem get_frz (n v : Int) : CallsF Try.prog 11 [.bp 0 0, iv n] (bufH [(n, v)]) (.tup [.agg (frow v), .bool true]) (bufH [(n, v)]) :=
  get_some n v _ (by rw [get_ents, lk, if_pos rfl]; rfl)

set_option maxRecDepth 20000 in
theorem keep_spec (n v : Int) (h0 : 0 ≤ n) (h1 : n ≤ 65535) : CallsF Try.prog 4 [.int .u16 n, iv v] [] (.bool true) [] := by
  have e1 : IntKind.wrap .i64 n = n := by rw [IntKind.wrap_i64]; omega
  have kp := put_own n v h0 (by omega)
  have kg := get_own n v
  have kf := get_frz n v
  have ks := same24_spec v
  have k1 := one_spec v
  have ko := one_own v
  rw [show bufH [] = [some (.box [.map 1]), some (.mp [])] from rfl, show bufH [(n, v)] = [some (.box [.map 1]), some (.mp [(n, .agg (frow v))])] from rfl] at kp
  rw [show bufH [(n, v)] = [some (.box [.map 1]), some (.mp [(n, .agg (frow v))])] from rfl] at kg kf
  unfold n3 frow at *
  generalize IntKind.wrap .i64 (v + 0) = a0 at *
  generalize IntKind.wrap .i64 (v + 1) = a1 at *
  generalize IntKind.wrap .i64 (v + 2) = a2 at *
  refine e4 ?_
  conv => whnf
  refine CallsF.call [] [] first_spec rfl rfl rfl rfl rfl (.inl rfl) ?_
  conv => whnf
  refine CallsF.call [] [] new_all rfl rfl rfl rfl rfl (.inl rfl) ?_
  conv => whnf
  refine CallsF.call [] [] ko rfl rfl rfl rfl rfl (.inl rfl) ?_
  conv => whnf
  rw [e1]
  conv => whnf
  refine CallsF.call [0, 1, 2, 3, 4] [] kp rfl rfl rfl rfl rfl (.inl rfl) ?_
  conv => whnf
  rw [e1]
  conv => whnf
  refine CallsF.call [0, 1] [] kg rfl rfl rfl rfl rfl (.inl rfl) ?_
  conv => whnf
  refine CallsF.call [] [] k1 rfl rfl rfl rfl rfl (.inl rfl) ?_
  conv => whnf
  refine ⟨.inl ⟨_, rfl⟩, ?_⟩
  conv => whnf
  refine CallsF.call [] [6, 7, 8] ks rfl rfl rfl rfl rfl (.inr rfl) ?_
  conv => whnf
  rw [e1]
  conv => whnf
  refine CallsF.call [0, 1] [] kf rfl rfl rfl rfl rfl (.inl rfl) ?_
  conv => whnf
  refine CallsF.call [] [] k1 rfl rfl rfl rfl rfl (.inl rfl) ?_
  conv => whnf
  refine ⟨.inl ⟨_, rfl⟩, ?_⟩
  conv => whnf
  refine CallsF.call [] [] ks rfl rfl rfl rfl rfl (.inl rfl) ?_
  conv => whnf
  exact ⟨[], [], rfl, rfl, rfl⟩

end Go.Proofs.TryN

