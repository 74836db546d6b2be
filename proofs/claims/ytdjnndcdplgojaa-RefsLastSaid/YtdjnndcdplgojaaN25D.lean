/- Layer 25: a frame is put. -/
import Derived.Test.YtdjnndcdplgojaaN25P
namespace Go.Proofs.TryN
open Go Go.AL Go.Proofs

set_option maxRecDepth 10000 in
theorem put_nil (n v : Int) : CallsF Try.prog 8 [.pnil, iv n, .agg (frow v)] [] (iv 1) [] := by
  refine e8 ?_
  conv => whnf
  conv => whnf
  exact ⟨[], [], rfl, rfl, rfl⟩

set_option maxRecDepth 10000 in
theorem put_low (n v : Int) (hn : n < 0) (es : List (Int × AV)) : CallsF Try.prog 8 [.bp 0 0, iv n, .agg (frow v)] [some (.box [.map 1]), some (.mp es)] (iv 2) [some (.box [.map 1]), some (.mp es)] := by
  refine e8 ?_
  conv => whnf
  refine ifB_of (fun _ => ?_) (fun h => ((of_decide_eq_false h) (by omega)).elim)
  conv => whnf
  exact ⟨[], [], rfl, rfl, rfl⟩

set_option maxRecDepth 10000 in
theorem put_high (n v : Int) (hn : 2147483647 < n) (es : List (Int × AV)) : CallsF Try.prog 8 [.bp 0 0, iv n, .agg (frow v)] [some (.box [.map 1]), some (.mp es)] (iv 2) [some (.box [.map 1]), some (.mp es)] := by
  refine e8 ?_
  conv => whnf
  refine ifB_of (fun h => absurd (of_decide_eq_true h) (by omega)) (fun _ => ?_)
  conv => whnf
  refine ifB_of (fun _ => ?_) (fun h => ((of_decide_eq_false h) (by omega)).elim)
  conv => whnf
  exact ⟨[], [], rfl, rfl, rfl⟩

set_option maxRecDepth 10000 in
theorem put_twice (n v u : Int) (h0 : 0 ≤ n) (h1 : n ≤ 2147483647) (es : List (Int × AV)) (h : mpGet n es = some (.agg (frow u))) : CallsF Try.prog 8 [.bp 0 0, iv n, .agg (frow v)] [some (.box [.map 1]), some (.mp es)] (iv 251) [some (.box [.map 1]), some (.mp es)] := by
  refine e8 ?_
  conv => whnf
  refine ifB_of (fun h => absurd (of_decide_eq_true h) (by omega)) (fun _ => ?_)
  conv => whnf
  refine ifB_of (fun h => absurd (of_decide_eq_true h) (by omega)) (fun _ => ?_)
  conv => whnf
  rw [h]
  conv => whnf
  exact ⟨[], [], rfl, rfl, rfl⟩

set_option maxRecDepth 10000 in
theorem put_new (n v : Int) (h0 : 0 ≤ n) (h1 : n ≤ 2147483647) (es : List (Int × AV)) (h : mpGet n es = none) (hl : es.length < 4) : CallsF Try.prog 8 [.bp 0 0, iv n, .agg (frow v)] [some (.box [.map 1]), some (.mp es)] (iv 0) [some (.box [.map 1]), some (.mp (mpSet n (.agg (frow v)) es))] := by
  unfold frow at *
  have k := fun a b c => copied_frz 1 1 a 1 1 b 1 1 c
  generalize IntKind.wrap .i64 (v + 0) = a0 at *
  generalize IntKind.wrap .i64 (v + 1) = a1 at *
  generalize IntKind.wrap .i64 (v + 2) = a2 at *
  refine e8 ?_
  conv => whnf
  refine ifB_of (fun h => absurd (of_decide_eq_true h) (by omega)) (fun _ => ?_)
  conv => whnf
  refine ifB_of (fun h => absurd (of_decide_eq_true h) (by omega)) (fun _ => ?_)
  conv => whnf
  rw [h]
  conv => whnf
  refine ifB_of (fun h => absurd (of_decide_eq_true h) (by omega)) (fun _ => ?_)
  conv => whnf
  refine CallsF.call [] [] (k a0 a1 a2) rfl rfl rfl rfl rfl (.inl rfl) ?_
  conv => whnf
  refine ⟨.inl ⟨_, rfl⟩, ?_⟩
  conv => whnf
  exact ⟨[], [], rfl, rfl, rfl⟩

set_option maxRecDepth 10000 in
theorem put_full (n v q : Int) (qs : List Int) (h0 : 0 ≤ n) (h1 : n ≤ 2147483647) (es : List (Int × AV)) (h : mpGet n es = none) (hl : es.length = 4) (hw : ∀ p ∈ es, 0 ≤ p.1 ∧ p.1 ≤ 2147483647) (hq : keysU es = q :: qs) :
    CallsF Try.prog 8 [.bp 0 0, iv n, .agg (frow v)] [some (.box [.map 1]), some (.mp es)] (iv 0) [some (.box [.map 1]), some (.mp (mpSet n (.agg (frow v)) (mpDel q es)))] := by
  have kn := numbers_spec es (by omega) hw (by intro he; rw [he] at hl; simp at hl)
  rw [hq] at kn
  unfold frow at *
  have k := fun a b c => copied_frz 1 1 a 1 1 b 1 1 c
  generalize IntKind.wrap .i64 (v + 0) = a0 at *
  generalize IntKind.wrap .i64 (v + 1) = a1 at *
  generalize IntKind.wrap .i64 (v + 2) = a2 at *
  refine e8 ?_
  conv => whnf
  refine ifB_of (fun h => absurd (of_decide_eq_true h) (by omega)) (fun _ => ?_)
  conv => whnf
  refine ifB_of (fun h => absurd (of_decide_eq_true h) (by omega)) (fun _ => ?_)
  conv => whnf
  rw [h]
  conv => whnf
  refine ifB_of (fun _ => ?_) (fun h => ((of_decide_eq_false h) (by omega)).elim)
  conv => whnf
  refine CallsF.call [0, 1] [] kn rfl rfl rfl rfl rfl (.inl rfl) ?_
  conv => whnf
  refine ⟨.inl ⟨_, rfl⟩, ?_⟩
  conv => whnf
  refine need_of ((by simp)) ?_
  conv => whnf
  refine CallsF.call [] [] (k a0 a1 a2) rfl rfl rfl rfl rfl (.inl rfl) ?_
  conv => whnf
  refine ⟨.inl ⟨_, rfl⟩, ?_⟩
  conv => whnf
  exact ⟨[], [], rfl, rfl, rfl⟩

end Go.Proofs.TryN

