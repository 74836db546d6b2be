/- Layer 25: what a buffer gives, and what is retired. -/
import Derived.Test.YtdjnndcdplgojaaN25B
namespace Go.Proofs.TryN
open Go Go.AL Go.Proofs

set_option maxRecDepth 10000 in
theorem get_none (n : Int) (es : List (Int × AV)) (h : mpGet n es = none) : CallsF Try.prog 11 [.bp 0 0, iv n] [some (.box [.map 1]), some (.mp es)] (.tup [.agg zrow, .bool false]) [some (.box [.map 1]), some (.mp es)] := by
  refine e11 ?_
  conv => whnf
  rw [h]
  conv => whnf
  refine CallsF.call [] [] copied_zero rfl rfl rfl rfl rfl (.inl rfl) ?_
  conv => whnf
  exact ⟨[], [], rfl, rfl, rfl⟩

set_option maxRecDepth 10000 in
theorem get_some (n v : Int) (es : List (Int × AV)) (h : mpGet n es = some (.agg (frow v))) : CallsF Try.prog 11 [.bp 0 0, iv n] [some (.box [.map 1]), some (.mp es)] (.tup [.agg (frow v), .bool true]) [some (.box [.map 1]), some (.mp es)] := by
  unfold frow at *
  have k := fun a b c => copied_frz 1 1 a 1 1 b 1 1 c
  generalize IntKind.wrap .i64 (v + 0) = a0 at *
  generalize IntKind.wrap .i64 (v + 1) = a1 at *
  generalize IntKind.wrap .i64 (v + 2) = a2 at *
  refine e11 ?_
  conv => whnf
  rw [h]
  conv => whnf
  refine CallsF.call [] [] (k a0 a1 a2) rfl rfl rfl rfl rfl (.inl rfl) ?_
  conv => whnf
  exact ⟨[], [], rfl, rfl, rfl⟩

set_option maxRecDepth 10000 in
theorem get_nil (n : Int) : CallsF Try.prog 11 [.pnil, iv n] [] (.tup [.agg zrow, .bool false]) [] := by
  refine e11 ?_
  conv => whnf
  conv => whnf
  exact ⟨[], [], rfl, rfl, rfl⟩

set_option maxRecDepth 10000 in
theorem retire_nil (n : Int) : CallsF Try.prog 14 [.pnil, iv n] [] (.bool false) [] := by
  refine e14 ?_
  conv => whnf
  conv => whnf
  exact ⟨[], [], rfl, rfl, rfl⟩

set_option maxRecDepth 10000 in
theorem retire_none (n : Int) (es : List (Int × AV)) (h : mpGet n es = none) : CallsF Try.prog 14 [.bp 0 0, iv n] [some (.box [.map 1]), some (.mp es)] (.bool false) [some (.box [.map 1]), some (.mp (mpDel n es))] := by
  refine e14 ?_
  conv => whnf
  rw [h]
  conv => whnf
  exact ⟨[], [], rfl, rfl, rfl⟩

set_option maxRecDepth 10000 in
theorem retire_some (n v : Int) (es : List (Int × AV)) (h : mpGet n es = some (.agg (frow v))) : CallsF Try.prog 14 [.bp 0 0, iv n] [some (.box [.map 1]), some (.mp es)] (.bool true) [some (.box [.map 1]), some (.mp (mpDel n es))] := by
  refine e14 ?_
  conv => whnf
  rw [h]
  conv => whnf
  exact ⟨[], [], rfl, rfl, rfl⟩

end Go.Proofs.TryN

