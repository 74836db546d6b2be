/- Rows that are read at a place that isn't known. Seat-independent. -/
import Derived.Test.YtamgmfinkgdkjaaDoorAL27
namespace Go.AL

theorem nth_get {α : Type} : ∀ (l : List α) (i : Nat), nth l i = l[i]?
  | [], i => by cases i <;> rfl
  | x :: xs, 0 => rfl
  | x :: xs, i + 1 => by rw [nth, nth_get xs i]; simp

section
variable {tm : List (Nat × AV)} {hp : AHeap} {hn : Nat}

theorem aop_loadN_arr {n : Nat} {a : Opd} {b i j s : Nat} {rows : List (List AV)} {row l : List AV} (hr : nth rows i = some row) (he : ev tm a = .ep b i j) (hb : nth hp b = some (some (.arr s rows))) (hl : part row j n = some l) :
    aop tm hp hn (.loadN n a) = some (true, .agg l, .keep) := by
  simp only [aop, he, readAt, hb, hr, hl, Option.map_some]

theorem aop_load1_arr {a : Opd} {b i j s : Nat} {rows : List (List AV)} {row : List AV} {v : AV} (hr : nth rows i = some row) (he : ev tm a = .ep b i j) (hb : nth hp b = some (some (.arr s rows))) (hl : part row j 1 = some [v]) :
    aop tm hp hn (.load1 a) = some (true, v, .keep) := by
  simp only [aop, he, readAt, hb, hr, hl, Option.map_some]

theorem aop_idxS_ro {x i : Opd} {s : Nat} {k : IntKind} {n : Int} {rows : List (List AV)} {row : List AV} (hr : nth rows n.toNat = some row) (hx : ev tm x = .ro s rows) (hi : ev tm i = .int k n) :
    aop tm hp hn (.idxS s x i) = some (decide (0 ≤ n), .rp row 0, .keep) := by
  have : Nat.beq s s = true := by simp
  simp only [aop, hx, hi, hr, this]

theorem same_of {hp' : AHeap} {x : Nat × AOp} {xs : List (Nat × AOp)} (h : aop tm hp hn x.2 = aop tm hp' hn x.2) (k : same tm hp hp' hn xs) : same tm hp hp' hn (x :: xs) := ⟨h, k⟩
theorem same_nil {hp' : AHeap} : same tm hp hp' hn [] := trivial
end
end Go.AL
