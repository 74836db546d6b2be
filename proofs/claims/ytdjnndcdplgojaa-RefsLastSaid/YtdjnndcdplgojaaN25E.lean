/- Layer 25: a call's answer, seen as another; the document's Get. -/
import Derived.Test.YtdjnndcdplgojaaN25D
namespace Go.Proofs.TryN
open Go Go.AL Go.Proofs

theorem leH {P : Program} {f : FuncId} {args : List AV} {h hv hv' : AHeap} {v v' : AV} (hc : CallsF P f args h v hv) (h1 : v.le v') (hl : hv.length = hv'.length) (hp : ∀ (k : Nat) x y, hv[k]? = some x → hv'[k]? = some y → oleB x y) : CallsF P f args h v' hv' := by
  refine fun E cs H hT hlen ha => (hc E cs H hT hlen ha).mono ?_
  rintro e w' ⟨v, r, h', E', g1, ⟨rfl, rfl⟩, g3, g4, g5, g6⟩
  exact ⟨v, _, _, E', g1, ⟨rfl, rfl⟩, g3, g4, g5.le hl hp, h1 _ _ _ _ g6⟩

/-- A frame and its number. -/
def irow (x : Int × Int) : List AV := iv x.1 :: frow x.2

/-- What a list tells of a number. -/
def lk (n : Int) : List (Int × Int) → Option Int
  | [] => none
  | x :: r => if x.1 = n then some x.2 else lk n r

def frO : Option Int → List AV
  | some v => frow v
  | none => zrow

theorem rows_at (L : List (Int × Int)) (i : Nat) (hi : i < (L.map irow).length) : ∃ x, nth (L.map irow) (i : Int).toNat = some (irow x) ∧ L.drop i = x :: L.drop (i + 1) := by
  rw [List.length_map] at hi
  refine ⟨L[i], ?_, (List.drop_eq_getElem_cons hi)⟩
  rw [Int.toNat_natCast, nth_get, List.getElem?_map, List.getElem?_eq_getElem hi]; rfl

theorem inc_nat (i : Nat) (h : i < 1000000) : IntKind.wrap .i64 ((i : Int) + 1) = ((i + 1 : Nat) : Int) := by
  rw [IntKind.wrap_i64]; omega

theorem isNil (L : List (Int × Int)) (i : Nat) (h : (L.map irow).length ≤ i) : L.drop i = [] := by
  rw [List.length_map] at h
  exact List.drop_eq_nil_of_le h

set_option maxRecDepth 10000 in
theorem rget_spec (n : Int) (L : List (Int × Int)) (hL : L.length < 1000) : CallsF Try.prog 12 [.bp 0 0, iv n] [some (.box [.ro 10 (L.map irow)])] (.tup [.agg (frO (lk n L)), .bool (lk n L).isSome]) [some (.box [.ro 10 (L.map irow)])] := by
  have hat := rows_at L
  have hnil := isNil L
  have hlen : (L.map irow).length < 1000 := by rw [List.length_map]; exact hL
  generalize L.map irow = rows at *
  refine e12 ?_
  conv => whnf
  refine LoopA.inv (fun m st => ∃ i : Nat, m + i = rows.length ∧ lk n (L.drop i) = lk n L ∧ st = ⟨[(1, iv n), (4, .bp 1 0), (5, .bool false), (11, .ro 10 rows), (12, iv (rows.length : Nat)), (13, iv i)], [some (.box [.ro 10 rows]), some (.box zrow)], 2, 1⟩) rows.length [1, 4, 5, 11, 12, 13] [1] [] (by rfl) ?_ ?_
  · conv => whnf
    exact ⟨0, rfl, rfl, rfl⟩
  rintro m st ⟨i, hm, hk, rfl⟩
  conv => whnf
  refine ifB_of (fun h1 => ?_) (fun h1 => ?_)
  · have h1 : i < rows.length := by have := of_decide_eq_true h1; omega
    obtain ⟨x, hx, hd⟩ := hat i h1
    rw [hd, lk] at hk
    conv => whnf
    rw [aop_idxS_ro hx rfl rfl]
    conv => whnf
    refine need_of ((decide_eq_true (Int.natCast_nonneg i))) ?_
    conv => whnf
    refine ifB_of (fun h2 => ?_) (fun h2 => ?_)
    · have h2 : x.1 = n := by simpa using h2
      rw [if_pos h2] at hk
      rw [← hk]
      conv => whnf
      exact ⟨[], [], rfl, rfl, rfl⟩
    have h2 : x.1 ≠ n := by simpa using h2
    rw [if_neg h2] at hk
    conv => whnf
    rw [inc_nat i (by omega)]
    refine ⟨(rows.length - (i + 1)), [1, 4, 5, 11, 12, 13], [1], [], by omega, rfl, ?_⟩
    conv => whnf
    exact ⟨i + 1, by omega, hk, rfl⟩
  have h1 : rows.length ≤ i := by have := of_decide_eq_false h1; omega
  rw [hnil i h1, lk] at hk
  rw [← hk]
  conv => whnf
  exact ⟨[], [], rfl, rfl, rfl⟩

end Go.Proofs.TryN

