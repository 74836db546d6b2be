/- Layer 26: an item is put among those that wait, and the first one is taken off: the library's Insert and Delete. -/
import Derived.Test.YtdcpobifckmoaaaAL38
import Derived.Test.YtdcpobifckmoaaaN26C
namespace Go.Proofs.TryN
open Go Go.AL Go.Proofs

/-- Rows with one more at a place. -/
def insR (rows : List (List AV)) (i : Nat) (v : List AV) : List (List AV) := rows.take i ++ v :: rows.drop i

theorem insR_len (rows : List (List AV)) (i : Nat) (v : List AV) (h : i ≤ rows.length) : (insR rows i v).length = rows.length + 1 := by
  simp [insR]; omega

set_option maxRecDepth 10000 in
/-- To nothing. -/
theorem insert0_spec (x : Int × Int) : CallsF Try.prog 18 [.snil, iv 0, .sl 0 0 1] [some (.arr 10 [irow x])] (.sl 1 0 1) [some (.arr 10 [irow x]), some (.arr 10 [irow x])] := by
  refine e18 ?_
  conv => whnf
  exact ⟨[1], [], rfl, rfl, rfl⟩

theorem aop_append_in {tm : List (Nat × AV)} {hp : AHeap} {hn bytes s b i n c : Nat} {x y : Opd} {rows ys : List (List AV)} (hx : ev tm x = .slc b i n c) (hb : nth hp b = some (some (.arr s rows))) (hy : srcV hp s (ev tm y) = .rows ys) (hc : n + ys.length ≤ c) :
    aop tm hp hn (.append bytes s x y) = some (ys.all (fun r => r.all closed), .slc b i (n + ys.length) c, .put b (.arr s (rows.take (i + n) ++ ys ++ rows.drop (i + n + ys.length)))) := by
  simp only [aop, hx, hb, hy, Nat.beq_refl, Nat.ble_eq_true_of_le hc]

theorem aop_append_new {tm : List (Nat × AV)} {hp : AHeap} {hn bytes s b i n c : Nat} {x y : Opd} {rows ys : List (List AV)} (hx : ev tm x = .slc b i n c) (hb : nth hp b = some (some (.arr s rows))) (hy : srcV hp s (ev tm y) = .rows ys) (hc : c < n + ys.length) :
    aop tm hp hn (.append bytes s x y) = some (decide ((bytes + 1) * (n + ys.length) ≤ 2 ^ 46), .sl hn 0 (n + ys.length), .push (.arr s ((rows.drop i).take n ++ ys))) := by
  have : Nat.ble (n + ys.length) c = false := by
    cases h : Nat.ble (n + ys.length) c
    · rfl
    · have := Nat.le_of_ble_eq_true h; omega
  simp only [aop, hx, hb, hy, Nat.beq_refl, this]

set_option maxRecDepth 10000 in
theorem delete_spec (r : List AV) (rows : List (List AV)) (h : rows.length < 1000000) (hr : rows.all (fun r => r.all closed) = true) : CallsF Try.prog 20 [.sl 0 0 (rows.length + 1), iv 0, iv 1] [some (.arr 10 (r :: rows))] (.sl 1 0 rows.length) [none, some (.arr 10 rows)] := by
  refine CallsA.full (by simp) rfl rfl rfl fun q => ?_
  have e0 : ((r :: rows ++ junkRows q 10).drop (0 + Int.toNat 1)).take (rows.length + 1 - Int.toNat 1) = rows := by
    show (rows ++ junkRows q 10).take (rows.length + 1 - 1) = rows
    rw [Nat.add_sub_cancel, List.take_left]
  refine e20 ?_
  conv => whnf
  refine need_of ((decide_eq_true ⟨by omega, by omega, by omega, by omega⟩)) ?_
  conv => whnf
  refine need_of ((decide_eq_true ⟨by omega, by omega, by omega⟩)) ?_
  conv => whnf
  rw [aop_append_in (rows := r :: rows ++ junkRows q 10) (ys := rows) rfl rfl (by exact congrArg Rows.rows e0) (by simp only [Int.toNat_zero]; omega), hr]
  conv => whnf
  have eL : Int.toNat 0 - Int.toNat 0 + rows.length = rows.length := by simp only [Int.toNat_zero]; omega
  rw [eL]
  refine need_of ((decide_eq_true ⟨by omega, by omega, by simp only [Int.toNat_zero]; omega⟩)) ?_
  conv => whnf
  refine ⟨[], [], rfl, .inl ⟨_, ?_, rfl, ?_⟩⟩
  · show AV.slc 0 (0 + Int.toNat 0) rows.length (rows.length + 1 + q - Int.toNat 0) = _
    rw [Int.toNat_zero, Nat.sub_zero]
  · show List.take rows.length (List.take (0 + Int.toNat 0 + (rows.length : Int).toNat) (List.take (0 + Int.toNat 0 + (Int.toNat 0 - Int.toNat 0)) (r :: rows ++ junkRows q 10) ++ rows ++ _) ++ _ ++ _) = rows
    rw [Int.toNat_zero, Int.toNat_natCast]
    simp

end Go.Proofs.TryN

