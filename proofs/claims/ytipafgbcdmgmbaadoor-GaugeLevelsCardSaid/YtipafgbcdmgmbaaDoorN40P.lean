/- Layer 40, the plain law: how far numbers are, gauges, histograms; no program in sight. -/
import Derived.Test.YtipafgbcdmgmbaaDoorAL28
namespace Go.Proofs.TrydN
open Go Go.AL Go.Proofs

theorem inc_nat {n : Nat} (h : n ≤ 2 ^ 60) : IntKind.wrap .i64 ((n : Int) + 1) = ((n + 1 : Nat) : Int) := by rw [wrap_id (by omega) (by omega)]; rfl

/-- How far two numbers are. -/
def far (a b : Int) : Int := if a ≤ b then (if b - a < 16777216 then b - a else 16777216) else (if a - b < 16777216 then a - b else 16777216)

theorem far_in (a b : Int) : 0 ≤ far a b ∧ far a b ≤ 16777216 := by unfold far; split <;> split <;> omega
theorem far_comm (a b : Int) : far a b = far b a := by unfold far; split <;> split <;> split <;> (try split) <;> omega
theorem far_self (a : Int) : far a a = 0 := by unfold far; simp

def okI (a : Int) : Prop := -9223372036854775808 ≤ a ∧ a ≤ 9223372036854775807

theorem wrap_big {d : Int} (h1 : 9223372036854775807 < d) (h2 : d < 18446744073709551616) : IntKind.wrap .i64 d < 0 := by
  have e : IntKind.wrap .i64 d = d - 18446744073709551616 := by
    unfold IntKind.wrap; simp [IntKind.bits, IntKind.signed]; omega
  omega

/-- A gauge. -/
structure G where
  c : Int
  d : Int
  w : Int
  s : Int
  q : Int
deriving DecidableEq
def G.av (g : G) : AV := .agg [iv g.c, iv g.d, iv g.w, iv g.s, iv g.q]
def G.zero : G := ⟨0, 0, 0, 0, 0⟩
/-- Two together. -/
def G.join (a b : G) : G := ⟨IntKind.wrap .i64 (a.c + b.c), IntKind.wrap .i64 (a.d + b.d), max a.w b.w, IntKind.wrap .i64 (a.s + b.s), IntKind.wrap .i64 (a.q + b.q)⟩
/-- One sample's. -/
def G.one (d : Int) : G := ⟨1, if 0 < d then 1 else 0, d, d, IntKind.wrap .i64 (d * d)⟩

/-- The gauge of two rows of numbers. -/
def gRow (p q : List Int) : Nat → G
  | 0 => G.zero
  | n + 1 => (gRow p q n).join (G.one (far (p.getD n 0) (q.getD n 0)))

theorem gRow_comm (p q : List Int) : ∀ n, gRow p q n = gRow q p n
  | 0 => rfl
  | n + 1 => by rw [gRow, gRow, gRow_comm p q n, far_comm]

theorem gRow_d (p q : List Int) : ∀ n, n ≤ 1099511627776 → 0 ≤ (gRow p q n).d ∧ (gRow p q n).d ≤ n
  | 0, _ => ⟨Int.le_refl 0, Int.le_refl 0⟩
  | n + 1, hn => by
    have h := gRow_d p q n (by omega)
    rw [gRow]
    generalize gRow p q n = g at *
    have f4 : ∀ e : Int, 0 ≤ e → e ≤ 1 → IntKind.wrap .i64 (g.d + e) = g.d + e := fun e h1 h2 => wrap_id (by omega) (by omega)
    simp only [G.join, G.one]
    rw [f4 _ (by split <;> omega) (by split <;> omega)]
    split <;> omega

/-- What a gauge of few samples is. -/
structure G.Fine (g : G) (n : Nat) : Prop where
  c : g.c = n
  d0 : 0 ≤ g.d
  d1 : g.d ≤ n
  w0 : 0 ≤ g.w
  w1 : g.w ≤ 16777216
  s0 : 0 ≤ g.s
  s1 : g.s ≤ g.w * g.d
  q0 : 0 ≤ g.q
  q1 : g.q ≤ g.w * g.s

theorem G.Fine.sq {g : G} {n : Nat} (h : g.Fine n) (hn : n ≤ 3000) : g.s ≤ 16777216 * 3000 ∧ g.q ≤ 16777216 * (16777216 * 3000) := by
  obtain ⟨_, d0, d1, w0, w1, s0, s1, q0, q1⟩ := h
  have a1 : g.w * g.d ≤ 16777216 * 3000 := Int.mul_le_mul w1 (by omega) d0 (by omega)
  have a2 : g.w * g.s ≤ 16777216 * (16777216 * 3000) := Int.mul_le_mul w1 (by omega) s0 (by omega)
  omega

theorem gRow_fine (p q : List Int) : ∀ n, n ≤ 3000 → (gRow p q n).Fine n
  | 0, _ => ⟨rfl, Int.le_refl 0, Int.le_refl 0, Int.le_refl 0, (by decide : (0 : Int) ≤ 16777216), Int.le_refl 0, Int.le_refl 0, Int.le_refl 0, Int.le_refl 0⟩
  | n + 1, hn => by
    have h := gRow_fine p q n (by omega)
    have hx := far_in (p.getD n 0) (q.getD n 0)
    have hsq := h.sq (by omega)
    rw [gRow]
    generalize gRow p q n = g at *
    generalize far (p.getD n 0) (q.getD n 0) = x at *
    obtain ⟨c, d, w, s, q⟩ := g
    obtain ⟨c0, d0, d1, w0, w1, s0, s1, q0, q1⟩ := h
    simp only at *
    have hxx : 0 ≤ x * x := Int.mul_nonneg hx.1 hx.1
    have hxx1 : x * x ≤ 16777216 * 16777216 := Int.mul_le_mul hx.2 hx.2 hx.1 (by omega)
    obtain ⟨w', hw'⟩ : ∃ w', max w x = w' := ⟨_, rfl⟩
    have hww : w ≤ w' ∧ x ≤ w' ∧ w' ≤ 16777216 := by omega
    have e1 : w * d ≤ w' * d := Int.mul_le_mul_of_nonneg_right hww.1 d0
    have e2 : w * s ≤ w' * s := Int.mul_le_mul_of_nonneg_right hww.1 s0
    have e3 : x * x ≤ w' * x := Int.mul_le_mul_of_nonneg_right hww.2.1 hx.1
    have f1 : IntKind.wrap .i64 (c + 1) = ((n + 1 : Nat) : Int) := by rw [wrap_id (by omega) (by omega)]; omega
    have f2 : IntKind.wrap .i64 (s + x) = s + x := wrap_id (by omega) (by omega)
    have f3 : IntKind.wrap .i64 (q + IntKind.wrap .i64 (x * x)) = q + x * x := by rw [wrap_id (n := x * x) (by omega) (by omega), wrap_id (by omega) (by omega)]
    have f4 : IntKind.wrap .i64 (d + if 0 < x then 1 else 0) = d + if 0 < x then 1 else 0 := wrap_id (by split <;> omega) (by split <;> omega)
    simp only [G.join, G.one]
    rw [hw', f1, f2, f3, f4]
    refine ⟨rfl, ?_, ?_, by simp only; omega, hww.2.2, by simp only; omega, ?_, by simp only; omega, ?_⟩
    · simp only; split <;> omega
    · simp only; split <;> omega
    · simp only
      by_cases h0 : 0 < x
      · rw [if_pos h0, Int.mul_add, Int.mul_one]; omega
      · rw [if_neg h0, Int.add_zero]; omega
    · simp only
      rw [Int.mul_add]; omega

theorem gRow_self (p : List Int) : ∀ n, (gRow p p n).d = 0 ∧ (gRow p p n).w = 0 ∧ (gRow p p n).s = 0 ∧ (gRow p p n).q = 0
  | 0 => ⟨rfl, rfl, rfl, rfl⟩
  | n + 1 => by
    obtain ⟨h1, h2, h3, h4⟩ := gRow_self p n
    rw [gRow, far_self]
    refine ⟨?_, ?_, ?_, ?_⟩ <;> simp only [G.join, G.one, h1, h2, h3, h4] <;> decide

/-- Which bin. -/
def binOf (b m v : Int) : Int := (max 0 (min v m) * b).tdiv (m + 1)
/-- How many of a row's first numbers are in bin k. -/
def cnt (b m : Int) (v : List Int) (k n : Nat) : Nat := ((v.take n).filter fun x => binOf b m x == (k : Int)).length
def hist (b m : Int) (v : List Int) (n : Nat) : List Int := (List.range b.toNat).map fun k => (cnt b m v k n : Int)

theorem cnt_zero (b m : Int) (v : List Int) (k : Nat) : cnt b m v k 0 = 0 := rfl
theorem cnt_succ {b m : Int} {v : List Int} {k n : Nat} (h : n < v.length) : cnt b m v k (n + 1) = cnt b m v k n + (if binOf b m (v.getD n 0) == (k : Int) then 1 else 0) := by
  unfold cnt
  rw [List.take_succ_eq_append_getElem h, List.filter_append, List.length_append, getD_at h]
  congr 1
  simp only [List.filter_cons, List.filter_nil]
  split <;> rfl
theorem cnt_le (b m : Int) (v : List Int) (k n : Nat) : cnt b m v k n ≤ v.length := by
  unfold cnt
  have h1 := List.length_filter_le (fun x => binOf b m x == (k : Int)) (v.take n)
  have h2 := List.length_take_le' n v
  omega
theorem hist_len (b m : Int) (v : List Int) (n : Nat) : (hist b m v n).length = b.toNat := by simp [hist]
theorem hist_get {b m : Int} {v : List Int} {n k : Nat} (h : k < b.toNat) : (hist b m v n)[k]? = some (cnt b m v k n : Int) := by
  unfold hist; rw [List.getElem?_map, List.getElem?_range h]; rfl

theorem binOf_in {b m : Int} (hb : 1 ≤ b) (hm : 1 ≤ m) (v : Int) : 0 ≤ binOf b m v ∧ binOf b m v < b := by
  unfold binOf
  have h0 : 0 ≤ max 0 (min v m) := by omega
  have h1 : max 0 (min v m) ≤ m := by omega
  generalize max 0 (min v m) = x at *
  have e0 : 0 ≤ x * b := Int.mul_nonneg h0 (by omega)
  have e1 : x * b ≤ m * b := Int.mul_le_mul_of_nonneg_right h1 (by omega)
  rw [Int.tdiv_eq_ediv_of_nonneg e0]
  refine ⟨Int.ediv_nonneg e0 (by omega), Int.ediv_lt_of_lt_mul (by omega) ?_⟩
  rw [Int.mul_add, Int.mul_one, Int.mul_comm b m]; omega

theorem hist_succ {b m : Int} (hb : 1 ≤ b) (hm : 1 ≤ m) {v : List Int} {n : Nat} (h : n < v.length) :
    hist b m v (n + 1) = (hist b m v n).set (binOf b m (v.getD n 0)).toNat ((cnt b m v (binOf b m (v.getD n 0)).toNat n : Int) + 1) := by
  have hi := binOf_in hb hm (v.getD n 0)
  apply List.ext_getElem?
  intro k
  by_cases hk : k < b.toNat
  · rw [hist_get hk, List.getElem?_set, cnt_succ h, hist_len]
    generalize binOf b m (v.getD n 0) = q at *
    by_cases e : q.toNat = k
    · subst e
      rw [if_pos rfl, if_pos hk, if_pos (beq_iff_eq.2 (by omega))]; rfl
    · rw [if_neg e, hist_get hk, if_neg (fun h => e (by have := beq_iff_eq.1 h; omega))]; rfl
  · rw [List.getElem?_eq_none (by rw [hist_len]; omega), List.getElem?_eq_none (by rw [List.length_set, hist_len]; omega)]

def sumN : List Int → Int
  | [] => 0
  | x :: xs => x + sumN xs
theorem sumN_append (xs ys : List Int) : sumN (xs ++ ys) = sumN xs + sumN ys := by
  induction xs with
  | nil => simp [sumN]
  | cons x xs ih => simp [sumN, ih]; omega
theorem sumN_set : ∀ (xs : List Int) (i : Nat) (x y : Int), xs[i]? = some x → sumN (xs.set i y) = sumN xs - x + y
  | [], i, _, _, h => by simp at h
  | z :: xs, 0, x, y, h => by simp at h; subst h; simp [sumN]; omega
  | z :: xs, i + 1, x, y, h => by
    simp at h
    simp only [List.set_cons_succ, sumN, sumN_set xs i x y h]; omega
theorem sumN_zero (n : Nat) : sumN (List.replicate n 0) = 0 := by
  induction n with
  | zero => rfl
  | succ n ih => rw [List.replicate_succ, sumN, ih]; rfl
theorem hist_zero (b m : Int) (v : List Int) : hist b m v 0 = List.replicate b.toNat 0 := by
  apply List.ext_getElem?
  intro k
  by_cases hk : k < b.toNat
  · rw [hist_get hk, cnt_zero, List.getElem?_replicate, if_pos hk]; rfl
  · rw [List.getElem?_eq_none (by rw [hist_len]; omega), List.getElem?_eq_none (by rw [List.length_replicate]; omega)]
theorem hist_sum {b m : Int} (hb : 1 ≤ b) (hm : 1 ≤ m) (v : List Int) : ∀ n, n ≤ v.length → sumN (hist b m v n) = n
  | 0, _ => by rw [hist_zero, sumN_zero]; rfl
  | n + 1, h => by
    have hi := binOf_in hb hm (v.getD n 0)
    rw [hist_succ hb hm (by omega), sumN_set _ _ _ _ (hist_get (by omega)), hist_sum hb hm v n (by omega)]; omega

end Go.Proofs.TrydN

