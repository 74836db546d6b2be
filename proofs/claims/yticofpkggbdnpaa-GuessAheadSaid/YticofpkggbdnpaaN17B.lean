/- Layers 16 and 17: a block of a field. -/
import Derived.Test.YticofpkggbdnpaaN17A
namespace Go.Proofs.TryN
open Go Go.AL Go.Proofs

theorem bs_no {l : List Blk} {i : Nat} (h : i < l.length) (hb : l[i].ok = false) : l.all Blk.ok = false := by
  cases h2 : l.all Blk.ok
  · rfl
  · rw [List.all_eq_true] at h2
    rw [h2 _ (List.getElem_mem h)] at hb; cases hb

set_option maxRecDepth 10000 in
theorem right16_spec (f : Fld) : CallsF Try.prog 17 [f.av] [] (.bool f.ok) [] := by
  have no : f.ok = false → AV.bool false = .bool f.ok := fun h => by rw [h]
  have cn : ∀ {n}, (n < 1 ∨ 64 < n) → cntB n = false := fun h => by simp [cntB]; omega
  refine e17 ?_
  conv => whnf
  refine ifB_of (fun h1 => ?_) (fun h1 => ?_)
  · conv => whnf
    exact ⟨[], [], rfl, no (by simp [Fld.ok, cn (.inl (of_decide_eq_true h1))]), rfl⟩
  have h1 := of_decide_eq_false h1
  conv => whnf
  refine ifB_of (fun h2 => ?_) (fun h2 => ?_)
  · conv => whnf
    exact ⟨[], [], rfl, no (by simp [Fld.ok, cn (.inr (of_decide_eq_true h2))]), rfl⟩
  have h2 := of_decide_eq_false h2
  conv => whnf
  refine ifB_of (fun h3 => ?_) (fun h3 => ?_)
  · conv => whnf
    exact ⟨[], [], rfl, no (by simp [Fld.ok, cn (.inl (of_decide_eq_true h3))]), rfl⟩
  have h3 := of_decide_eq_false h3
  conv => whnf
  refine ifB_of (fun h4 => ?_) (fun h4 => ?_)
  · conv => whnf
    exact ⟨[], [], rfl, no (by simp [Fld.ok, cn (.inr (of_decide_eq_true h4))]), rfl⟩
  have h4 := of_decide_eq_false h4
  have c1 : cntB f.a = true := by simp [cntB]; omega
  have c2 : cntB f.d = true := by simp [cntB]; omega
  obtain ⟨a1, a2, a3, a4⟩ := mul_in c1 c2
  conv => whnf
  rw [wrap_id (n := f.a * f.d) (by omega) (by omega)]
  by_cases h5 : (f.sp.length : Int) = f.a * f.d
  rotate_left
  · rw [bne_iff_ne.2 h5]
    conv => whnf
    exact ⟨[], [], rfl, no (by simp [Fld.ok, h5]), rfl⟩
  rw [show ((f.sp.length : Int) != f.a * f.d) = false by simpa using h5]
  conv => whnf
  rw [wrap_id (n := 16 * f.a) (by omega) (by omega), Int.mul_assoc, wrap_id (n := 16 * (f.a * f.d)) (by omega) (by omega)]
  have hl : ((f.bs.map Blk.row).length : Int) = f.bs.length := by simp
  rw [hl]
  by_cases h6 : (f.bs.length : Int) = f.sp.length * 16
  rotate_left
  · rw [show ((f.bs.length : Int) != 16 * (f.a * f.d)) = true by simp; omega]
    conv => whnf
    exact ⟨[], [], rfl, no (by simp [Fld.ok, h6]), rfl⟩
  rw [show ((f.bs.length : Int) != 16 * (f.a * f.d)) = false by simp; omega]
  conv => whnf
  obtain ⟨rows, hr⟩ : ∃ rows, f.bs.map Blk.row = rows := ⟨_, rfl⟩
  rw [hr]
  refine LoopA.inv (fun n st => ∃ i : Nat, n + i = f.sp.length ∧ (∀ q, q < i → spB (f.sp.getD q 0) = true) ∧ st = ⟨[(1, .bp 0 0), (49, .ri .i64 f.sp), (50, iv (f.sp.length : Nat)), (51, iv i)], [some (.box [iv f.a, iv f.d, .ri .i64 f.sp, .ro 9 rows])], 1, 0⟩) f.sp.length [1, 49, 50, 51] [0] [] (by rfl) ?_ ?_
  · conv => whnf
    exact ⟨0, rfl, fun q hq => by omega, rfl⟩
  rintro n st ⟨i, hn, hi, rfl⟩
  conv => whnf
  refine ifB_of (fun h7 => ?_) (fun h7 => ?_)
  · have h7 : i < f.sp.length := by have := of_decide_eq_true h7; omega
    have hg : f.sp.getD (i : Int).toNat 0 = f.sp[i] := by rw [Int.toNat_natCast]; exact getD_at h7
    have yes : spB f.sp[i] = true → ∀ q, q < i + 1 → spB (f.sp.getD q 0) = true := fun hs q hq => by
      by_cases hqi : q < i
      · exact hi q hqi
      · obtain rfl : q = i := by omega
        rw [getD_at h7]; exact hs
    conv => whnf
    refine need_of ((decide_eq_true ⟨by omega, by omega⟩)) ?_
    conv => whnf
    rw [hg]
    by_cases s0 : f.sp[i] = 0
    · rw [show (f.sp[i] != 0) = false by simpa using s0]
      conv => whnf
      refine ⟨(f.sp.length - (i + 1)), [1, 49, 50, 51], [0], [], by omega, rfl, ?_⟩
      conv => whnf
      exact ⟨i + 1, by omega, yes (by rw [s0]; rfl), by rw [inc_nat (by omega)]⟩
    rw [bne_iff_ne.2 s0]
    conv => whnf
    by_cases s1 : f.sp[i] = 1
    · rw [show (f.sp[i] != 1) = false by simpa using s1]
      conv => whnf
      refine ⟨(f.sp.length - (i + 1)), [1, 49, 50, 51], [0], [], by omega, rfl, ?_⟩
      conv => whnf
      exact ⟨i + 1, by omega, yes (by rw [s1]; rfl), by rw [inc_nat (by omega)]⟩
    rw [bne_iff_ne.2 s1]
    conv => whnf
    by_cases s2 : f.sp[i] = 2
    · rw [show (f.sp[i] != 2) = false by simpa using s2]
      conv => whnf
      refine ⟨(f.sp.length - (i + 1)), [1, 49, 50, 51], [0], [], by omega, rfl, ?_⟩
      conv => whnf
      exact ⟨i + 1, by omega, yes (by rw [s2]; rfl), by rw [inc_nat (by omega)]⟩
    rw [bne_iff_ne.2 s2]
    conv => whnf
    exact ⟨[], [], rfl, no (by rw [Fld.ok, sp_no h7 (by simp [spB]; omega)]; simp), rfl⟩
  have h7 : ¬i < f.sp.length := by have := of_decide_eq_false h7; omega
  have hall : f.sp.all spB = true := by
    rw [List.all_eq_true]
    intro s hs
    obtain ⟨q, hq, rfl⟩ := List.getElem_of_mem hs
    have := hi q (by omega)
    rwa [getD_at hq] at this
  conv => whnf
  have hlen : rows.length = f.bs.length := by rw [← hr, List.length_map]
  refine LoopA.inv (fun n st => ∃ i : Nat, n + i = f.bs.length ∧ (∀ q (hq : q < f.bs.length), q < i → f.bs[q].ok = true) ∧ st = ⟨[(1, .bp 0 0), (67, .ro 9 rows), (68, iv (rows.length : Nat)), (69, iv i)], [some (.box [iv f.a, iv f.d, .ri .i64 f.sp, .ro 9 rows])], 1, 0⟩) f.bs.length [1, 67, 68, 69] [0] [] (by rfl) ?_ ?_
  · conv => whnf
    exact ⟨0, rfl, fun q _ hq => by omega, rfl⟩
  rintro n st ⟨i, hn, hi, rfl⟩
  conv => whnf
  refine ifB_of (fun h8 => ?_) (fun h8 => ?_)
  · have h8 : i < f.bs.length := by have := of_decide_eq_true h8; omega
    conv => whnf
    have hrow : nth rows (i : Int).toNat = some f.bs[i].row := by
      rw [Int.toNat_natCast, nth_get, ← hr, List.getElem?_map, List.getElem?_eq_getElem h8]; rfl
    rw [aop_idxS_ro hrow rfl rfl]
    conv => whnf
    refine CallsF.call [] [] (block16_spec f.bs[i]) rfl rfl rfl rfl rfl (.inl rfl) ?_
    conv => whnf
    cases hok : f.bs[i].ok
    · conv => whnf
      exact ⟨[], [], rfl, no (by rw [Fld.ok, bs_no h8 hok]; simp), rfl⟩
    conv => whnf
    refine ⟨(f.bs.length - (i + 1)), [1, 67, 68, 69], [0], [], by omega, rfl, ?_⟩
    conv => whnf
    refine ⟨i + 1, by omega, fun q hq hqi => ?_, by rw [inc_nat (by omega)]⟩
    by_cases hh : q < i
    · exact hi q hq hh
    · obtain rfl : q = i := by omega
      exact hok
  have h8 : ¬i < f.bs.length := by have := of_decide_eq_false h8; omega
  have hall2 : f.bs.all Blk.ok = true := by
    rw [List.all_eq_true]
    intro s hs
    obtain ⟨q, hq, rfl⟩ := List.getElem_of_mem hs
    exact hi q hq (by omega)
  conv => whnf
  refine ⟨[], [], rfl, congrArg AV.bool ?_, rfl⟩
  simp [Fld.ok, c1, c2, h5, hall, hall2]
  omega

/-- Is a place within? -/
def inF (f : Fld) (x y : Int) : Bool := (decide (0 ≤ x) && decide (0 ≤ y)) && (decide (x < 4 * f.a) && decide (y < 4 * f.d))
def Fld.at (f : Fld) (x y : Int) : Blk := f.bs.getD (4 * f.a * y + x).toNat Blk.zero
def Fld.here (f : Fld) (x y : Int) : Bool := f.ok && inF f x y
def atV (f : Fld) (x y : Int) : AV := if f.here x y = true then .tup [(f.at x y).av, .bool true] else .tup [Blk.zero.av, .bool false]

theorem here_in {f : Fld} {x y : Int} (h : f.here x y = true) : f.ok = true ∧ (1 ≤ f.a ∧ f.a ≤ 64) ∧ (1 ≤ f.d ∧ f.d ≤ 64) ∧ (0 ≤ x ∧ x < 4 * f.a) ∧ (0 ≤ y ∧ y < 4 * f.d) ∧ 0 ≤ 4 * f.a * y + x ∧ 4 * f.a * y + x < f.bs.length ∧ 4 * f.a * y + x ≤ 65536 ∧ 0 ≤ 4 * f.a * y ∧ 4 * f.a * y ≤ 65536 := by
  simp only [Fld.here, inF, Bool.and_eq_true, decide_eq_true_eq] at h
  obtain ⟨h1, ⟨h2, h3⟩, h4, h5⟩ := h
  obtain ⟨k1, k2, k3, k4, _, _⟩ := Fld.ok_in h1
  have m1 : 0 ≤ 4 * f.a * y := Int.mul_nonneg (by omega) h3
  have m2 : 4 * f.a * y ≤ 4 * f.a * (4 * f.d - 1) := Int.mul_le_mul_of_nonneg_left (by omega) (by omega)
  have e1 : 4 * f.a * (4 * f.d - 1) = 16 * (f.a * f.d) - 4 * f.a := by grind
  have m3 : f.a * f.d ≤ 64 * 64 := Int.mul_le_mul (by omega) (by omega) (by omega) (by omega)
  refine ⟨h1, k1, k2, ⟨h2, h4⟩, ⟨h3, h5⟩, by omega, by omega, by omega, m1, by omega⟩

theorem place_spec (f : Fld) (x y : Int) (h : f.here x y = true) : CallsF Try.prog 45 [f.av, iv x, iv y] [] (iv (4 * f.a * y + x)) [] := by
  obtain ⟨_, k1, k2, k3, k4, k5, k6, k7, k8, k9⟩ := here_in h
  have e : y * 4 * f.a = 4 * f.a * y := by grind
  refine e45 ?_
  conv => whnf
  refine ⟨[], [], rfl, congrArg iv ?_, rfl⟩
  rw [wrap_id (n := y * 4) (by omega) (by omega), e, wrap_id (n := 4 * f.a * y) (by omega) (by omega), wrap_id (by omega) (by omega)]

set_option maxRecDepth 10000 in
theorem within_spec (f : Fld) (x y : Int) (ha : 1 ≤ f.a ∧ f.a ≤ 64) (hd : 1 ≤ f.d ∧ f.d ≤ 64) : CallsF Try.prog 44 [f.av, .agg [iv x, iv y, iv 1]] [] (.bool (inF f x y)) [] := by
  have w1 : IntKind.wrap .i64 (4 * f.a) = 4 * f.a := wrap_id (by omega) (by omega)
  have w2 : IntKind.wrap .i64 (4 * f.d) = 4 * f.d := wrap_id (by omega) (by omega)
  have w3 : IntKind.wrap .i64 (4 * f.a - 1) = 4 * f.a - 1 := wrap_id (by omega) (by omega)
  have w4 : IntKind.wrap .i64 (4 * f.d - 1) = 4 * f.d - 1 := wrap_id (by omega) (by omega)
  refine e44 ?_
  conv => whnf
  have no : inF f x y = false → AV.bool false = .bool (inF f x y) := fun h => by rw [h]
  refine ifB_of (fun h1 => ?_) (fun h1 => ?_)
  rotate_left
  · conv => whnf
    exact ⟨[], [], rfl, no (by simp at h1; simp [inF]; omega), rfl⟩
  have h1 := of_decide_eq_true h1
  conv => whnf
  refine ifB_of (fun h2 => ?_) (fun h2 => ?_)
  rotate_left
  · conv => whnf
    exact ⟨[], [], rfl, no (by simp at h2; simp [inF]; omega), rfl⟩
  have h2 := of_decide_eq_true h2
  conv => whnf
  rw [w1, decide_eq_true (show 1 ≤ 4 * f.a by omega)]
  conv => whnf
  rw [w1, w3]
  refine ifB_of (fun h3 => ?_) (fun h3 => ?_)
  rotate_left
  · conv => whnf
    exact ⟨[], [], rfl, no (by simp at h3; simp [inF]; omega), rfl⟩
  have h3 := of_decide_eq_true h3
  conv => whnf
  rw [w2, decide_eq_true (show 1 ≤ 4 * f.d by omega)]
  conv => whnf
  rw [w2, w4]
  refine ⟨[], [], rfl, congrArg AV.bool ?_, rfl⟩
  have : decide (y ≤ 4 * f.d - 1) = inF f x y := by
    have : inF f x y = decide (y < 4 * f.d) := by
      have a1 : 0 ≤ x := h1
      have a2 : 0 ≤ y := h2
      have a3 : x < 4 * f.a := by omega
      simp [inF, a1, a2, a3]
    rw [this]
    exact decide_eq_decide.2 (by omega)
  exact this

set_option maxRecDepth 10000 in
theorem at_spec (f : Fld) (x y : Int) : CallsF Try.prog 40 [f.av, iv x, iv y] [] (atV f x y) [] := by
  have no : f.here x y = false → AV.tup [.agg Blk.zero.row, .bool false] = atV f x y := fun h => by rw [atV, h]; rfl
  refine e40 ?_
  conv => whnf
  refine CallsF.call [] [] (right_spec f) rfl rfl rfl rfl rfl (.inl rfl) ?_
  conv => whnf
  cases h1 : f.ok
  · conv => whnf
    exact ⟨[], [], rfl, no (by simp [Fld.here, h1]), rfl⟩
  obtain ⟨k1, k2, _⟩ := Fld.ok_in h1
  conv => whnf
  refine CallsF.call [] [] (within_spec f x y k1 k2) rfl rfl rfl rfl rfl (.inl rfl) ?_
  conv => whnf
  cases h2 : inF f x y
  · conv => whnf
    exact ⟨[], [], rfl, no (by simp [Fld.here, h2]), rfl⟩
  have hh : f.here x y = true := by simp [Fld.here, h1, h2]
  obtain ⟨_, _, _, k3, k4, k5, k6, k7, _, _⟩ := here_in hh
  obtain ⟨P, hP⟩ : ∃ P : Nat, 4 * f.a * y + x = (P : Nat) := ⟨(4 * f.a * y + x).toNat, by omega⟩
  have hPl : P < f.bs.length := by omega
  have hb : f.at x y = f.bs[P] := by rw [Fld.at, hP, Int.toNat_natCast]; simp [List.getD_eq_getElem?_getD, hPl]
  have hv : AV.tup [.agg f.bs[P].row, .bool true] = atV f x y := by rw [atV, if_pos hh, hb]; rfl
  have hpl := place_spec f x y hh
  rw [hP] at hpl
  obtain ⟨rows, hr⟩ : ∃ rows, f.bs.map Blk.row = rows := ⟨_, rfl⟩
  have hrow : nth rows (P : Int).toNat = some f.bs[P].row := by
    rw [Int.toNat_natCast, nth_get, ← hr, List.getElem?_map, List.getElem?_eq_getElem hPl]; rfl
  have hfv : f.av = .agg [iv f.a, iv f.d, .ri .i64 f.sp, .ro 9 rows] := by rw [← hr]; rfl
  rw [hfv] at hpl
  rw [hr]
  conv => whnf
  refine CallsF.call [] [] hpl rfl rfl rfl rfl rfl (.inl rfl) ?_
  conv => whnf
  refine ⟨⟨_, rfl⟩, ?_⟩
  conv => whnf
  rw [aop_idxS_ro hrow rfl rfl]
  conv => whnf
  exact ⟨[], [], rfl, hv, rfl⟩

set_option maxRecDepth 10000 in
theorem at16_spec (f : Fld) (x y : Int) : CallsF Try.prog 33 [f.av, iv x, iv y] [] (atV f x y) [] := by
  have no : f.here x y = false → AV.tup [.agg Blk.zero.row, .bool false] = atV f x y := fun h => by rw [atV, h]; rfl
  refine e33 ?_
  conv => whnf
  refine CallsF.call [] [] (right16_spec f) rfl rfl rfl rfl rfl (.inl rfl) ?_
  conv => whnf
  cases h1 : f.ok
  · conv => whnf
    exact ⟨[], [], rfl, no (by simp [Fld.here, h1]), rfl⟩
  obtain ⟨k1, k2, _⟩ := Fld.ok_in h1
  have w1 : IntKind.wrap .i64 (4 * f.a) = 4 * f.a := wrap_id (by omega) (by omega)
  have w2 : IntKind.wrap .i64 (4 * f.d) = 4 * f.d := wrap_id (by omega) (by omega)
  conv => whnf
  refine ifB_of (fun h2 => ?_) (fun h2 => ?_)
  · have h2 := of_decide_eq_true h2
    conv => whnf
    exact ⟨[], [], rfl, no (by simp [Fld.here, inF]; omega), rfl⟩
  have h2 := of_decide_eq_false h2
  conv => whnf
  refine ifB_of (fun h3 => ?_) (fun h3 => ?_)
  · have h3 := of_decide_eq_true h3
    conv => whnf
    exact ⟨[], [], rfl, no (by simp [Fld.here, inF]; omega), rfl⟩
  have h3 := of_decide_eq_false h3
  conv => whnf
  rw [w1]
  refine ifB_of (fun h4 => ?_) (fun h4 => ?_)
  · have h4 := of_decide_eq_true h4
    conv => whnf
    exact ⟨[], [], rfl, no (by simp [Fld.here, inF]; omega), rfl⟩
  have h4 := of_decide_eq_false h4
  conv => whnf
  rw [w2]
  refine ifB_of (fun h5 => ?_) (fun h5 => ?_)
  · have h5 := of_decide_eq_true h5
    conv => whnf
    exact ⟨[], [], rfl, no (by simp [Fld.here, inF]; omega), rfl⟩
  have h5 := of_decide_eq_false h5
  have hh : f.here x y = true := by simp [Fld.here, inF, h1]; omega
  obtain ⟨_, _, _, k3, k4, k5, k6, k7, k8, k9⟩ := here_in hh
  obtain ⟨P, hP⟩ : ∃ P : Nat, 4 * f.a * y + x = (P : Nat) := ⟨(4 * f.a * y + x).toNat, by omega⟩
  have hPl : P < f.bs.length := by omega
  have hb : f.at x y = f.bs[P] := by rw [Fld.at, hP, Int.toNat_natCast]; simp [List.getD_eq_getElem?_getD, hPl]
  have hv : AV.tup [.agg f.bs[P].row, .bool true] = atV f x y := by rw [atV, if_pos hh, hb]; rfl
  have w3 : IntKind.wrap .i64 (IntKind.wrap .i64 (IntKind.wrap .i64 (4 * f.a) * y) + x) = (P : Int) := by
    rw [w1, wrap_id (n := 4 * f.a * y) (by omega) (by omega), hP, wrap_id (by omega) (by omega)]
  obtain ⟨rows, hr⟩ : ∃ rows, f.bs.map Blk.row = rows := ⟨_, rfl⟩
  have hrow : nth rows (P : Int).toNat = some f.bs[P].row := by
    rw [Int.toNat_natCast, nth_get, ← hr, List.getElem?_map, List.getElem?_eq_getElem hPl]; rfl
  rw [hr]
  conv => whnf
  rw [w3]
  rw [aop_idxS_ro hrow rfl rfl]
  conv => whnf
  exact ⟨[], [], rfl, hv, rfl⟩
end Go.Proofs.TryN

