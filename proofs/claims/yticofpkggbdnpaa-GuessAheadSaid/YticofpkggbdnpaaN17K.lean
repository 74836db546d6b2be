/- Layer 17: what blocks are of themselves, by the document. -/
import Derived.Test.YticofpkggbdnpaaN17J
namespace Go.Proofs.TryN
open Go Go.AL Go.Proofs

set_option maxRecDepth 10000 in
theorem rdc0_spec (f : Fld) (x y : Int) : CallsF Try.prog 16 [f.av, iv 0, iv x, iv y] [] (iv (meanN (((nearL f x y).filter is0).map Blk.d0))) [] := by
  have hl := near_len f x y
  have ho : ∀ b ∈ nearL f x y, b.ok = true := fun b hb => near_ok hb
  refine e16 ?_
  conv => whnf
  refine CallsF.call [] [] (near_spec f x y) rfl rfl rfl rfl rfl (.inl rfl) ?_
  conv => whnf
  generalize nearL f x y = l at *
  obtain ⟨rows, hr⟩ : ∃ rows, l.map Blk.row = rows := ⟨_, rfl⟩
  have hlen : rows.length = l.length := by rw [← hr, List.length_map]
  have hsm : ∀ i, ∀ v ∈ selP is0 Blk.d0 l i, -16777216 ≤ v ∧ v ≤ 16777216 := fun i v hv => by
    obtain ⟨b, hb, rfl⟩ := selP_mem hv
    have := (Blk.ok_in (ho b hb)).2.2
    simp [smallB] at this; omega
  have hsl : ∀ i, (selP is0 Blk.d0 l i).length ≤ 3 := fun i => by have := selP_len is0 Blk.d0 l i; omega
  rw [hr]
  refine LoopA.inv (fun n st => ∃ i : Nat, n + i = l.length ∧ ((selP is0 Blk.d0 l i = [] ∧ st = ⟨[(1, iv 0), (9, .snil), (15, .ro 9 rows), (16, iv (rows.length : Nat)), (17, iv i)], [], 0, 0⟩) ∨ (selP is0 Blk.d0 l i ≠ [] ∧ st = ⟨[(1, iv 0), (9, .sl 0 0 (selP is0 Blk.d0 l i).length), (15, .ro 9 rows), (16, iv (rows.length : Nat)), (17, iv i)], [some (.ia .i64 (selP is0 Blk.d0 l i))], 1, 0⟩))) l.length [1, 9, 15, 16, 17] [] [] (by rfl) ?_ ?_
  · conv => whnf
    exact ⟨0, rfl, .inl ⟨rfl, rfl⟩⟩
  rintro n st ⟨i, hn, ⟨hs, rfl⟩ | ⟨hs, rfl⟩⟩
  · conv => whnf
    refine ifB_of (fun h1 => ?_) (fun h1 => ?_)
    · have h1 : i < l.length := by have := of_decide_eq_true h1; omega
      conv => whnf
      have hrow : nth rows (i : Int).toNat = some l[i].row := by
        rw [Int.toNat_natCast, nth_get, ← hr, List.getElem?_map, List.getElem?_eq_getElem h1]; rfl
      rw [aop_idxS_ro hrow rfl rfl]
      conv => whnf
      cases hp : is0 l[i]
      · rw [show (l[i].m == 0) = false from hp]
        conv => whnf
        refine ⟨(l.length - (i + 1)), [1, 9, 15, 16, 17], [], [], by omega, rfl, ?_⟩
        conv => whnf
        refine ⟨i + 1, by omega, .inl ⟨by rw [selP_no h1 hp, hs], ?_⟩⟩
        rw [inc_nat (by omega)]
      · rw [show (l[i].m == 0) = true from hp]
        conv => whnf
        refine ⟨(l.length - (i + 1)), [1, 9, 15, 16, 17], [2], [], by omega, rfl, ?_⟩
        conv => whnf
        refine ⟨i + 1, by omega, .inr ⟨by rw [selP_yes h1 hp]; simp, ?_⟩⟩
        rw [inc_nat (by omega), selP_yes h1 hp, hs]
        rfl
    · have h1 : ¬i < l.length := by have := of_decide_eq_false h1; omega
      obtain rfl : i = l.length := by omega
      rw [selP_all] at hs
      conv => whnf
      refine CallsF.call [] [] (CallsF.weak (.cons (.snil .i64) .nil) (rmean_spec [] (by simp) (by simp))) rfl rfl rfl rfl rfl (.inl rfl) ?_
      conv => whnf
      exact ⟨[], [], rfl, congrArg iv (by rw [hs]), rfl⟩
  · conv => whnf
    refine ifB_of (fun h1 => ?_) (fun h1 => ?_)
    · have h1 : i < l.length := by have := of_decide_eq_true h1; omega
      conv => whnf
      have hrow : nth rows (i : Int).toNat = some l[i].row := by
        rw [Int.toNat_natCast, nth_get, ← hr, List.getElem?_map, List.getElem?_eq_getElem h1]; rfl
      rw [aop_idxS_ro hrow rfl rfl]
      conv => whnf
      cases hp : is0 l[i]
      · rw [show (l[i].m == 0) = false from hp]
        conv => whnf
        refine ⟨(l.length - (i + 1)), [1, 9, 15, 16, 17], [0], [], by omega, rfl, ?_⟩
        conv => whnf
        refine ⟨i + 1, by omega, .inr ⟨by rw [selP_no h1 hp]; exact hs, ?_⟩⟩
        rw [inc_nat (by omega), selP_no h1 hp]
      · rw [show (l[i].m == 0) = true from hp]
        conv => whnf
        have hsi := hsl i
        refine need_of ((decide_eq_true ⟨by omega, by simp; omega⟩)) ?_
        conv => whnf
        refine ⟨(l.length - (i + 1)), [1, 9, 15, 16, 17], [3], [], by omega, rfl, ?_⟩
        conv => whnf
        refine ⟨i + 1, by omega, .inr ⟨by rw [selP_yes h1 hp]; simp, ?_⟩⟩
        rw [inc_nat (by omega), selP_yes h1 hp, List.length_append]
        rfl
    · have h1 : ¬i < l.length := by have := of_decide_eq_false h1; omega
      obtain rfl : i = l.length := by omega
      have k := rmean_spec (((selP is0 Blk.d0 l l.length).drop 0).take (selP is0 Blk.d0 l l.length).length) (by simp; have := hsl l.length; omega) (fun v hv => hsm l.length v (by simpa using hv))
      conv => whnf
      refine CallsF.call [] [0] k rfl rfl rfl rfl rfl (.inr rfl) ?_
      conv => whnf
      exact ⟨[], [], rfl, congrArg iv (by rw [List.drop_zero, List.take_length, selP_all]), rfl⟩

set_option maxRecDepth 10000 in
theorem rdc1_spec (f : Fld) (x y : Int) : CallsF Try.prog 16 [f.av, iv 1, iv x, iv y] [] (iv (meanN (((nearL f x y).filter is0).map Blk.d1))) [] := by
  have hl := near_len f x y
  have ho : ∀ b ∈ nearL f x y, b.ok = true := fun b hb => near_ok hb
  refine e16 ?_
  conv => whnf
  refine CallsF.call [] [] (near_spec f x y) rfl rfl rfl rfl rfl (.inl rfl) ?_
  conv => whnf
  generalize nearL f x y = l at *
  obtain ⟨rows, hr⟩ : ∃ rows, l.map Blk.row = rows := ⟨_, rfl⟩
  have hlen : rows.length = l.length := by rw [← hr, List.length_map]
  have hsm : ∀ i, ∀ v ∈ selP is0 Blk.d1 l i, -16777216 ≤ v ∧ v ≤ 16777216 := fun i v hv => by
    obtain ⟨b, hb, rfl⟩ := selP_mem hv
    have := (Blk.ok_in (ho b hb)).2.2
    simp [smallB] at this; omega
  have hsl : ∀ i, (selP is0 Blk.d1 l i).length ≤ 3 := fun i => by have := selP_len is0 Blk.d1 l i; omega
  rw [hr]
  refine LoopA.inv (fun n st => ∃ i : Nat, n + i = l.length ∧ ((selP is0 Blk.d1 l i = [] ∧ st = ⟨[(1, iv 1), (9, .snil), (15, .ro 9 rows), (16, iv (rows.length : Nat)), (17, iv i)], [], 0, 0⟩) ∨ (selP is0 Blk.d1 l i ≠ [] ∧ st = ⟨[(1, iv 1), (9, .sl 0 0 (selP is0 Blk.d1 l i).length), (15, .ro 9 rows), (16, iv (rows.length : Nat)), (17, iv i)], [some (.ia .i64 (selP is0 Blk.d1 l i))], 1, 0⟩))) l.length [1, 9, 15, 16, 17] [] [] (by rfl) ?_ ?_
  · conv => whnf
    exact ⟨0, rfl, .inl ⟨rfl, rfl⟩⟩
  rintro n st ⟨i, hn, ⟨hs, rfl⟩ | ⟨hs, rfl⟩⟩
  · conv => whnf
    refine ifB_of (fun h1 => ?_) (fun h1 => ?_)
    · have h1 : i < l.length := by have := of_decide_eq_true h1; omega
      conv => whnf
      have hrow : nth rows (i : Int).toNat = some l[i].row := by
        rw [Int.toNat_natCast, nth_get, ← hr, List.getElem?_map, List.getElem?_eq_getElem h1]; rfl
      rw [aop_idxS_ro hrow rfl rfl]
      conv => whnf
      cases hp : is0 l[i]
      · rw [show (l[i].m == 0) = false from hp]
        conv => whnf
        refine ⟨(l.length - (i + 1)), [1, 9, 15, 16, 17], [], [], by omega, rfl, ?_⟩
        conv => whnf
        refine ⟨i + 1, by omega, .inl ⟨by rw [selP_no h1 hp, hs], ?_⟩⟩
        rw [inc_nat (by omega)]
      · rw [show (l[i].m == 0) = true from hp]
        conv => whnf
        refine ⟨(l.length - (i + 1)), [1, 9, 15, 16, 17], [2], [], by omega, rfl, ?_⟩
        conv => whnf
        refine ⟨i + 1, by omega, .inr ⟨by rw [selP_yes h1 hp]; simp, ?_⟩⟩
        rw [inc_nat (by omega), selP_yes h1 hp, hs]
        rfl
    · have h1 : ¬i < l.length := by have := of_decide_eq_false h1; omega
      obtain rfl : i = l.length := by omega
      rw [selP_all] at hs
      conv => whnf
      refine CallsF.call [] [] (CallsF.weak (.cons (.snil .i64) .nil) (rmean_spec [] (by simp) (by simp))) rfl rfl rfl rfl rfl (.inl rfl) ?_
      conv => whnf
      exact ⟨[], [], rfl, congrArg iv (by rw [hs]), rfl⟩
  · conv => whnf
    refine ifB_of (fun h1 => ?_) (fun h1 => ?_)
    · have h1 : i < l.length := by have := of_decide_eq_true h1; omega
      conv => whnf
      have hrow : nth rows (i : Int).toNat = some l[i].row := by
        rw [Int.toNat_natCast, nth_get, ← hr, List.getElem?_map, List.getElem?_eq_getElem h1]; rfl
      rw [aop_idxS_ro hrow rfl rfl]
      conv => whnf
      cases hp : is0 l[i]
      · rw [show (l[i].m == 0) = false from hp]
        conv => whnf
        refine ⟨(l.length - (i + 1)), [1, 9, 15, 16, 17], [0], [], by omega, rfl, ?_⟩
        conv => whnf
        refine ⟨i + 1, by omega, .inr ⟨by rw [selP_no h1 hp]; exact hs, ?_⟩⟩
        rw [inc_nat (by omega), selP_no h1 hp]
      · rw [show (l[i].m == 0) = true from hp]
        conv => whnf
        have hsi := hsl i
        refine need_of ((decide_eq_true ⟨by omega, by simp; omega⟩)) ?_
        conv => whnf
        refine ⟨(l.length - (i + 1)), [1, 9, 15, 16, 17], [3], [], by omega, rfl, ?_⟩
        conv => whnf
        refine ⟨i + 1, by omega, .inr ⟨by rw [selP_yes h1 hp]; simp, ?_⟩⟩
        rw [inc_nat (by omega), selP_yes h1 hp, List.length_append]
        rfl
    · have h1 : ¬i < l.length := by have := of_decide_eq_false h1; omega
      obtain rfl : i = l.length := by omega
      have k := rmean_spec (((selP is0 Blk.d1 l l.length).drop 0).take (selP is0 Blk.d1 l l.length).length) (by simp; have := hsl l.length; omega) (fun v hv => hsm l.length v (by simpa using hv))
      conv => whnf
      refine CallsF.call [] [0] k rfl rfl rfl rfl rfl (.inr rfl) ?_
      conv => whnf
      exact ⟨[], [], rfl, congrArg iv (by rw [List.drop_zero, List.take_length, selP_all]), rfl⟩

set_option maxRecDepth 10000 in
theorem rdc2_spec (f : Fld) (x y : Int) : CallsF Try.prog 16 [f.av, iv 2, iv x, iv y] [] (iv (meanN (((nearL f x y).filter is0).map Blk.d2))) [] := by
  have hl := near_len f x y
  have ho : ∀ b ∈ nearL f x y, b.ok = true := fun b hb => near_ok hb
  refine e16 ?_
  conv => whnf
  refine CallsF.call [] [] (near_spec f x y) rfl rfl rfl rfl rfl (.inl rfl) ?_
  conv => whnf
  generalize nearL f x y = l at *
  obtain ⟨rows, hr⟩ : ∃ rows, l.map Blk.row = rows := ⟨_, rfl⟩
  have hlen : rows.length = l.length := by rw [← hr, List.length_map]
  have hsm : ∀ i, ∀ v ∈ selP is0 Blk.d2 l i, -16777216 ≤ v ∧ v ≤ 16777216 := fun i v hv => by
    obtain ⟨b, hb, rfl⟩ := selP_mem hv
    have := (Blk.ok_in (ho b hb)).2.2
    simp [smallB] at this; omega
  have hsl : ∀ i, (selP is0 Blk.d2 l i).length ≤ 3 := fun i => by have := selP_len is0 Blk.d2 l i; omega
  rw [hr]
  refine LoopA.inv (fun n st => ∃ i : Nat, n + i = l.length ∧ ((selP is0 Blk.d2 l i = [] ∧ st = ⟨[(1, iv 2), (9, .snil), (15, .ro 9 rows), (16, iv (rows.length : Nat)), (17, iv i)], [], 0, 0⟩) ∨ (selP is0 Blk.d2 l i ≠ [] ∧ st = ⟨[(1, iv 2), (9, .sl 0 0 (selP is0 Blk.d2 l i).length), (15, .ro 9 rows), (16, iv (rows.length : Nat)), (17, iv i)], [some (.ia .i64 (selP is0 Blk.d2 l i))], 1, 0⟩))) l.length [1, 9, 15, 16, 17] [] [] (by rfl) ?_ ?_
  · conv => whnf
    exact ⟨0, rfl, .inl ⟨rfl, rfl⟩⟩
  rintro n st ⟨i, hn, ⟨hs, rfl⟩ | ⟨hs, rfl⟩⟩
  · conv => whnf
    refine ifB_of (fun h1 => ?_) (fun h1 => ?_)
    · have h1 : i < l.length := by have := of_decide_eq_true h1; omega
      conv => whnf
      have hrow : nth rows (i : Int).toNat = some l[i].row := by
        rw [Int.toNat_natCast, nth_get, ← hr, List.getElem?_map, List.getElem?_eq_getElem h1]; rfl
      rw [aop_idxS_ro hrow rfl rfl]
      conv => whnf
      cases hp : is0 l[i]
      · rw [show (l[i].m == 0) = false from hp]
        conv => whnf
        refine ⟨(l.length - (i + 1)), [1, 9, 15, 16, 17], [], [], by omega, rfl, ?_⟩
        conv => whnf
        refine ⟨i + 1, by omega, .inl ⟨by rw [selP_no h1 hp, hs], ?_⟩⟩
        rw [inc_nat (by omega)]
      · rw [show (l[i].m == 0) = true from hp]
        conv => whnf
        refine ⟨(l.length - (i + 1)), [1, 9, 15, 16, 17], [2], [], by omega, rfl, ?_⟩
        conv => whnf
        refine ⟨i + 1, by omega, .inr ⟨by rw [selP_yes h1 hp]; simp, ?_⟩⟩
        rw [inc_nat (by omega), selP_yes h1 hp, hs]
        rfl
    · have h1 : ¬i < l.length := by have := of_decide_eq_false h1; omega
      obtain rfl : i = l.length := by omega
      rw [selP_all] at hs
      conv => whnf
      refine CallsF.call [] [] (CallsF.weak (.cons (.snil .i64) .nil) (rmean_spec [] (by simp) (by simp))) rfl rfl rfl rfl rfl (.inl rfl) ?_
      conv => whnf
      exact ⟨[], [], rfl, congrArg iv (by rw [hs]), rfl⟩
  · conv => whnf
    refine ifB_of (fun h1 => ?_) (fun h1 => ?_)
    · have h1 : i < l.length := by have := of_decide_eq_true h1; omega
      conv => whnf
      have hrow : nth rows (i : Int).toNat = some l[i].row := by
        rw [Int.toNat_natCast, nth_get, ← hr, List.getElem?_map, List.getElem?_eq_getElem h1]; rfl
      rw [aop_idxS_ro hrow rfl rfl]
      conv => whnf
      cases hp : is0 l[i]
      · rw [show (l[i].m == 0) = false from hp]
        conv => whnf
        refine ⟨(l.length - (i + 1)), [1, 9, 15, 16, 17], [0], [], by omega, rfl, ?_⟩
        conv => whnf
        refine ⟨i + 1, by omega, .inr ⟨by rw [selP_no h1 hp]; exact hs, ?_⟩⟩
        rw [inc_nat (by omega), selP_no h1 hp]
      · rw [show (l[i].m == 0) = true from hp]
        conv => whnf
        have hsi := hsl i
        refine need_of ((decide_eq_true ⟨by omega, by simp; omega⟩)) ?_
        conv => whnf
        refine ⟨(l.length - (i + 1)), [1, 9, 15, 16, 17], [3], [], by omega, rfl, ?_⟩
        conv => whnf
        refine ⟨i + 1, by omega, .inr ⟨by rw [selP_yes h1 hp]; simp, ?_⟩⟩
        rw [inc_nat (by omega), selP_yes h1 hp, List.length_append]
        rfl
    · have h1 : ¬i < l.length := by have := of_decide_eq_false h1; omega
      obtain rfl : i = l.length := by omega
      have k := rmean_spec (((selP is0 Blk.d2 l l.length).drop 0).take (selP is0 Blk.d2 l l.length).length) (by simp; have := hsl l.length; omega) (fun v hv => hsm l.length v (by simpa using hv))
      conv => whnf
      refine CallsF.call [] [0] k rfl rfl rfl rfl rfl (.inr rfl) ?_
      conv => whnf
      exact ⟨[], [], rfl, congrArg iv (by rw [List.drop_zero, List.take_length, selP_all]), rfl⟩

def dcN (p : Int) (l : List Blk) : Int :=
  if p = 0 then meanN ((l.filter is0).map Blk.d0) else if p = 1 then meanN ((l.filter is0).map Blk.d1) else if p = 2 then meanN ((l.filter is0).map Blk.d2) else 0

theorem dc_spec (f : Fld) (p x y : Int) : CallsF Try.prog 15 [f.av, iv p, iv x, iv y] [] (iv (dcN p (nearL f x y))) [] := by
  by_cases h0 : p = 0
  · subst h0; exact gdc0_spec f x y
  by_cases h1 : p = 1
  · subst h1; exact gdc1_spec f x y
  by_cases h2 : p = 2
  · subst h2; exact gdc2_spec f x y
  rw [dcN, if_neg h0, if_neg h1, if_neg h2]
  refine e15 ?_
  conv => whnf
  refine ifB_of (fun h3 => ?_) (fun h3 => ?_)
  · conv => whnf
    exact ⟨[], [], rfl, rfl, rfl⟩
  have h3 := of_decide_eq_false h3
  conv => whnf
  rw [decide_eq_true (show p > 2 by omega)]
  conv => whnf
  exact ⟨[], [], rfl, rfl, rfl⟩

set_option maxRecDepth 10000 in
theorem rdc_spec (f : Fld) (p x y : Int) : CallsF Try.prog 16 [f.av, iv p, iv x, iv y] [] (iv (dcN p (nearL f x y))) [] := by
  by_cases h0 : p = 0
  · subst h0; exact rdc0_spec f x y
  by_cases h1 : p = 1
  · subst h1; exact rdc1_spec f x y
  by_cases h2 : p = 2
  · subst h2; exact rdc2_spec f x y
  rw [dcN, if_neg h0, if_neg h1, if_neg h2]
  have hl := near_len f x y
  refine e16 ?_
  conv => whnf
  refine CallsF.call [] [] (near_spec f x y) rfl rfl rfl rfl rfl (.inl rfl) ?_
  conv => whnf
  generalize nearL f x y = l at *
  obtain ⟨rows, hr⟩ : ∃ rows, l.map Blk.row = rows := ⟨_, rfl⟩
  have hlen : rows.length = l.length := by rw [← hr, List.length_map]
  rw [hr]
  refine LoopA.inv (fun n st => ∃ i : Nat, n + i = l.length ∧ st = ⟨[(1, iv p), (9, .snil), (15, .ro 9 rows), (16, iv (rows.length : Nat)), (17, iv i)], [], 0, 0⟩) l.length [1, 9, 15, 16, 17] [] [] (by rfl) ?_ ?_
  · conv => whnf
    exact ⟨0, rfl, rfl⟩
  rintro n st ⟨i, hn, rfl⟩
  conv => whnf
  refine ifB_of (fun h3 => ?_) (fun h3 => ?_)
  · have h3 : i < l.length := by have := of_decide_eq_true h3; omega
    conv => whnf
    have hrow : nth rows (i : Int).toNat = some l[i].row := by
      rw [Int.toNat_natCast, nth_get, ← hr, List.getElem?_map, List.getElem?_eq_getElem h3]; rfl
    rw [aop_idxS_ro hrow rfl rfl]
    conv => whnf
    refine ifB_of (fun h4 => ?_) (fun h4 => ?_)
    · conv => whnf
      refine ifB_of (fun h5 => ?_) (fun h5 => ?_)
      · have h5 := of_decide_eq_true h5
        conv => whnf
        rw [decide_eq_false (show ¬ p ≤ 2 by omega)]
        conv => whnf
        refine ⟨(l.length - (i + 1)), [1, 9, 15, 16, 17], [], [], by omega, rfl, ?_⟩
        conv => whnf
        exact ⟨i + 1, by omega, by rw [inc_nat (by omega)]⟩
      · conv => whnf
        refine ⟨(l.length - (i + 1)), [1, 9, 15, 16, 17], [], [], by omega, rfl, ?_⟩
        conv => whnf
        exact ⟨i + 1, by omega, by rw [inc_nat (by omega)]⟩
    · conv => whnf
      refine ⟨(l.length - (i + 1)), [1, 9, 15, 16, 17], [], [], by omega, rfl, ?_⟩
      conv => whnf
      exact ⟨i + 1, by omega, by rw [inc_nat (by omega)]⟩
  · conv => whnf
    refine CallsF.call [] [] (CallsF.weak (.cons (.snil .i64) .nil) (rmean_spec [] (by simp) (by simp))) rfl rfl rfl rfl rfl (.inl rfl) ?_
    conv => whnf
    exact ⟨[], [], rfl, rfl, rfl⟩
end Go.Proofs.TryN

