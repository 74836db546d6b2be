/- Layer 17: what blocks are of themselves. -/
import Derived.Test.YticofpkggbdnpaaN17I
namespace Go.Proofs.TryN
open Go Go.AL Go.Proofs

def is0 (b : Blk) : Bool := b.m == 0
def selP (p : Blk → Bool) (v : Blk → Int) (l : List Blk) (i : Nat) : List Int := ((l.take i).filter p).map v

theorem selP_yes {p : Blk → Bool} {v : Blk → Int} {l : List Blk} {i : Nat} (h : i < l.length) (hp : p l[i] = true) : selP p v l (i + 1) = selP p v l i ++ [v l[i]] := by
  unfold selP; rw [List.take_succ_eq_append_getElem h, List.filter_append]; simp [hp]
theorem selP_no {p : Blk → Bool} {v : Blk → Int} {l : List Blk} {i : Nat} (h : i < l.length) (hp : p l[i] = false) : selP p v l (i + 1) = selP p v l i := by
  unfold selP; rw [List.take_succ_eq_append_getElem h, List.filter_append]; simp [hp]
theorem selP_all {p : Blk → Bool} {v : Blk → Int} {l : List Blk} : selP p v l l.length = (l.filter p).map v := by unfold selP; rw [List.take_length]
theorem selP_len (p : Blk → Bool) (v : Blk → Int) (l : List Blk) (i : Nat) : (selP p v l i).length ≤ l.length := by
  unfold selP
  have h1 := List.length_filter_le p (l.take i)
  have h2 := List.length_take_le' i l
  rw [List.length_map]; omega
theorem selP_mem {p : Blk → Bool} {v : Blk → Int} {l : List Blk} {i : Nat} {u : Int} (h : u ∈ selP p v l i) : ∃ b ∈ l, v b = u := by
  unfold selP at h
  rw [List.mem_map] at h
  obtain ⟨b, hb, rfl⟩ := h
  exact ⟨b, List.mem_of_mem_take (List.mem_filter.1 hb).1, rfl⟩

set_option maxRecDepth 10000 in
theorem gdc0_spec (f : Fld) (x y : Int) : CallsF Try.prog 15 [f.av, iv 0, iv x, iv y] [] (iv (meanN (((nearL f x y).filter is0).map Blk.d0))) [] := by
  have hl := near_len f x y
  have ho : ∀ b ∈ nearL f x y, b.ok = true := fun b hb => near_ok hb
  refine e15 ?_
  conv => whnf
  refine CallsF.call [] [] (blocks_spec f x y) rfl rfl rfl rfl rfl (.inl rfl) ?_
  conv => whnf
  generalize nearL f x y = l at *
  obtain ⟨rows, hr⟩ : ∃ rows, l.map Blk.row = rows := ⟨_, rfl⟩
  have hlen : rows.length = l.length := by rw [← hr, List.length_map]
  have hsm : ∀ i, ∀ v ∈ selP is0 Blk.d0 l i, -16777216 ≤ v ∧ v ≤ 16777216 := fun i v hv => by
    obtain ⟨b, hb, rfl⟩ := selP_mem hv
    have := (Blk.ok_in (ho b hb)).2.2
    simp [smallB] at this; omega
  have hsl : ∀ i, (selP is0 Blk.d0 l i).length ≤ 3 := fun i => by have := selP_len is0 Blk.d0 l i; omega
  rw [hr]
  refine LoopA.inv (fun n st => ∃ i : Nat, n + i = l.length ∧ ((selP is0 Blk.d0 l i = [] ∧ st = ⟨[(1, iv 0), (9, .snil), (21, .ro 9 rows), (22, iv (rows.length : Nat)), (23, iv i)], [], 0, 0⟩) ∨ (selP is0 Blk.d0 l i ≠ [] ∧ st = ⟨[(1, iv 0), (9, .sl 0 0 (selP is0 Blk.d0 l i).length), (21, .ro 9 rows), (22, iv (rows.length : Nat)), (23, iv i)], [some (.ia .i64 (selP is0 Blk.d0 l i))], 1, 0⟩))) l.length [1, 9, 21, 22, 23] [] [] (by rfl) ?_ ?_
  · conv => whnf
    exact ⟨0, rfl, .inl ⟨rfl, rfl⟩⟩
  rintro n st ⟨i, hn, ⟨hs, rfl⟩ | ⟨hs, rfl⟩⟩
  · conv => whnf
    refine ifB_of (fun h1 => ?_) (fun h1 => ?_)
    · have h1 : i < l.length := by have := of_decide_eq_true h1; omega
      conv => whnf
      have hrow : nth rows (i : Int).toNat = some l[i].row := by
        rw [Int.toNat_natCast, nth_get, ← hr, List.getElem?_map, List.getElem?_eq_getElem h1]; rfl
      rw [aop_idxS_ro hrow rfl rfl]
      conv => whnf
      cases hp : is0 l[i]
      · rw [show (l[i].m == 0) = false from hp]
        conv => whnf
        refine ⟨(l.length - (i + 1)), [1, 9, 21, 22, 23], [], [], by omega, rfl, ?_⟩
        conv => whnf
        refine ⟨i + 1, by omega, .inl ⟨by rw [selP_no h1 hp, hs], ?_⟩⟩
        rw [inc_nat (by omega)]
      · rw [show (l[i].m == 0) = true from hp]
        conv => whnf
        refine ⟨(l.length - (i + 1)), [1, 9, 21, 22, 23], [2], [], by omega, rfl, ?_⟩
        conv => whnf
        refine ⟨i + 1, by omega, .inr ⟨by rw [selP_yes h1 hp]; simp, ?_⟩⟩
        rw [inc_nat (by omega), selP_yes h1 hp, hs]
        rfl
    · have h1 : ¬i < l.length := by have := of_decide_eq_false h1; omega
      obtain rfl : i = l.length := by omega
      rw [selP_all] at hs
      conv => whnf
      refine CallsF.call [] [] (CallsF.weak (.cons (.snil .i64) .nil) (mean_spec [] (by simp) (by simp))) rfl rfl rfl rfl rfl (.inl rfl) ?_
      conv => whnf
      exact ⟨[], [], rfl, congrArg iv (by rw [hs]), rfl⟩
  · conv => whnf
    refine ifB_of (fun h1 => ?_) (fun h1 => ?_)
    · have h1 : i < l.length := by have := of_decide_eq_true h1; omega
      conv => whnf
      have hrow : nth rows (i : Int).toNat = some l[i].row := by
        rw [Int.toNat_natCast, nth_get, ← hr, List.getElem?_map, List.getElem?_eq_getElem h1]; rfl
      rw [aop_idxS_ro hrow rfl rfl]
      conv => whnf
      cases hp : is0 l[i]
      · rw [show (l[i].m == 0) = false from hp]
        conv => whnf
        refine ⟨(l.length - (i + 1)), [1, 9, 21, 22, 23], [0], [], by omega, rfl, ?_⟩
        conv => whnf
        refine ⟨i + 1, by omega, .inr ⟨by rw [selP_no h1 hp]; exact hs, ?_⟩⟩
        rw [inc_nat (by omega), selP_no h1 hp]
      · rw [show (l[i].m == 0) = true from hp]
        conv => whnf
        have hsi := hsl i
        refine need_of ((decide_eq_true ⟨by omega, by simp; omega⟩)) ?_
        conv => whnf
        refine ⟨(l.length - (i + 1)), [1, 9, 21, 22, 23], [3], [], by omega, rfl, ?_⟩
        conv => whnf
        refine ⟨i + 1, by omega, .inr ⟨by rw [selP_yes h1 hp]; simp, ?_⟩⟩
        rw [inc_nat (by omega), selP_yes h1 hp, List.length_append]
        rfl
    · have h1 : ¬i < l.length := by have := of_decide_eq_false h1; omega
      obtain rfl : i = l.length := by omega
      have k := mean_spec (((selP is0 Blk.d0 l l.length).drop 0).take (selP is0 Blk.d0 l l.length).length) (by simp; have := hsl l.length; omega) (fun v hv => hsm l.length v (by simpa using hv))
      conv => whnf
      refine CallsF.call [] [0] k rfl rfl rfl rfl rfl (.inr rfl) ?_
      conv => whnf
      exact ⟨[], [], rfl, congrArg iv (by rw [List.drop_zero, List.take_length, selP_all]), rfl⟩

set_option maxRecDepth 10000 in
theorem gdc1_spec (f : Fld) (x y : Int) : CallsF Try.prog 15 [f.av, iv 1, iv x, iv y] [] (iv (meanN (((nearL f x y).filter is0).map Blk.d1))) [] := by
  have hl := near_len f x y
  have ho : ∀ b ∈ nearL f x y, b.ok = true := fun b hb => near_ok hb
  refine e15 ?_
  conv => whnf
  refine CallsF.call [] [] (blocks_spec f x y) rfl rfl rfl rfl rfl (.inl rfl) ?_
  conv => whnf
  generalize nearL f x y = l at *
  obtain ⟨rows, hr⟩ : ∃ rows, l.map Blk.row = rows := ⟨_, rfl⟩
  have hlen : rows.length = l.length := by rw [← hr, List.length_map]
  have hsm : ∀ i, ∀ v ∈ selP is0 Blk.d1 l i, -16777216 ≤ v ∧ v ≤ 16777216 := fun i v hv => by
    obtain ⟨b, hb, rfl⟩ := selP_mem hv
    have := (Blk.ok_in (ho b hb)).2.2
    simp [smallB] at this; omega
  have hsl : ∀ i, (selP is0 Blk.d1 l i).length ≤ 3 := fun i => by have := selP_len is0 Blk.d1 l i; omega
  rw [hr]
  refine LoopA.inv (fun n st => ∃ i : Nat, n + i = l.length ∧ ((selP is0 Blk.d1 l i = [] ∧ st = ⟨[(1, iv 1), (9, .snil), (21, .ro 9 rows), (22, iv (rows.length : Nat)), (23, iv i)], [], 0, 0⟩) ∨ (selP is0 Blk.d1 l i ≠ [] ∧ st = ⟨[(1, iv 1), (9, .sl 0 0 (selP is0 Blk.d1 l i).length), (21, .ro 9 rows), (22, iv (rows.length : Nat)), (23, iv i)], [some (.ia .i64 (selP is0 Blk.d1 l i))], 1, 0⟩))) l.length [1, 9, 21, 22, 23] [] [] (by rfl) ?_ ?_
  · conv => whnf
    exact ⟨0, rfl, .inl ⟨rfl, rfl⟩⟩
  rintro n st ⟨i, hn, ⟨hs, rfl⟩ | ⟨hs, rfl⟩⟩
  · conv => whnf
    refine ifB_of (fun h1 => ?_) (fun h1 => ?_)
    · have h1 : i < l.length := by have := of_decide_eq_true h1; omega
      conv => whnf
      have hrow : nth rows (i : Int).toNat = some l[i].row := by
        rw [Int.toNat_natCast, nth_get, ← hr, List.getElem?_map, List.getElem?_eq_getElem h1]; rfl
      rw [aop_idxS_ro hrow rfl rfl]
      conv => whnf
      cases hp : is0 l[i]
      · rw [show (l[i].m == 0) = false from hp]
        conv => whnf
        refine ⟨(l.length - (i + 1)), [1, 9, 21, 22, 23], [], [], by omega, rfl, ?_⟩
        conv => whnf
        refine ⟨i + 1, by omega, .inl ⟨by rw [selP_no h1 hp, hs], ?_⟩⟩
        rw [inc_nat (by omega)]
      · rw [show (l[i].m == 0) = true from hp]
        conv => whnf
        refine ⟨(l.length - (i + 1)), [1, 9, 21, 22, 23], [2], [], by omega, rfl, ?_⟩
        conv => whnf
        refine ⟨i + 1, by omega, .inr ⟨by rw [selP_yes h1 hp]; simp, ?_⟩⟩
        rw [inc_nat (by omega), selP_yes h1 hp, hs]
        rfl
    · have h1 : ¬i < l.length := by have := of_decide_eq_false h1; omega
      obtain rfl : i = l.length := by omega
      rw [selP_all] at hs
      conv => whnf
      refine CallsF.call [] [] (CallsF.weak (.cons (.snil .i64) .nil) (mean_spec [] (by simp) (by simp))) rfl rfl rfl rfl rfl (.inl rfl) ?_
      conv => whnf
      exact ⟨[], [], rfl, congrArg iv (by rw [hs]), rfl⟩
  · conv => whnf
    refine ifB_of (fun h1 => ?_) (fun h1 => ?_)
    · have h1 : i < l.length := by have := of_decide_eq_true h1; omega
      conv => whnf
      have hrow : nth rows (i : Int).toNat = some l[i].row := by
        rw [Int.toNat_natCast, nth_get, ← hr, List.getElem?_map, List.getElem?_eq_getElem h1]; rfl
      rw [aop_idxS_ro hrow rfl rfl]
      conv => whnf
      cases hp : is0 l[i]
      · rw [show (l[i].m == 0) = false from hp]
        conv => whnf
        refine ⟨(l.length - (i + 1)), [1, 9, 21, 22, 23], [0], [], by omega, rfl, ?_⟩
        conv => whnf
        refine ⟨i + 1, by omega, .inr ⟨by rw [selP_no h1 hp]; exact hs, ?_⟩⟩
        rw [inc_nat (by omega), selP_no h1 hp]
      · rw [show (l[i].m == 0) = true from hp]
        conv => whnf
        have hsi := hsl i
        refine need_of ((decide_eq_true ⟨by omega, by simp; omega⟩)) ?_
        conv => whnf
        refine ⟨(l.length - (i + 1)), [1, 9, 21, 22, 23], [3], [], by omega, rfl, ?_⟩
        conv => whnf
        refine ⟨i + 1, by omega, .inr ⟨by rw [selP_yes h1 hp]; simp, ?_⟩⟩
        rw [inc_nat (by omega), selP_yes h1 hp, List.length_append]
        rfl
    · have h1 : ¬i < l.length := by have := of_decide_eq_false h1; omega
      obtain rfl : i = l.length := by omega
      have k := mean_spec (((selP is0 Blk.d1 l l.length).drop 0).take (selP is0 Blk.d1 l l.length).length) (by simp; have := hsl l.length; omega) (fun v hv => hsm l.length v (by simpa using hv))
      conv => whnf
      refine CallsF.call [] [0] k rfl rfl rfl rfl rfl (.inr rfl) ?_
      conv => whnf
      exact ⟨[], [], rfl, congrArg iv (by rw [List.drop_zero, List.take_length, selP_all]), rfl⟩

set_option maxRecDepth 10000 in
theorem gdc2_spec (f : Fld) (x y : Int) : CallsF Try.prog 15 [f.av, iv 2, iv x, iv y] [] (iv (meanN (((nearL f x y).filter is0).map Blk.d2))) [] := by
  have hl := near_len f x y
  have ho : ∀ b ∈ nearL f x y, b.ok = true := fun b hb => near_ok hb
  refine e15 ?_
  conv => whnf
  refine CallsF.call [] [] (blocks_spec f x y) rfl rfl rfl rfl rfl (.inl rfl) ?_
  conv => whnf
  generalize nearL f x y = l at *
  obtain ⟨rows, hr⟩ : ∃ rows, l.map Blk.row = rows := ⟨_, rfl⟩
  have hlen : rows.length = l.length := by rw [← hr, List.length_map]
  have hsm : ∀ i, ∀ v ∈ selP is0 Blk.d2 l i, -16777216 ≤ v ∧ v ≤ 16777216 := fun i v hv => by
    obtain ⟨b, hb, rfl⟩ := selP_mem hv
    have := (Blk.ok_in (ho b hb)).2.2
    simp [smallB] at this; omega
  have hsl : ∀ i, (selP is0 Blk.d2 l i).length ≤ 3 := fun i => by have := selP_len is0 Blk.d2 l i; omega
  rw [hr]
  refine LoopA.inv (fun n st => ∃ i : Nat, n + i = l.length ∧ ((selP is0 Blk.d2 l i = [] ∧ st = ⟨[(1, iv 2), (9, .snil), (21, .ro 9 rows), (22, iv (rows.length : Nat)), (23, iv i)], [], 0, 0⟩) ∨ (selP is0 Blk.d2 l i ≠ [] ∧ st = ⟨[(1, iv 2), (9, .sl 0 0 (selP is0 Blk.d2 l i).length), (21, .ro 9 rows), (22, iv (rows.length : Nat)), (23, iv i)], [some (.ia .i64 (selP is0 Blk.d2 l i))], 1, 0⟩))) l.length [1, 9, 21, 22, 23] [] [] (by rfl) ?_ ?_
  · conv => whnf
    exact ⟨0, rfl, .inl ⟨rfl, rfl⟩⟩
  rintro n st ⟨i, hn, ⟨hs, rfl⟩ | ⟨hs, rfl⟩⟩
  · conv => whnf
    refine ifB_of (fun h1 => ?_) (fun h1 => ?_)
    · have h1 : i < l.length := by have := of_decide_eq_true h1; omega
      conv => whnf
      have hrow : nth rows (i : Int).toNat = some l[i].row := by
        rw [Int.toNat_natCast, nth_get, ← hr, List.getElem?_map, List.getElem?_eq_getElem h1]; rfl
      rw [aop_idxS_ro hrow rfl rfl]
      conv => whnf
      cases hp : is0 l[i]
      · rw [show (l[i].m == 0) = false from hp]
        conv => whnf
        refine ⟨(l.length - (i + 1)), [1, 9, 21, 22, 23], [], [], by omega, rfl, ?_⟩
        conv => whnf
        refine ⟨i + 1, by omega, .inl ⟨by rw [selP_no h1 hp, hs], ?_⟩⟩
        rw [inc_nat (by omega)]
      · rw [show (l[i].m == 0) = true from hp]
        conv => whnf
        refine ⟨(l.length - (i + 1)), [1, 9, 21, 22, 23], [2], [], by omega, rfl, ?_⟩
        conv => whnf
        refine ⟨i + 1, by omega, .inr ⟨by rw [selP_yes h1 hp]; simp, ?_⟩⟩
        rw [inc_nat (by omega), selP_yes h1 hp, hs]
        rfl
    · have h1 : ¬i < l.length := by have := of_decide_eq_false h1; omega
      obtain rfl : i = l.length := by omega
      rw [selP_all] at hs
      conv => whnf
      refine CallsF.call [] [] (CallsF.weak (.cons (.snil .i64) .nil) (mean_spec [] (by simp) (by simp))) rfl rfl rfl rfl rfl (.inl rfl) ?_
      conv => whnf
      exact ⟨[], [], rfl, congrArg iv (by rw [hs]), rfl⟩
  · conv => whnf
    refine ifB_of (fun h1 => ?_) (fun h1 => ?_)
    · have h1 : i < l.length := by have := of_decide_eq_true h1; omega
      conv => whnf
      have hrow : nth rows (i : Int).toNat = some l[i].row := by
        rw [Int.toNat_natCast, nth_get, ← hr, List.getElem?_map, List.getElem?_eq_getElem h1]; rfl
      rw [aop_idxS_ro hrow rfl rfl]
      conv => whnf
      cases hp : is0 l[i]
      · rw [show (l[i].m == 0) = false from hp]
        conv => whnf
        refine ⟨(l.length - (i + 1)), [1, 9, 21, 22, 23], [0], [], by omega, rfl, ?_⟩
        conv => whnf
        refine ⟨i + 1, by omega, .inr ⟨by rw [selP_no h1 hp]; exact hs, ?_⟩⟩
        rw [inc_nat (by omega), selP_no h1 hp]
      · rw [show (l[i].m == 0) = true from hp]
        conv => whnf
        have hsi := hsl i
        refine need_of ((decide_eq_true ⟨by omega, by simp; omega⟩)) ?_
        conv => whnf
        refine ⟨(l.length - (i + 1)), [1, 9, 21, 22, 23], [3], [], by omega, rfl, ?_⟩
        conv => whnf
        refine ⟨i + 1, by omega, .inr ⟨by rw [selP_yes h1 hp]; simp, ?_⟩⟩
        rw [inc_nat (by omega), selP_yes h1 hp, List.length_append]
        rfl
    · have h1 : ¬i < l.length := by have := of_decide_eq_false h1; omega
      obtain rfl : i = l.length := by omega
      have k := mean_spec (((selP is0 Blk.d2 l l.length).drop 0).take (selP is0 Blk.d2 l l.length).length) (by simp; have := hsl l.length; omega) (fun v hv => hsm l.length v (by simpa using hv))
      conv => whnf
      refine CallsF.call [] [0] k rfl rfl rfl rfl rfl (.inr rfl) ?_
      conv => whnf
      exact ⟨[], [], rfl, congrArg iv (by rw [List.drop_zero, List.take_length, selP_all]), rfl⟩
end Go.Proofs.TryN

