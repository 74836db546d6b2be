/- Layer 17: vectors. -/
import Derived.Test.YticofpkggbdnpaaN17K
namespace Go.Proofs.TryN
open Go Go.AL Go.Proofs

def selV (r : Int) (b : Blk) : Bool := usesB r b && !b.g
def vecV (p : Blk → Bool) (vx vy : Blk → Int) (l : List Blk) : AV := .agg [iv (midN ((l.filter p).map vx)), iv (midN ((l.filter p).map vy))]

theorem selP_nil {p : Blk → Bool} {v : Blk → Int} {l : List Blk} {i : Nat} : selP p v l i = [] ↔ (l.take i).filter p = [] := by unfold selP; exact List.map_eq_nil_iff
theorem len_pos {l : List Int} (h : l ≠ []) : 1 ≤ l.length := by cases l with
  | nil => exact absurd rfl h
  | cons => simp

set_option maxRecDepth 10000 in
theorem gvec0_spec (f : Fld) (x y : Int) : CallsF Try.prog 13 [f.av, iv 0, iv x, iv y] [] (vecV (selV 0) Blk.x0 Blk.y0 (nearL f x y)) [] := by
  have hl := near_len f x y
  have ho : ∀ b ∈ nearL f x y, b.ok = true := fun b hb => near_ok hb
  refine e13 ?_
  conv => whnf
  refine CallsF.call [] [] (blocks_spec f x y) rfl rfl rfl rfl rfl (.inl rfl) ?_
  conv => whnf
  generalize nearL f x y = l at *
  obtain ⟨rows, hr⟩ : ∃ rows, l.map Blk.row = rows := ⟨_, rfl⟩
  have hlen : rows.length = l.length := by rw [← hr, List.length_map]
  have hsx : ∀ i, ∀ v ∈ selP (selV 0) Blk.x0 l i, -16777216 ≤ v ∧ v ≤ 16777216 := fun i v hv => by
    obtain ⟨b, hb, rfl⟩ := selP_mem hv
    have := (Blk.ok_in (ho b hb)).2.1
    simp [smallB] at this; omega
  have hsy : ∀ i, ∀ v ∈ selP (selV 0) Blk.y0 l i, -16777216 ≤ v ∧ v ≤ 16777216 := fun i v hv => by
    obtain ⟨b, hb, rfl⟩ := selP_mem hv
    have := (Blk.ok_in (ho b hb)).2.1
    simp [smallB] at this; omega
  have hsl : ∀ i, (selP (selV 0) Blk.x0 l i).length ≤ 3 := fun i => by have := selP_len (selV 0) Blk.x0 l i; omega
  have hsk : ∀ i, (selP (selV 0) Blk.y0 l i).length ≤ 3 := fun i => by have := selP_len (selV 0) Blk.y0 l i; omega
  rw [hr]
  refine LoopA.inv (fun n st => ∃ i : Nat, n + i = l.length ∧ ((selP (selV 0) Blk.x0 l i = [] ∧ st = ⟨[(1, iv 0), (8, .bp 0 0), (9, .snil), (10, .snil), (23, .ro 9 rows), (24, iv (rows.length : Nat)), (25, iv i)], [some (.box [iv 0, iv 0])], 1, 0⟩) ∨ (selP (selV 0) Blk.x0 l i ≠ [] ∧ st = ⟨[(1, iv 0), (8, .bp 0 0), (9, .sl 1 0 (selP (selV 0) Blk.x0 l i).length), (10, .sl 2 0 (selP (selV 0) Blk.y0 l i).length), (23, .ro 9 rows), (24, iv (rows.length : Nat)), (25, iv i)], [some (.box [iv 0, iv 0]), some (.ia .i64 (selP (selV 0) Blk.x0 l i)), some (.ia .i64 (selP (selV 0) Blk.y0 l i))], 3, 0⟩))) l.length [1, 8, 9, 10, 23, 24, 25] [1] [] (by rfl) ?_ ?_
  · conv => whnf
    exact ⟨0, rfl, .inl ⟨rfl, rfl⟩⟩
  rintro n st ⟨i, hn, ⟨hs, rfl⟩ | ⟨hs, rfl⟩⟩
  · conv => whnf
    refine ifB_of (fun h1 => ?_) (fun h1 => ?_)
    rotate_left
    · have h1 : ¬i < l.length := by have := of_decide_eq_false h1; omega
      obtain rfl : i = l.length := by omega
      have hs2 : selP (selV 0) Blk.y0 l l.length = [] := by rw [selP_nil] at hs ⊢; exact hs
      rw [selP_all] at hs hs2
      conv => whnf
      refine CallsF.call [] [] mid0_spec rfl rfl rfl rfl rfl (.inl rfl) ?_
      conv => whnf
      refine CallsF.call [] [] mid0_spec rfl rfl rfl rfl rfl (.inl rfl) ?_
      conv => whnf
      exact ⟨[], [], rfl, by rw [vecV, hs, hs2]; rfl, rfl⟩
    · have h1 : i < l.length := by have := of_decide_eq_true h1; omega
      conv => whnf
      have hrow : nth rows (i : Int).toNat = some l[i].row := by
        rw [Int.toNat_natCast, nth_get, ← hr, List.getElem?_map, List.getElem?_eq_getElem h1]; rfl
      have hm := (Blk.ok_in (ho _ (List.getElem_mem h1))).1
      rw [aop_idxS_ro hrow rfl rfl]
      conv => whnf
      refine CallsF.call [] [] (uses_spec l[i] 0 (by omega) hm) rfl rfl rfl rfl rfl (.inl rfl) ?_
      conv => whnf
      cases hu : usesB 0 l[i]
      · have hp : selV 0 l[i] = false := by simp [selV, hu]
        conv => whnf
        refine ⟨(l.length - (i + 1)), [1, 8, 9, 10, 23, 24, 25], [0], [], by omega, rfl, ?_⟩
        conv => whnf
        refine ⟨i + 1, by omega, .inl ⟨by rw [selP_no h1 hp, hs], ?_⟩⟩
        rw [inc_nat (by omega)]
      conv => whnf
      cases hg : l[i].g
      rotate_left
      · have hp : selV 0 l[i] = false := by simp [selV, hg]
        conv => whnf
        refine ⟨(l.length - (i + 1)), [1, 8, 9, 10, 23, 24, 25], [0], [], by omega, rfl, ?_⟩
        conv => whnf
        refine ⟨i + 1, by omega, .inl ⟨by rw [selP_no h1 hp, hs], ?_⟩⟩
        rw [inc_nat (by omega)]
      have hp : selV 0 l[i] = true := by simp [selV, hu, hg]
      conv => whnf
      refine ⟨(l.length - (i + 1)), [1, 8, 9, 10, 23, 24, 25], [0, 2, 3], [], by omega, rfl, ?_⟩
      conv => whnf
      refine ⟨i + 1, by omega, .inr ⟨by rw [selP_yes h1 hp]; simp, ?_⟩⟩
      have hs2 : selP (selV 0) Blk.y0 l i = [] := by rw [selP_nil] at hs ⊢; exact hs
      rw [inc_nat (by omega), selP_yes h1 hp, selP_yes h1 hp, hs, hs2]
      rfl
  · conv => whnf
    refine ifB_of (fun h1 => ?_) (fun h1 => ?_)
    rotate_left
    · have h1 : ¬i < l.length := by have := of_decide_eq_false h1; omega
      obtain rfl : i = l.length := by omega
      have hs2 : selP (selV 0) Blk.y0 l l.length ≠ [] := by rw [Ne, selP_nil] at hs ⊢; exact hs
      have k1 := mid_spec (selP (selV 0) Blk.x0 l l.length) (len_pos hs) (hsl _) (hsx _)
      have k2 := mid_spec (selP (selV 0) Blk.y0 l l.length) (len_pos hs2) (hsk _) (hsy _)
      conv => whnf
      refine CallsF.call [1] [] k1 rfl rfl rfl rfl rfl (.inl rfl) ?_
      conv => whnf
      refine CallsF.call [2] [] k2 rfl rfl rfl rfl rfl (.inl rfl) ?_
      conv => whnf
      exact ⟨[], [], rfl, by rw [vecV, ← selP_all, ← selP_all]; rfl, rfl⟩
    · have h1 : i < l.length := by have := of_decide_eq_true h1; omega
      conv => whnf
      have hrow : nth rows (i : Int).toNat = some l[i].row := by
        rw [Int.toNat_natCast, nth_get, ← hr, List.getElem?_map, List.getElem?_eq_getElem h1]; rfl
      have hm := (Blk.ok_in (ho _ (List.getElem_mem h1))).1
      rw [aop_idxS_ro hrow rfl rfl]
      conv => whnf
      refine CallsF.call [] [] (uses_spec l[i] 0 (by omega) hm) rfl rfl rfl rfl rfl (.inl rfl) ?_
      conv => whnf
      cases hu : usesB 0 l[i]
      · have hp : selV 0 l[i] = false := by simp [selV, hu]
        conv => whnf
        refine ⟨(l.length - (i + 1)), [1, 8, 9, 10, 23, 24, 25], [0, 1, 2], [], by omega, rfl, ?_⟩
        conv => whnf
        refine ⟨i + 1, by omega, .inr ⟨by rw [selP_no h1 hp]; exact hs, ?_⟩⟩
        rw [inc_nat (by omega), selP_no h1 hp, selP_no h1 hp]
      conv => whnf
      cases hg : l[i].g
      rotate_left
      · have hp : selV 0 l[i] = false := by simp [selV, hg]
        conv => whnf
        refine ⟨(l.length - (i + 1)), [1, 8, 9, 10, 23, 24, 25], [0, 1, 2], [], by omega, rfl, ?_⟩
        conv => whnf
        refine ⟨i + 1, by omega, .inr ⟨by rw [selP_no h1 hp]; exact hs, ?_⟩⟩
        rw [inc_nat (by omega), selP_no h1 hp, selP_no h1 hp]
      have hp : selV 0 l[i] = true := by simp [selV, hu, hg]
      conv => whnf
      have hsi := hsl i
      have hsj := hsk i
      refine need_of ((decide_eq_true ⟨by omega, by simp; omega⟩)) ?_
      conv => whnf
      refine ⟨by repeat (first | exact same_nil | refine same_of rfl ?_), ?_⟩
      conv => whnf
      refine need_of ((decide_eq_true ⟨by omega, by simp; omega⟩)) ?_
      conv => whnf
      refine ⟨(l.length - (i + 1)), [1, 8, 9, 10, 23, 24, 25], [0, 4, 5], [], by omega, rfl, ?_⟩
      conv => whnf
      refine ⟨i + 1, by omega, .inr ⟨by rw [selP_yes h1 hp]; simp, ?_⟩⟩
      rw [inc_nat (by omega), selP_yes h1 hp, selP_yes h1 hp, List.length_append, List.length_append]
      rfl

set_option maxRecDepth 10000 in
theorem gvec1_spec (f : Fld) (x y : Int) : CallsF Try.prog 13 [f.av, iv 1, iv x, iv y] [] (vecV (selV 1) Blk.x1 Blk.y1 (nearL f x y)) [] := by
  have hl := near_len f x y
  have ho : ∀ b ∈ nearL f x y, b.ok = true := fun b hb => near_ok hb
  refine e13 ?_
  conv => whnf
  refine CallsF.call [] [] (blocks_spec f x y) rfl rfl rfl rfl rfl (.inl rfl) ?_
  conv => whnf
  generalize nearL f x y = l at *
  obtain ⟨rows, hr⟩ : ∃ rows, l.map Blk.row = rows := ⟨_, rfl⟩
  have hlen : rows.length = l.length := by rw [← hr, List.length_map]
  have hsx : ∀ i, ∀ v ∈ selP (selV 1) Blk.x1 l i, -16777216 ≤ v ∧ v ≤ 16777216 := fun i v hv => by
    obtain ⟨b, hb, rfl⟩ := selP_mem hv
    have := (Blk.ok_in (ho b hb)).2.1
    simp [smallB] at this; omega
  have hsy : ∀ i, ∀ v ∈ selP (selV 1) Blk.y1 l i, -16777216 ≤ v ∧ v ≤ 16777216 := fun i v hv => by
    obtain ⟨b, hb, rfl⟩ := selP_mem hv
    have := (Blk.ok_in (ho b hb)).2.1
    simp [smallB] at this; omega
  have hsl : ∀ i, (selP (selV 1) Blk.x1 l i).length ≤ 3 := fun i => by have := selP_len (selV 1) Blk.x1 l i; omega
  have hsk : ∀ i, (selP (selV 1) Blk.y1 l i).length ≤ 3 := fun i => by have := selP_len (selV 1) Blk.y1 l i; omega
  rw [hr]
  refine LoopA.inv (fun n st => ∃ i : Nat, n + i = l.length ∧ ((selP (selV 1) Blk.x1 l i = [] ∧ st = ⟨[(1, iv 1), (8, .bp 0 0), (9, .snil), (10, .snil), (23, .ro 9 rows), (24, iv (rows.length : Nat)), (25, iv i)], [some (.box [iv 0, iv 0])], 1, 0⟩) ∨ (selP (selV 1) Blk.x1 l i ≠ [] ∧ st = ⟨[(1, iv 1), (8, .bp 0 0), (9, .sl 1 0 (selP (selV 1) Blk.x1 l i).length), (10, .sl 2 0 (selP (selV 1) Blk.y1 l i).length), (23, .ro 9 rows), (24, iv (rows.length : Nat)), (25, iv i)], [some (.box [iv 0, iv 0]), some (.ia .i64 (selP (selV 1) Blk.x1 l i)), some (.ia .i64 (selP (selV 1) Blk.y1 l i))], 3, 0⟩))) l.length [1, 8, 9, 10, 23, 24, 25] [1] [] (by rfl) ?_ ?_
  · conv => whnf
    exact ⟨0, rfl, .inl ⟨rfl, rfl⟩⟩
  rintro n st ⟨i, hn, ⟨hs, rfl⟩ | ⟨hs, rfl⟩⟩
  · conv => whnf
    refine ifB_of (fun h1 => ?_) (fun h1 => ?_)
    rotate_left
    · have h1 : ¬i < l.length := by have := of_decide_eq_false h1; omega
      obtain rfl : i = l.length := by omega
      have hs2 : selP (selV 1) Blk.y1 l l.length = [] := by rw [selP_nil] at hs ⊢; exact hs
      rw [selP_all] at hs hs2
      conv => whnf
      refine CallsF.call [] [] mid0_spec rfl rfl rfl rfl rfl (.inl rfl) ?_
      conv => whnf
      refine CallsF.call [] [] mid0_spec rfl rfl rfl rfl rfl (.inl rfl) ?_
      conv => whnf
      exact ⟨[], [], rfl, by rw [vecV, hs, hs2]; rfl, rfl⟩
    · have h1 : i < l.length := by have := of_decide_eq_true h1; omega
      conv => whnf
      have hrow : nth rows (i : Int).toNat = some l[i].row := by
        rw [Int.toNat_natCast, nth_get, ← hr, List.getElem?_map, List.getElem?_eq_getElem h1]; rfl
      have hm := (Blk.ok_in (ho _ (List.getElem_mem h1))).1
      rw [aop_idxS_ro hrow rfl rfl]
      conv => whnf
      refine CallsF.call [] [] (uses_spec l[i] 1 (by omega) hm) rfl rfl rfl rfl rfl (.inl rfl) ?_
      conv => whnf
      cases hu : usesB 1 l[i]
      · have hp : selV 1 l[i] = false := by simp [selV, hu]
        conv => whnf
        refine ⟨(l.length - (i + 1)), [1, 8, 9, 10, 23, 24, 25], [0], [], by omega, rfl, ?_⟩
        conv => whnf
        refine ⟨i + 1, by omega, .inl ⟨by rw [selP_no h1 hp, hs], ?_⟩⟩
        rw [inc_nat (by omega)]
      conv => whnf
      cases hg : l[i].g
      rotate_left
      · have hp : selV 1 l[i] = false := by simp [selV, hg]
        conv => whnf
        refine ⟨(l.length - (i + 1)), [1, 8, 9, 10, 23, 24, 25], [0], [], by omega, rfl, ?_⟩
        conv => whnf
        refine ⟨i + 1, by omega, .inl ⟨by rw [selP_no h1 hp, hs], ?_⟩⟩
        rw [inc_nat (by omega)]
      have hp : selV 1 l[i] = true := by simp [selV, hu, hg]
      conv => whnf
      refine ⟨(l.length - (i + 1)), [1, 8, 9, 10, 23, 24, 25], [0, 2, 3], [], by omega, rfl, ?_⟩
      conv => whnf
      refine ⟨i + 1, by omega, .inr ⟨by rw [selP_yes h1 hp]; simp, ?_⟩⟩
      have hs2 : selP (selV 1) Blk.y1 l i = [] := by rw [selP_nil] at hs ⊢; exact hs
      rw [inc_nat (by omega), selP_yes h1 hp, selP_yes h1 hp, hs, hs2]
      rfl
  · conv => whnf
    refine ifB_of (fun h1 => ?_) (fun h1 => ?_)
    rotate_left
    · have h1 : ¬i < l.length := by have := of_decide_eq_false h1; omega
      obtain rfl : i = l.length := by omega
      have hs2 : selP (selV 1) Blk.y1 l l.length ≠ [] := by rw [Ne, selP_nil] at hs ⊢; exact hs
      have k1 := mid_spec (selP (selV 1) Blk.x1 l l.length) (len_pos hs) (hsl _) (hsx _)
      have k2 := mid_spec (selP (selV 1) Blk.y1 l l.length) (len_pos hs2) (hsk _) (hsy _)
      conv => whnf
      refine CallsF.call [1] [] k1 rfl rfl rfl rfl rfl (.inl rfl) ?_
      conv => whnf
      refine CallsF.call [2] [] k2 rfl rfl rfl rfl rfl (.inl rfl) ?_
      conv => whnf
      exact ⟨[], [], rfl, by rw [vecV, ← selP_all, ← selP_all]; rfl, rfl⟩
    · have h1 : i < l.length := by have := of_decide_eq_true h1; omega
      conv => whnf
      have hrow : nth rows (i : Int).toNat = some l[i].row := by
        rw [Int.toNat_natCast, nth_get, ← hr, List.getElem?_map, List.getElem?_eq_getElem h1]; rfl
      have hm := (Blk.ok_in (ho _ (List.getElem_mem h1))).1
      rw [aop_idxS_ro hrow rfl rfl]
      conv => whnf
      refine CallsF.call [] [] (uses_spec l[i] 1 (by omega) hm) rfl rfl rfl rfl rfl (.inl rfl) ?_
      conv => whnf
      cases hu : usesB 1 l[i]
      · have hp : selV 1 l[i] = false := by simp [selV, hu]
        conv => whnf
        refine ⟨(l.length - (i + 1)), [1, 8, 9, 10, 23, 24, 25], [0, 1, 2], [], by omega, rfl, ?_⟩
        conv => whnf
        refine ⟨i + 1, by omega, .inr ⟨by rw [selP_no h1 hp]; exact hs, ?_⟩⟩
        rw [inc_nat (by omega), selP_no h1 hp, selP_no h1 hp]
      conv => whnf
      cases hg : l[i].g
      rotate_left
      · have hp : selV 1 l[i] = false := by simp [selV, hg]
        conv => whnf
        refine ⟨(l.length - (i + 1)), [1, 8, 9, 10, 23, 24, 25], [0, 1, 2], [], by omega, rfl, ?_⟩
        conv => whnf
        refine ⟨i + 1, by omega, .inr ⟨by rw [selP_no h1 hp]; exact hs, ?_⟩⟩
        rw [inc_nat (by omega), selP_no h1 hp, selP_no h1 hp]
      have hp : selV 1 l[i] = true := by simp [selV, hu, hg]
      conv => whnf
      have hsi := hsl i
      have hsj := hsk i
      refine need_of ((decide_eq_true ⟨by omega, by simp; omega⟩)) ?_
      conv => whnf
      refine ⟨by repeat (first | exact same_nil | refine same_of rfl ?_), ?_⟩
      conv => whnf
      refine need_of ((decide_eq_true ⟨by omega, by simp; omega⟩)) ?_
      conv => whnf
      refine ⟨(l.length - (i + 1)), [1, 8, 9, 10, 23, 24, 25], [0, 4, 5], [], by omega, rfl, ?_⟩
      conv => whnf
      refine ⟨i + 1, by omega, .inr ⟨by rw [selP_yes h1 hp]; simp, ?_⟩⟩
      rw [inc_nat (by omega), selP_yes h1 hp, selP_yes h1 hp, List.length_append, List.length_append]
      rfl

def vecN (r : Int) (l : List Blk) : AV := if r = 0 then vecV (selV 0) Blk.x0 Blk.y0 l else if r = 1 then vecV (selV 1) Blk.x1 Blk.y1 l else .agg [iv 0, iv 0]

theorem vec_spec (f : Fld) (r x y : Int) : CallsF Try.prog 13 [f.av, iv r, iv x, iv y] [] (vecN r (nearL f x y)) [] := by
  by_cases h0 : r = 0
  · subst h0; exact gvec0_spec f x y
  by_cases h1 : r = 1
  · subst h1; exact gvec1_spec f x y
  rw [vecN, if_neg h0, if_neg h1]
  refine e13 ?_
  conv => whnf
  refine ifB_of (fun h3 => ?_) (fun h3 => ?_)
  · conv => whnf
    exact ⟨[], [], rfl, rfl, rfl⟩
  have h3 := of_decide_eq_false h3
  conv => whnf
  rw [decide_eq_true (show r > 1 by omega)]
  conv => whnf
  exact ⟨[], [], rfl, rfl, rfl⟩
end Go.Proofs.TryN

