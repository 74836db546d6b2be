/- Layer 17: votes, by the document. -/
import Derived.Test.YticofpkggbdnpaaN17F
namespace Go.Proofs.TryN
open Go Go.AL Go.Proofs

def voteN (n o : Int) : Int := if (o = 1 ∧ n = 1) ∨ (2 ≤ o ∧ 2 ≤ n) then 1 else 0

theorem vote_spec (n o : Int) : CallsF Try.prog 28 [iv n, iv o] [] (iv (voteN n o)) [] := by
  refine e28 ?_
  conv => whnf
  by_cases h1 : o = 1
  · rw [show (o == 1) = true by simpa using h1]
    conv => whnf
    by_cases h2 : n = 1
    · rw [show (n == 1) = true by simpa using h2]
      exact ⟨[], [], rfl, congrArg iv (by rw [voteN, if_pos (.inl ⟨h1, h2⟩)]), rfl⟩
    rw [show (n == 1) = false by simpa using h2]
    conv => whnf
    rw [decide_eq_false (show ¬ o ≥ 2 by omega)]
    exact ⟨[], [], rfl, congrArg iv (by rw [voteN, if_neg (by omega)]), rfl⟩
  rw [show (o == 1) = false by simpa using h1]
  conv => whnf
  by_cases h3 : 2 ≤ o
  · rw [decide_eq_true (show o ≥ 2 by omega)]
    conv => whnf
    by_cases h4 : 2 ≤ n
    · rw [decide_eq_true (show n ≥ 2 by omega)]
      exact ⟨[], [], rfl, congrArg iv (by rw [voteN, if_pos (.inr ⟨h3, h4⟩)]), rfl⟩
    rw [decide_eq_false (show ¬ n ≥ 2 by omega)]
    exact ⟨[], [], rfl, congrArg iv (by rw [voteN, if_neg (by omega)]), rfl⟩
  rw [decide_eq_false (show ¬ o ≥ 2 by omega)]
  exact ⟨[], [], rfl, congrArg iv (by rw [voteN, if_neg (by omega)]), rfl⟩

theorem cntN_succ {p : Blk → Bool} {l : List Blk} {i : Nat} (h : i < l.length) : cntN p l (i + 1) = cntN p l i + (if p l[i] = true then 1 else 0) := by
  cases hp : p l[i]
  · rw [cntN_no h hp]; simp
  · rw [cntN_yes h hp]; simp

theorem vote_most {p : Blk → Bool} {l : List Blk} (hl : l.length ≤ 3) : voteN (cntN p l l.length : Nat) (l.length : Nat) = if mostB p l = true then 1 else 0 := by
  have h1 := List.length_filter_le p l
  unfold voteN mostB cntN
  rw [List.take_length]
  simp only [decide_eq_true_eq]
  split <;> split <;> omega

theorem uses_rem {b : Blk} (hm : 0 ≤ b.m ∧ b.m ≤ 3) : b.m.tmod 2 = (if usesB 0 b = true then 1 else 0) := by
  unfold usesB
  rw [Int.tmod_eq_emod_of_nonneg hm.1]
  simp only [Bool.or_eq_true, beq_iff_eq]
  split <;> omega

theorem uses_quo {b : Blk} (hm : 0 ≤ b.m ∧ b.m ≤ 3) : IntKind.wrap .i64 (b.m.tdiv 2) = (if usesB 1 b = true then 1 else 0) := by
  unfold usesB
  rw [Int.tdiv_eq_ediv_of_nonneg hm.1, wrap_id (by omega) (by omega)]
  simp only [Bool.or_eq_true, beq_iff_eq]
  split <;> omega

set_option maxRecDepth 10000 in
theorem rmode_spec (f : Fld) (x y : Int) : CallsF Try.prog 10 [f.av, iv x, iv y] [] (iv (modeN (nearL f x y))) [] := by
  have hl := near_len f x y
  have ho : ∀ b ∈ nearL f x y, b.ok = true := fun b hb => near_ok hb
  refine e10 ?_
  conv => whnf
  refine CallsF.call [] [] (near_spec f x y) rfl rfl rfl rfl rfl (.inl rfl) ?_
  conv => whnf
  generalize nearL f x y = l at *
  obtain ⟨rows, hr⟩ : ∃ rows, l.map Blk.row = rows := ⟨_, rfl⟩
  have hlen : rows.length = l.length := by rw [← hr, List.length_map]
  rw [hr]
  refine LoopA.inv (fun n st => ∃ i : Nat, n + i = l.length ∧ st = ⟨[(7, .ro 9 rows), (8, iv (cntN (usesB 0) l i : Nat)), (9, iv (cntN (usesB 1) l i : Nat)), (16, .ro 9 rows), (17, iv (rows.length : Nat)), (18, iv i)], [], 0, 0⟩) l.length [7, 8, 9, 16, 17, 18] [] [] (by rfl) ?_ ?_
  · conv => whnf
    exact ⟨0, rfl, rfl⟩
  rintro n st ⟨i, hn, rfl⟩
  conv => whnf
  refine ifB_of (fun h1 => ?_) (fun h1 => ?_)
  · have h1 : i < l.length := by have := of_decide_eq_true h1; omega
    conv => whnf
    have hrow : nth rows (i : Int).toNat = some l[i].row := by
      rw [Int.toNat_natCast, nth_get, ← hr, List.getElem?_map, List.getElem?_eq_getElem h1]; rfl
    have hm := (Blk.ok_in (ho _ (List.getElem_mem h1))).1
    have c0 := cntN_le (usesB 0) l i
    have c1 := cntN_le (usesB 1) l i
    have e0 : IntKind.wrap .i64 ((cntN (usesB 0) l i : Nat) + l[i].m.tmod 2) = (cntN (usesB 0) l (i + 1) : Nat) := by
      rw [uses_rem hm, cntN_succ h1]; split <;> rw [wrap_id (by omega) (by omega)] <;> push_cast <;> rfl
    have e1 : IntKind.wrap .i64 ((cntN (usesB 1) l i : Nat) + IntKind.wrap .i64 (l[i].m.tdiv 2)) = (cntN (usesB 1) l (i + 1) : Nat) := by
      rw [uses_quo hm, cntN_succ h1]; split <;> rw [wrap_id (by omega) (by omega)] <;> push_cast <;> rfl
    rw [aop_idxS_ro hrow rfl rfl]
    conv => whnf
    refine ⟨(l.length - (i + 1)), [7, 8, 9, 16, 17, 18], [], [], by omega, rfl, ?_⟩
    conv => whnf
    refine ⟨i + 1, by omega, ?_⟩
    rw [inc_nat (by omega), e0, e1]
  have h1 : ¬i < l.length := by have := of_decide_eq_false h1; omega
  obtain rfl : i = l.length := by omega
  conv => whnf
  rw [hlen]
  refine CallsF.call [] [] (vote_spec (cntN (usesB 0) l l.length : Nat) (l.length : Nat)) rfl rfl rfl rfl rfl (.inl rfl) ?_
  conv => whnf
  rw [hlen]
  refine CallsF.call [] [] (vote_spec (cntN (usesB 1) l l.length : Nat) (l.length : Nat)) rfl rfl rfl rfl rfl (.inl rfl) ?_
  conv => whnf
  refine ⟨[], [], rfl, congrArg iv ?_, rfl⟩
  rw [vote_most hl, vote_most hl, modeN]
  cases mostB (usesB 0) l <;> cases mostB (usesB 1) l <;> rfl

set_option maxRecDepth 10000 in
theorem rglobal_spec (f : Fld) (x y : Int) : CallsF Try.prog 12 [f.av, iv x, iv y] [] (.bool (mostB Blk.g (nearL f x y))) [] := by
  have hl := near_len f x y
  refine e12 ?_
  conv => whnf
  refine CallsF.call [] [] (near_spec f x y) rfl rfl rfl rfl rfl (.inl rfl) ?_
  conv => whnf
  generalize nearL f x y = l at *
  obtain ⟨rows, hr⟩ : ∃ rows, l.map Blk.row = rows := ⟨_, rfl⟩
  have hlen : rows.length = l.length := by rw [← hr, List.length_map]
  rw [hr]
  refine LoopA.inv (fun n st => ∃ i : Nat, n + i = l.length ∧ st = ⟨[(7, iv (cntN Blk.g l i : Nat)), (8, .ro 9 rows), (15, .ro 9 rows), (16, iv (rows.length : Nat)), (17, iv i)], [], 0, 0⟩) l.length [7, 8, 15, 16, 17] [] [] (by rfl) ?_ ?_
  · conv => whnf
    exact ⟨0, rfl, rfl⟩
  rintro n st ⟨i, hn, rfl⟩
  conv => whnf
  refine ifB_of (fun h1 => ?_) (fun h1 => ?_)
  · have h1 : i < l.length := by have := of_decide_eq_true h1; omega
    conv => whnf
    have hrow : nth rows (i : Int).toNat = some l[i].row := by
      rw [Int.toNat_natCast, nth_get, ← hr, List.getElem?_map, List.getElem?_eq_getElem h1]; rfl
    have c0 := cntN_le Blk.g l i
    rw [aop_idxS_ro hrow rfl rfl]
    conv => whnf
    cases hg : l[i].g
    · conv => whnf
      refine ⟨(l.length - (i + 1)), [7, 8, 15, 16, 17], [], [], by omega, rfl, ?_⟩
      conv => whnf
      refine ⟨i + 1, by omega, ?_⟩
      rw [inc_nat (by omega), cntN_no h1 hg]
    · conv => whnf
      refine ⟨(l.length - (i + 1)), [7, 8, 15, 16, 17], [], [], by omega, rfl, ?_⟩
      conv => whnf
      refine ⟨i + 1, by omega, ?_⟩
      rw [inc_nat (by omega), inc_nat (by omega), cntN_yes h1 hg]
  have h1 : ¬i < l.length := by have := of_decide_eq_false h1; omega
  obtain rfl : i = l.length := by omega
  conv => whnf
  rw [hlen]
  refine CallsF.call [] [] (vote_spec (cntN Blk.g l l.length : Nat) (l.length : Nat)) rfl rfl rfl rfl rfl (.inl rfl) ?_
  conv => whnf
  refine ⟨[], [], rfl, congrArg AV.bool ?_, rfl⟩
  rw [vote_most hl]
  cases mostB Blk.g l <;> rfl
end Go.Proofs.TryN

