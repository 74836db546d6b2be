/- Layer 17: what most blocks are. -/
import Derived.Test.YticofpkggbdnpaaN17E
namespace Go.Proofs.TryN
open Go Go.AL Go.Proofs

def usesB (r : Int) (b : Blk) : Bool := b.m == 3 || b.m == r + 1
def cntN (p : Blk → Bool) (l : List Blk) (i : Nat) : Nat := ((l.take i).filter p).length
def mostB (p : Blk → Bool) (l : List Blk) : Bool := decide (l.length / 2 < (l.filter p).length)

theorem cntN_le (p : Blk → Bool) (l : List Blk) (i : Nat) : cntN p l i ≤ i := by
  have h1 := List.length_filter_le p (l.take i)
  have h2 := List.length_take_le i l
  unfold cntN; omega

theorem cntN_yes {p : Blk → Bool} {l : List Blk} {i : Nat} (h : i < l.length) (hp : p l[i] = true) : cntN p l (i + 1) = cntN p l i + 1 := by
  unfold cntN; rw [List.take_succ_eq_append_getElem h, List.filter_append]; simp [hp]

theorem cntN_no {p : Blk → Bool} {l : List Blk} {i : Nat} (h : i < l.length) (hp : p l[i] = false) : cntN p l (i + 1) = cntN p l i := by
  unfold cntN; rw [List.take_succ_eq_append_getElem h, List.filter_append]; simp [hp]

theorem half_nat (n : Nat) (h : n ≤ 2 ^ 60) : IntKind.wrap .i64 ((n : Int).tdiv 2) = ((n / 2 : Nat) : Int) := by
  rw [Int.tdiv_eq_ediv_of_nonneg (by omega), wrap_id (by omega) (by omega)]; omega

theorem Blk.ok_in {b : Blk} (h : b.ok = true) : (0 ≤ b.m ∧ b.m ≤ 3) ∧ (smallB b.x0 = true ∧ smallB b.y0 = true ∧ smallB b.x1 = true ∧ smallB b.y1 = true) ∧ smallB b.d0 = true ∧ smallB b.d1 = true ∧ smallB b.d2 = true := by
  simp only [Blk.ok, Bool.and_eq_true, decide_eq_true_eq] at h
  obtain ⟨⟨h1, ⟨h2, h3⟩, h4, h5⟩, ⟨h6, h7⟩, h8⟩ := h
  exact ⟨h1, ⟨h2, h3, h4, h5⟩, h6, h7, h8⟩

def andX (m r : Int) : Bool := IntKind.wrap .i64 ((BitVec.ofInt IntKind.i64.bits (m.fdiv (2 ^ min r.toNat IntKind.i64.bits)) &&& BitVec.ofInt IntKind.i64.bits 1).toNat : Nat) == 1
theorem andX_all : ((List.range 4).all fun m => (List.range 2).all fun r => andX (m : Nat) (r : Nat) == (((m : Nat) : Int) == 3 || ((m : Nat) : Int) == ((r : Nat) : Int) + 1)) = true := by kernel_rfl

theorem uses_spec (b : Blk) (r : Int) (hr : r = 0 ∨ r = 1) (hm : 0 ≤ b.m ∧ b.m ≤ 3) : CallsF Try.prog 27 [b.av, iv r] [] (.bool (usesB r b)) [] := by
  have hv : andX b.m r = usesB r b := by
    have h := andX_all
    simp only [List.all_eq_true, List.mem_range, beq_iff_eq] at h
    have h1 := h b.m.toNat (by omega) r.toNat (by omega)
    rw [show ((b.m.toNat : Nat) : Int) = b.m by omega, show ((r.toNat : Nat) : Int) = r by omega] at h1
    exact h1
  refine e27 ?_
  conv => whnf
  refine need_of ((decide_eq_true (show 0 ≤ r by omega))) ?_
  conv => whnf
  exact ⟨[], [], rfl, congrArg AV.bool hv, rfl⟩

theorem mode1_spec (b : Blk) (r : Int) (hr : r = 0 ∨ r = 1) (hm : 0 ≤ b.m ∧ b.m ≤ 3) : CallsF Try.prog 26 [b.av, .rp [iv r] 0] [] (.bool (usesB r b)) [] := by
  refine e26 ?_
  conv => whnf
  refine CallsF.call [] [] (uses_spec b r hr hm) rfl rfl rfl rfl rfl (.inl rfl) ?_
  conv => whnf
  exact ⟨[], [], rfl, rfl, rfl⟩

theorem global1_spec (b : Blk) : CallsF Try.prog 29 [b.av] [] (.bool b.g) [] := by
  refine e29 ?_
  conv => whnf
  exact ⟨[], [], rfl, rfl, rfl⟩

set_option maxRecDepth 10000 in
theorem most_mode_spec (l : List Blk) (r : Int) (hr' : r = 0 ∨ r = 1) (hl : l.length ≤ 2 ^ 40) (ho : ∀ b ∈ l, b.ok = true) : CallsF Try.prog 25 [.ro 9 (l.map Blk.row), .fn 26 [.rp [iv r] 0]] [] (.bool (mostB (usesB r) l)) [] := by
  refine e25 ?_
  conv => whnf
  obtain ⟨rows, hr⟩ : ∃ rows, l.map Blk.row = rows := ⟨_, rfl⟩
  have hlen : rows.length = l.length := by rw [← hr, List.length_map]
  rw [hr]
  refine LoopA.inv (fun n st => ∃ i : Nat, n + i = l.length ∧ st = ⟨[(0, .ro 9 rows), (1, .fn 26 [.rp [iv r] 0]), (5, iv (cntN (usesB r) l i : Nat)), (8, .ro 9 rows), (9, iv (rows.length : Nat)), (10, iv i)], [], 0, 0⟩) l.length [0, 1, 5, 8, 9, 10] [] [] (by rfl) ?_ ?_
  · conv => whnf
    exact ⟨0, rfl, rfl⟩
  rintro n st ⟨i, hn, rfl⟩
  conv => whnf
  refine ifB_of (fun h1 => ?_) (fun h1 => ?_)
  · have h1 : i < l.length := by have := of_decide_eq_true h1; omega
    conv => whnf
    have hrow : nth rows (i : Int).toNat = some l[i].row := by
      rw [Int.toNat_natCast, nth_get, ← hr, List.getElem?_map, List.getElem?_eq_getElem h1]; rfl
    have hc := cntN_le (usesB r) l i
    rw [aop_idxS_ro hrow rfl rfl]
    conv => whnf
    refine CallsF.call [] [] (mode1_spec l[i] r hr' (Blk.ok_in (ho _ (List.getElem_mem h1))).1) rfl rfl rfl rfl rfl (.inl rfl) ?_
    conv => whnf
    cases hp : ((usesB r)) l[i]
    · conv => whnf
      refine ⟨(l.length - (i + 1)), [0, 1, 5, 8, 9, 10], [], [], by omega, rfl, ?_⟩
      conv => whnf
      refine ⟨i + 1, by omega, ?_⟩
      rw [inc_nat (by omega), cntN_no h1 hp]
    · conv => whnf
      refine ⟨(l.length - (i + 1)), [0, 1, 5, 8, 9, 10], [], [], by omega, rfl, ?_⟩
      conv => whnf
      refine ⟨i + 1, by omega, ?_⟩
      rw [inc_nat (by omega), inc_nat (by omega), cntN_yes h1 hp]
  · have h1 : ¬i < l.length := by have := of_decide_eq_false h1; omega
    obtain rfl : i = l.length := by omega
    conv => whnf
    refine ⟨[], [], rfl, congrArg AV.bool ?_, rfl⟩
    rw [half_nat _ (by omega), hlen, mostB, cntN, List.take_length]
    exact decide_eq_decide.2 (by omega)

set_option maxRecDepth 10000 in
theorem most_global_spec (l : List Blk)  (hl : l.length ≤ 2 ^ 40) : CallsF Try.prog 25 [.ro 9 (l.map Blk.row), .fn 29 []] [] (.bool (mostB Blk.g l)) [] := by
  refine e25 ?_
  conv => whnf
  obtain ⟨rows, hr⟩ : ∃ rows, l.map Blk.row = rows := ⟨_, rfl⟩
  have hlen : rows.length = l.length := by rw [← hr, List.length_map]
  rw [hr]
  refine LoopA.inv (fun n st => ∃ i : Nat, n + i = l.length ∧ st = ⟨[(0, .ro 9 rows), (1, .fn 29 []), (5, iv (cntN Blk.g l i : Nat)), (8, .ro 9 rows), (9, iv (rows.length : Nat)), (10, iv i)], [], 0, 0⟩) l.length [0, 1, 5, 8, 9, 10] [] [] (by rfl) ?_ ?_
  · conv => whnf
    exact ⟨0, rfl, rfl⟩
  rintro n st ⟨i, hn, rfl⟩
  conv => whnf
  refine ifB_of (fun h1 => ?_) (fun h1 => ?_)
  · have h1 : i < l.length := by have := of_decide_eq_true h1; omega
    conv => whnf
    have hrow : nth rows (i : Int).toNat = some l[i].row := by
      rw [Int.toNat_natCast, nth_get, ← hr, List.getElem?_map, List.getElem?_eq_getElem h1]; rfl
    have hc := cntN_le Blk.g l i
    rw [aop_idxS_ro hrow rfl rfl]
    conv => whnf
    refine CallsF.call [] [] (global1_spec l[i]) rfl rfl rfl rfl rfl (.inl rfl) ?_
    conv => whnf
    cases hp : (Blk.g) l[i]
    · conv => whnf
      refine ⟨(l.length - (i + 1)), [0, 1, 5, 8, 9, 10], [], [], by omega, rfl, ?_⟩
      conv => whnf
      refine ⟨i + 1, by omega, ?_⟩
      rw [inc_nat (by omega), cntN_no h1 hp]
    · conv => whnf
      refine ⟨(l.length - (i + 1)), [0, 1, 5, 8, 9, 10], [], [], by omega, rfl, ?_⟩
      conv => whnf
      refine ⟨i + 1, by omega, ?_⟩
      rw [inc_nat (by omega), inc_nat (by omega), cntN_yes h1 hp]
  · have h1 : ¬i < l.length := by have := of_decide_eq_false h1; omega
    obtain rfl : i = l.length := by omega
    conv => whnf
    refine ⟨[], [], rfl, congrArg AV.bool ?_, rfl⟩
    rw [half_nat _ (by omega), hlen, mostB, cntN, List.take_length]
    exact decide_eq_decide.2 (by omega)

theorem besL_len (x y : Int) : (besL x y).length ≤ 3 := by
  unfold besL
  split <;> split <;> split <;> simp
theorem near_len (f : Fld) (x y : Int) : (nearL f x y).length ≤ 3 := by
  unfold nearL
  split
  · rw [List.length_map]; exact besL_len x y
  · simp
theorem besL_in {x y : Int} (hx : 0 ≤ x) (hy : 0 ≤ y) {p : Int × Int} (h : p ∈ besL x y) : (0 ≤ p.1 ∧ p.1 ≤ x) ∧ (0 ≤ p.2 ∧ p.2 ≤ y) := by
  simp only [besL, List.mem_append] at h
  rcases h with h | h | h <;> split at h <;> simp at h <;> subst h <;> simp only <;> omega

theorem near_ok {f : Fld} {x y : Int} {b : Blk} (h : b ∈ nearL f x y) : b.ok = true := by
  unfold nearL at h
  split at h
  · rename_i hh
    rw [List.mem_map] at h
    obtain ⟨p, hp, rfl⟩ := h
    obtain ⟨h1, k1, k2, k3, k4, k5, k6, _⟩ := here_in hh
    obtain ⟨p1, p2⟩ := besL_in (by omega) (by omega) hp
    obtain ⟨P, _, hP, hb⟩ := idx_at (here_near hh p1 p2)
    rw [hb]
    exact (Fld.ok_in h1).2.2.2.2.2 _ (List.getElem_mem hP)
  · simp at h

def modeN (l : List Blk) : Int := (if mostB (usesB 0) l = true then 1 else 0) + (if mostB (usesB 1) l = true then 2 else 0)

set_option maxRecDepth 10000 in
theorem mode_spec (f : Fld) (x y : Int) : CallsF Try.prog 9 [f.av, iv x, iv y] [] (iv (modeN (nearL f x y))) [] := by
  refine e9 ?_
  conv => whnf
  refine CallsF.call [] [] (blocks_spec f x y) rfl rfl rfl rfl rfl (.inl rfl) ?_
  conv => whnf
  have hl := near_len f x y
  have ho : ∀ b ∈ nearL f x y, b.ok = true := fun b hb => near_ok hb
  have k0 := most_mode_spec (nearL f x y) 0 (.inl rfl) (by omega) ho
  have k1 := most_mode_spec (nearL f x y) 1 (.inr rfl) (by omega) ho
  unfold modeN
  generalize nearL f x y = l at *
  obtain ⟨rows, hr⟩ : ∃ rows, l.map Blk.row = rows := ⟨_, rfl⟩
  rw [hr] at k0 k1
  rw [hr]
  refine LoopA.steps 3 [7, 8, 14] [] [] (by rfl) ?_
  conv => whnf
  refine CallsF.call [] [0] k0 rfl rfl rfl rfl rfl (.inr rfl) ?_
  conv => whnf
  cases h0 : mostB (usesB 0) l
  · conv => whnf
    refine pt_of [7, 8, 14] [] [] (by rfl) ?_
    conv => whnf
    refine CallsF.call [] [0] k1 rfl rfl rfl rfl rfl (.inr rfl) ?_
    conv => whnf
    cases h1 : mostB (usesB 1) l
    · conv => whnf
      refine pt_of [7, 8, 14] [] [] (by rfl) ?_
      conv => whnf
      exact ⟨[], [], rfl, rfl, rfl⟩
    · conv => whnf
      refine pt_of [7, 8, 14] [] [] (by rfl) ?_
      conv => whnf
      exact ⟨[], [], rfl, rfl, rfl⟩
  · conv => whnf
    refine pt_of [7, 8, 14] [] [] (by rfl) ?_
    conv => whnf
    refine CallsF.call [] [0] k1 rfl rfl rfl rfl rfl (.inr rfl) ?_
    conv => whnf
    cases h1 : mostB (usesB 1) l
    · conv => whnf
      refine pt_of [7, 8, 14] [] [] (by rfl) ?_
      conv => whnf
      exact ⟨[], [], rfl, rfl, rfl⟩
    · conv => whnf
      refine pt_of [7, 8, 14] [] [] (by rfl) ?_
      conv => whnf
      exact ⟨[], [], rfl, rfl, rfl⟩

theorem global_spec (f : Fld) (x y : Int) : CallsF Try.prog 11 [f.av, iv x, iv y] [] (.bool (mostB Blk.g (nearL f x y))) [] := by
  have hl := near_len f x y
  refine e11 ?_
  conv => whnf
  refine CallsF.call [] [] (blocks_spec f x y) rfl rfl rfl rfl rfl (.inl rfl) ?_
  conv => whnf
  refine CallsF.call [] [] (most_global_spec (nearL f x y) (by omega)) rfl rfl rfl rfl rfl (.inl rfl) ?_
  conv => whnf
  exact ⟨[], [], rfl, rfl, rfl⟩
end Go.Proofs.TryN

