/- Layers 16 and 17: fields, on both sides. -/
import Derived.Test.YticofpkggbdnpaaAL31
import Derived.Test.YticofpkggbdnpaaF17
namespace Go.Proofs.TryN
open Go Go.AL Go.Proofs

/-- A block. -/
structure Blk where
  (m : Int) (g : Bool) (x0 y0 x1 y1 d0 d1 d2 : Int)

def Blk.row (b : Blk) : List AV := [iv b.m, .bool b.g, iv b.x0, iv b.y0, iv b.x1, iv b.y1, iv b.d0, iv b.d1, iv b.d2]
def Blk.av (b : Blk) : AV := .agg b.row
def Blk.zero : Blk := ⟨0, false, 0, 0, 0, 0, 0, 0, 0⟩
def smallB (n : Int) : Bool := decide (-16777216 ≤ n) && decide (n ≤ 16777216)
def Blk.ok (b : Blk) : Bool := (decide (0 ≤ b.m) && decide (b.m ≤ 3)) && ((smallB b.x0 && smallB b.y0) && (smallB b.x1 && smallB b.y1)) && (smallB b.d0 && smallB b.d1 && smallB b.d2)

/-- A field. -/
structure Fld where
  (a d : Int) (sp : List Int) (bs : List Blk)
def Fld.av (f : Fld) : AV := .agg [iv f.a, iv f.d, .ri .i64 f.sp, .ro 9 (f.bs.map Blk.row)]
def cntB (n : Int) : Bool := decide (1 ≤ n) && decide (n ≤ 64)
def spB (s : Int) : Bool := decide (0 ≤ s) && decide (s ≤ 2)
def Fld.ok (f : Fld) : Bool := (((cntB f.a && cntB f.d) && ((f.sp.length : Int) == f.a * f.d)) && ((f.bs.length : Int) == f.sp.length * 16)) && f.sp.all spB && f.bs.all Blk.ok

theorem count_spec (n : Int) : CallsF Try.prog 34 [iv n] [] (.bool (cntB n)) [] := by
  refine e34 ?_
  conv => whnf
  iterate 1 (all_goals (try (refine ifB_of (fun _ => ?_) (fun _ => ?_))); all_goals (conv => whnf))
  all_goals (refine ⟨[], [], rfl, congrArg AV.bool ?_, rfl⟩; simp_all [cntB] <;> omega)

theorem small_spec (n : Int) : CallsF Try.prog 43 [iv n] [] (.bool (smallB n)) [] := by
  refine e43 ?_
  conv => whnf
  iterate 1 (all_goals (try (refine ifB_of (fun _ => ?_) (fun _ => ?_))); all_goals (conv => whnf))
  all_goals (refine ⟨[], [], rfl, congrArg AV.bool ?_, rfl⟩; simp_all [smallB] <;> omega)

theorem near16_spec (n : Int) : CallsF Try.prog 32 [iv n] [] (.bool (smallB n)) [] := by
  refine e32 ?_
  conv => whnf
  iterate 1 (all_goals (try (refine ifB_of (fun _ => ?_) (fun _ => ?_))); all_goals (conv => whnf))
  all_goals (refine ⟨[], [], rfl, congrArg AV.bool ?_, rfl⟩; simp_all [smallB] <;> omega)

theorem rblock_spec (b : Blk) : CallsF Try.prog 37 [b.av] [] (.bool b.ok) [] := by
  have no : b.ok = false → AV.bool false = .bool b.ok := fun h => by rw [h]
  refine e37 ?_
  conv => whnf
  refine ifB_of (fun h1 => ?_) (fun h1 => ?_)
  · conv => whnf
    exact ⟨[], [], rfl, no (by simp at h1; simp [Blk.ok]; omega), rfl⟩
  conv => whnf
  refine ifB_of (fun h2 => ?_) (fun h2 => ?_)
  · conv => whnf
    exact ⟨[], [], rfl, no (by simp at h1 h2; simp [Blk.ok]; omega), rfl⟩
  have h12 : 0 ≤ b.m ∧ b.m ≤ 3 := by simp at h1 h2; omega
  conv => whnf
  refine LoopA.unroll 3 [1, 14, 15] [0] [] [0] [] (by rfl) ?_
  conv => whnf
  refine CallsF.call [] [] (small_spec b.x0) rfl rfl rfl rfl rfl (.inl rfl) ?_
  conv => whnf
  cases h3 : smallB b.x0
  · conv => whnf
    exact ⟨[], [], rfl, no (by simp [Blk.ok, h3]), rfl⟩
  conv => whnf
  refine CallsF.call [] [] (small_spec b.y0) rfl rfl rfl rfl rfl (.inl rfl) ?_
  conv => whnf
  cases h4 : smallB b.y0
  · conv => whnf
    exact ⟨[], [], rfl, no (by simp [Blk.ok, h4]), rfl⟩
  conv => whnf
  refine ⟨rfl, ?_⟩
  conv => whnf
  refine CallsF.call [] [] (small_spec b.x1) rfl rfl rfl rfl rfl (.inl rfl) ?_
  conv => whnf
  cases h5 : smallB b.x1
  · conv => whnf
    exact ⟨[], [], rfl, no (by simp [Blk.ok, h5]), rfl⟩
  conv => whnf
  refine CallsF.call [] [] (small_spec b.y1) rfl rfl rfl rfl rfl (.inl rfl) ?_
  conv => whnf
  cases h6 : smallB b.y1
  · conv => whnf
    exact ⟨[], [], rfl, no (by simp [Blk.ok, h6]), rfl⟩
  conv => whnf
  refine ⟨rfl, ?_⟩
  conv => whnf
  refine CallsF.call [] [] (small_spec b.d0) rfl rfl rfl rfl rfl (.inl rfl) ?_
  conv => whnf
  cases h7 : smallB b.d0
  · conv => whnf
    exact ⟨[], [], rfl, no (by simp [Blk.ok, h7]), rfl⟩
  conv => whnf
  refine CallsF.call [] [] (small_spec b.d1) rfl rfl rfl rfl rfl (.inl rfl) ?_
  conv => whnf
  cases h8 : smallB b.d1
  · conv => whnf
    exact ⟨[], [], rfl, no (by simp [Blk.ok, h8]), rfl⟩
  conv => whnf
  refine CallsF.call [] [] (small_spec b.d2) rfl rfl rfl rfl rfl (.inl rfl) ?_
  conv => whnf
  exact ⟨[], [], rfl, congrArg AV.bool (by simp [Blk.ok, h12, h3, h4, h5, h6, h7, h8]), rfl⟩

theorem rfn_spec (b : Blk) : CallsF Try.prog 36 [b.av] [] (.bool (!b.ok)) [] := by
  refine e36 ?_
  conv => whnf
  refine CallsF.call [] [] (rblock_spec b) rfl rfl rfl rfl rfl (.inl rfl) ?_
  conv => whnf
  exact ⟨[], [], rfl, rfl, rfl⟩

/-- Where the first bad one is. -/
def idxBad : Nat → List Blk → Int
  | _, [] => -1
  | k, b :: r => if b.ok then idxBad (k + 1) r else k

theorem idxBad_all : ∀ (l : List Blk) (k : Nat), decide (0 ≤ idxBad k l) = !(l.all Blk.ok)
  | [], k => by simp [idxBad]
  | b :: r, k => by
    unfold idxBad
    cases h : b.ok
    · simp [h]
    · simp [h, idxBad_all r (k + 1)]

theorem drop_cons {α : Type} {l : List α} {i : Nat} (h : i < l.length) : l.drop i = l[i] :: l.drop (i + 1) := List.drop_eq_getElem_cons h

theorem inc_nat {n : Nat} (h : n ≤ 2 ^ 60) : IntKind.wrap .i64 ((n : Int) + 1) = ((n + 1 : Nat) : Int) := by rw [wrap_id (by omega) (by omega)]; rfl

set_option maxRecDepth 10000 in
theorem index_spec (bs : List Blk) (hl : bs.length ≤ 2 ^ 40) : CallsF Try.prog 42 [.ro 9 (bs.map Blk.row), .fn 36 []] [] (iv (idxBad 0 bs)) [] := by
  refine e42 ?_
  conv => whnf
  obtain ⟨rows, hr⟩ : ∃ rows, bs.map Blk.row = rows := ⟨_, rfl⟩
  have hlen : rows.length = bs.length := by rw [← hr, List.length_map]
  rw [hr]
  refine LoopA.inv (fun n st => ∃ i : Nat, n + i = bs.length ∧ idxBad i (bs.drop i) = idxBad 0 bs ∧ st = ⟨[(0, .ro 9 rows), (1, .fn 36 []), (7, iv (rows.length : Nat)), (8, iv i)], [], 0, 0⟩) bs.length [0, 1, 7, 8] [] [] (by rfl) ?_ ?_
  · conv => whnf
    exact ⟨0, rfl, rfl, rfl⟩
  rintro n st ⟨i, hn, hi, rfl⟩
  conv => whnf
  refine ifB_of (fun h1 => ?_) (fun h1 => ?_)
  · have h1 : i < bs.length := by have := of_decide_eq_true h1; omega
    conv => whnf
    have hrow : nth rows (i : Int).toNat = some bs[i].row := by
      rw [Int.toNat_natCast, nth_get, ← hr, List.getElem?_map, List.getElem?_eq_getElem h1]; rfl
    rw [aop_idxS_ro hrow rfl rfl]
    conv => whnf
    refine CallsF.call [] [] (rfn_spec bs[i]) rfl rfl rfl rfl rfl (.inl rfl) ?_
    conv => whnf
    rw [drop_cons h1, idxBad] at hi
    cases hok : bs[i].ok
    · rw [hok] at hi
      conv => whnf
      exact ⟨[], [], rfl, congrArg iv (by simpa using hi), rfl⟩
    rw [hok] at hi
    conv => whnf
    refine ⟨(bs.length - (i + 1)), [0, 1, 7, 8], [], [], by omega, rfl, ?_⟩
    conv => whnf
    refine ⟨i + 1, by omega, by simpa using hi, ?_⟩
    rw [inc_nat (by omega)]
  · have h1 : ¬i < bs.length := by have := of_decide_eq_false h1; omega
    obtain rfl : i = bs.length := by omega
    conv => whnf
    exact ⟨[], [], rfl, congrArg iv (by rw [← hi, List.drop_length]; rfl), rfl⟩

theorem contains_spec (bs : List Blk) (hl : bs.length ≤ 2 ^ 40) : CallsF Try.prog 35 [.ro 9 (bs.map Blk.row), .fn 36 []] [] (.bool (!(bs.all Blk.ok))) [] := by
  refine e35 ?_
  conv => whnf
  refine CallsF.call [] [] (index_spec bs hl) rfl rfl rfl rfl rfl (.inl rfl) ?_
  conv => whnf
  exact ⟨[], [], rfl, congrArg AV.bool (idxBad_all bs 0), rfl⟩

theorem mul_in {a d : Int} (ha : cntB a = true) (hd : cntB d = true) : (1 ≤ a ∧ a ≤ 64) ∧ (1 ≤ d ∧ d ≤ 64) ∧ 1 ≤ a * d ∧ a * d ≤ 4096 := by
  simp [cntB] at ha hd
  have h1 : 1 * 1 ≤ a * d := Int.mul_le_mul (by omega) (by omega) (by omega) (by omega)
  have h2 : a * d ≤ 64 * 64 := Int.mul_le_mul (by omega) (by omega) (by omega) (by omega)
  omega

theorem Fld.ok_in {f : Fld} (h : f.ok = true) : (1 ≤ f.a ∧ f.a ≤ 64) ∧ (1 ≤ f.d ∧ f.d ≤ 64) ∧ (f.sp.length : Int) = f.a * f.d ∧ (f.bs.length : Int) = f.sp.length * 16 ∧ (∀ s ∈ f.sp, 0 ≤ s ∧ s ≤ 2) ∧ ∀ b ∈ f.bs, b.ok = true := by
  simp only [Fld.ok, Bool.and_eq_true, beq_iff_eq, List.all_eq_true, spB, cntB, decide_eq_true_eq] at h
  obtain ⟨⟨⟨⟨⟨h1, h2⟩, h3⟩, h4⟩, h5⟩, h6⟩ := h
  exact ⟨h1, h2, h3, h4, h5, h6⟩

theorem sp_no {l : List Int} {i : Nat} (h : i < l.length) (hb : spB l[i] = false) : l.all spB = false := by
  cases h2 : l.all spB
  · rfl
  · rw [List.all_eq_true] at h2
    rw [h2 _ (List.getElem_mem h)] at hb; cases hb

set_option maxRecDepth 10000 in
theorem right_spec (f : Fld) : CallsF Try.prog 20 [f.av] [] (.bool f.ok) [] := by
  have no : f.ok = false → AV.bool false = .bool f.ok := fun h => by rw [h]
  refine e20 ?_
  conv => whnf
  refine CallsF.call [] [] (count_spec f.a) rfl rfl rfl rfl rfl (.inl rfl) ?_
  conv => whnf
  cases h1 : cntB f.a
  · conv => whnf
    exact ⟨[], [], rfl, no (by simp [Fld.ok, h1]), rfl⟩
  conv => whnf
  refine CallsF.call [] [] (count_spec f.d) rfl rfl rfl rfl rfl (.inl rfl) ?_
  conv => whnf
  cases h2 : cntB f.d
  · conv => whnf
    exact ⟨[], [], rfl, no (by simp [Fld.ok, h2]), rfl⟩
  obtain ⟨a1, a2, a3, a4⟩ := mul_in h1 h2
  conv => whnf
  rw [wrap_id (n := f.a * f.d) (by omega) (by omega)]
  by_cases h3 : (f.sp.length : Int) = f.a * f.d
  rotate_left
  · rw [bne_iff_ne.2 h3]
    conv => whnf
    exact ⟨[], [], rfl, no (by simp [Fld.ok, h3]), rfl⟩
  rw [show ((f.sp.length : Int) != f.a * f.d) = false by simpa using h3]
  conv => whnf
  rw [wrap_id (n := (f.sp.length : Int) * 4) (by omega) (by omega), wrap_id (by omega) (by omega)]
  have hl : ((f.bs.map Blk.row).length : Int) = f.bs.length := by simp
  rw [hl]
  by_cases h4 : (f.bs.length : Int) = f.sp.length * 16
  rotate_left
  · rw [show ((f.bs.length : Int) != (f.sp.length : Int) * 4 * 4) = true by simp; omega]
    conv => whnf
    exact ⟨[], [], rfl, no (by simp [Fld.ok, h4]), rfl⟩
  rw [show ((f.bs.length : Int) != (f.sp.length : Int) * 4 * 4) = false by simp; omega]
  conv => whnf
  obtain ⟨rows, hr⟩ : ∃ rows, f.bs.map Blk.row = rows := ⟨_, rfl⟩
  rw [hr]
  refine LoopA.inv (fun n st => ∃ i : Nat, n + i = f.sp.length ∧ (∀ q, q < i → spB (f.sp.getD q 0) = true) ∧ st = ⟨[(1, .bp 0 0), (38, .ri .i64 f.sp), (39, iv (f.sp.length : Nat)), (40, iv i)], [some (.box [iv f.a, iv f.d, .ri .i64 f.sp, .ro 9 rows])], 1, 0⟩) f.sp.length [1, 38, 39, 40] [0] [] (by rfl) ?_ ?_
  · conv => whnf
    exact ⟨0, rfl, fun q hq => by omega, rfl⟩
  rintro n st ⟨i, hn, hi, rfl⟩
  conv => whnf
  refine ifB_of (fun h5 => ?_) (fun h5 => ?_)
  · have h5 : i < f.sp.length := by have := of_decide_eq_true h5; omega
    have hg : f.sp.getD (i : Int).toNat 0 = f.sp[i] := by rw [Int.toNat_natCast]; exact getD_at h5
    conv => whnf
    refine need_of ((decide_eq_true ⟨by omega, by omega⟩)) ?_
    conv => whnf
    rw [hg]
    refine ifB_of (fun h6 => ?_) (fun h6 => ?_)
    · have h6 := of_decide_eq_true h6
      conv => whnf
      exact ⟨[], [], rfl, no (by rw [Fld.ok, sp_no h5 (by simp [spB]; omega)]; simp), rfl⟩
    have h6 := of_decide_eq_false h6
    conv => whnf
    refine ifB_of (fun h7 => ?_) (fun h7 => ?_)
    · have h7 := of_decide_eq_true h7
      conv => whnf
      exact ⟨[], [], rfl, no (by rw [Fld.ok, sp_no h5 (by simp [spB]; omega)]; simp), rfl⟩
    have h7 := of_decide_eq_false h7
    conv => whnf
    refine ⟨(f.sp.length - (i + 1)), [1, 38, 39, 40], [0], [], by omega, rfl, ?_⟩
    conv => whnf
    refine ⟨i + 1, by omega, fun q hq => ?_, ?_⟩
    · by_cases hqi : q < i
      · exact hi q hqi
      · obtain rfl : q = i := by omega
        rw [getD_at h5]; simp [spB]; omega
    · rw [inc_nat (by omega)]
  · have h5 : ¬i < f.sp.length := by have := of_decide_eq_false h5; omega
    have hall : f.sp.all spB = true := by
      rw [List.all_eq_true]
      intro s hs
      obtain ⟨q, hq, rfl⟩ := List.getElem_of_mem hs
      have := hi q (by omega)
      rwa [getD_at hq] at this
    conv => whnf
    rw [← hr]
    refine CallsF.call [] [] (contains_spec f.bs (by omega)) rfl rfl rfl rfl rfl (.inl rfl) ?_
    conv => whnf
    refine ⟨[], [], rfl, congrArg AV.bool ?_, rfl⟩
    simp [Fld.ok, h1, h2, h3, hall]
    omega

/-- What holds behind so many rounds. -/
def okV (b : Blk) : Nat → Bool
  | 0 => decide (0 ≤ b.m) && decide (b.m ≤ 3)
  | 1 => (decide (0 ≤ b.m) && decide (b.m ≤ 3)) && (smallB b.x0 && smallB b.y0)
  | _ => (decide (0 ≤ b.m) && decide (b.m ≤ 3)) && ((smallB b.x0 && smallB b.y0) && (smallB b.x1 && smallB b.y1))

def okD (b : Blk) : Nat → Bool
  | 0 => okV b 2
  | 1 => okV b 2 && smallB b.d0
  | 2 => okV b 2 && smallB b.d0 && smallB b.d1
  | _ => okV b 2 && smallB b.d0 && smallB b.d1 && smallB b.d2

theorem okD_all (b : Blk) : okD b 3 = b.ok := by simp only [okD, okV, Blk.ok, Bool.and_assoc]

theorem okV1 (b : Blk) : okV b 1 = (okV b 0 && (smallB b.x0 && smallB b.y0)) := rfl
theorem okV2 (b : Blk) : okV b 2 = (okV b 1 && (smallB b.x1 && smallB b.y1)) := by simp only [okV, Bool.and_assoc]
theorem okD1 (b : Blk) : okD b 1 = (okD b 0 && smallB b.d0) := rfl
theorem okD2 (b : Blk) : okD b 2 = (okD b 1 && smallB b.d1) := rfl
theorem okD3 (b : Blk) : okD b 3 = (okD b 2 && smallB b.d2) := rfl

set_option maxRecDepth 10000 in
theorem block16_spec (b : Blk) : CallsF Try.prog 18 [b.av] [] (.bool b.ok) [] := by
  refine e18 ?_
  conv => whnf
  refine ifB_of (fun h0 => ?_) (fun h0 => ?_)
  all_goals
    conv => whnf
    refine LoopA.inv (fun n st => ∃ i : Nat, n + i = 2 ∧ st = ⟨[(1, .bp 0 0), (3, .bool (okV b i)), (4, iv i)], [some (.box b.row)], 1, 0⟩) 2 [1, 3, 4] [0] [] (by rfl) ?_ ?_
    · conv => whnf
      refine ⟨0, rfl, ?_⟩
      first
      | (rw [show okV b 0 = decide (b.m ≤ 3) by simp at h0; simp [okV, h0]]; rfl)
      | (rw [show okV b 0 = false by simp at h0; simp [okV]; omega]; rfl)
    rintro n st ⟨i, hn, rfl⟩
    conv => whnf
    refine ifB_of (fun h1 => ?_) (fun h1 => ?_)
    · have h1 : i < 2 := by have := of_decide_eq_true h1; omega
      obtain rfl | rfl : i = 0 ∨ i = 1 := by omega
      · conv => whnf
        cases g0 : okV b 0
        · conv => whnf
          refine ⟨(2 - (0 + 1)), [1, 3, 4], [0], [], by omega, rfl, ?_⟩
          conv => whnf
          exact ⟨1, by omega, by rw [okV1, g0]; rfl⟩
        conv => whnf
        refine CallsF.call [] [] (near16_spec b.x0) rfl rfl rfl rfl rfl (.inl rfl) ?_
        conv => whnf
        cases g1 : smallB b.x0
        · conv => whnf
          refine ⟨(2 - (0 + 1)), [1, 3, 4], [0], [], by omega, rfl, ?_⟩
          conv => whnf
          exact ⟨1, by omega, by rw [okV1, g0, g1]; rfl⟩
        conv => whnf
        refine CallsF.call [] [] (near16_spec b.y0) rfl rfl rfl rfl rfl (.inl rfl) ?_
        conv => whnf
        cases g2 : smallB b.y0
        · conv => whnf
          refine ⟨(2 - (0 + 1)), [1, 3, 4], [0], [], by omega, rfl, ?_⟩
          conv => whnf
          exact ⟨1, by omega, by rw [okV1, g0, g1, g2]; rfl⟩
        conv => whnf
        refine ⟨(2 - (0 + 1)), [1, 3, 4], [0], [], by omega, rfl, ?_⟩
        conv => whnf
        exact ⟨1, by omega, by rw [okV1, g0, g1, g2]; rfl⟩
      · conv => whnf
        cases g0 : okV b 1
        · conv => whnf
          refine ⟨(2 - (1 + 1)), [1, 3, 4], [0], [], by omega, rfl, ?_⟩
          conv => whnf
          exact ⟨2, by omega, by rw [okV2, g0]; rfl⟩
        conv => whnf
        refine CallsF.call [] [] (near16_spec b.x1) rfl rfl rfl rfl rfl (.inl rfl) ?_
        conv => whnf
        cases g1 : smallB b.x1
        · conv => whnf
          refine ⟨(2 - (1 + 1)), [1, 3, 4], [0], [], by omega, rfl, ?_⟩
          conv => whnf
          exact ⟨2, by omega, by rw [okV2, g0, g1]; rfl⟩
        conv => whnf
        refine CallsF.call [] [] (near16_spec b.y1) rfl rfl rfl rfl rfl (.inl rfl) ?_
        conv => whnf
        cases g2 : smallB b.y1
        · conv => whnf
          refine ⟨(2 - (1 + 1)), [1, 3, 4], [0], [], by omega, rfl, ?_⟩
          conv => whnf
          exact ⟨2, by omega, by rw [okV2, g0, g1, g2]; rfl⟩
        conv => whnf
        refine ⟨(2 - (1 + 1)), [1, 3, 4], [0], [], by omega, rfl, ?_⟩
        conv => whnf
        exact ⟨2, by omega, by rw [okV2, g0, g1, g2]; rfl⟩
    have h1 : ¬i < 2 := by have := of_decide_eq_false h1; omega
    obtain rfl : i = 2 := by omega
    conv => whnf
    refine LoopA.inv (fun n st => ∃ i : Nat, n + i = 3 ∧ st = ⟨[(1, .bp 0 0), (3, .bool (okD b i)), (5, iv i)], [some (.box b.row)], 1, 0⟩) 3 [1, 3, 5] [0] [] (by rfl) ?_ ?_
    · conv => whnf
      exact ⟨0, rfl, rfl⟩
    rintro n st ⟨i, hn, rfl⟩
    conv => whnf
    refine ifB_of (fun h1 => ?_) (fun h1 => ?_)
    · have h1 : i < 3 := by have := of_decide_eq_true h1; omega
      obtain rfl | rfl | rfl : i = 0 ∨ i = 1 ∨ i = 2 := by omega
      · conv => whnf
        cases g0 : okD b 0
        · conv => whnf
          refine ⟨(3 - (0 + 1)), [1, 3, 5], [0], [], by omega, rfl, ?_⟩
          conv => whnf
          exact ⟨1, by omega, by rw [okD1, g0]; rfl⟩
        conv => whnf
        refine CallsF.call [] [] (near16_spec b.d0) rfl rfl rfl rfl rfl (.inl rfl) ?_
        conv => whnf
        cases g1 : smallB b.d0
        · conv => whnf
          refine ⟨(3 - (0 + 1)), [1, 3, 5], [0], [], by omega, rfl, ?_⟩
          conv => whnf
          exact ⟨1, by omega, by rw [okD1, g0, g1]; rfl⟩
        conv => whnf
        refine ⟨(3 - (0 + 1)), [1, 3, 5], [0], [], by omega, rfl, ?_⟩
        conv => whnf
        exact ⟨1, by omega, by rw [okD1, g0, g1]; rfl⟩
      · conv => whnf
        cases g0 : okD b 1
        · conv => whnf
          refine ⟨(3 - (1 + 1)), [1, 3, 5], [0], [], by omega, rfl, ?_⟩
          conv => whnf
          exact ⟨2, by omega, by rw [okD2, g0]; rfl⟩
        conv => whnf
        refine CallsF.call [] [] (near16_spec b.d1) rfl rfl rfl rfl rfl (.inl rfl) ?_
        conv => whnf
        cases g1 : smallB b.d1
        · conv => whnf
          refine ⟨(3 - (1 + 1)), [1, 3, 5], [0], [], by omega, rfl, ?_⟩
          conv => whnf
          exact ⟨2, by omega, by rw [okD2, g0, g1]; rfl⟩
        conv => whnf
        refine ⟨(3 - (1 + 1)), [1, 3, 5], [0], [], by omega, rfl, ?_⟩
        conv => whnf
        exact ⟨2, by omega, by rw [okD2, g0, g1]; rfl⟩
      · conv => whnf
        cases g0 : okD b 2
        · conv => whnf
          refine ⟨(3 - (2 + 1)), [1, 3, 5], [0], [], by omega, rfl, ?_⟩
          conv => whnf
          exact ⟨3, by omega, by rw [okD3, g0]; rfl⟩
        conv => whnf
        refine CallsF.call [] [] (near16_spec b.d2) rfl rfl rfl rfl rfl (.inl rfl) ?_
        conv => whnf
        cases g1 : smallB b.d2
        · conv => whnf
          refine ⟨(3 - (2 + 1)), [1, 3, 5], [0], [], by omega, rfl, ?_⟩
          conv => whnf
          exact ⟨3, by omega, by rw [okD3, g0, g1]; rfl⟩
        conv => whnf
        refine ⟨(3 - (2 + 1)), [1, 3, 5], [0], [], by omega, rfl, ?_⟩
        conv => whnf
        exact ⟨3, by omega, by rw [okD3, g0, g1]; rfl⟩
    have h1 : ¬i < 3 := by have := of_decide_eq_false h1; omega
    obtain rfl : i = 3 := by omega
    conv => whnf
    exact ⟨[], [], rfl, congrArg AV.bool (okD_all b), rfl⟩
end Go.Proofs.TryN

