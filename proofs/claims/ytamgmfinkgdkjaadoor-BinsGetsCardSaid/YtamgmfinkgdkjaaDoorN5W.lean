/- The document's layer 1: bytes of bits: the walk. -/
import Derived.Test.YtamgmfinkgdkjaaDoorN5U
namespace Go.Proofs.TrydN
open Go Go.AL Go.Proofs

def numB (l : List Bool) : Int := l.foldl (fun v b => 2 * v + b2i b) 0
theorem numB_snoc (l : List Bool) (b : Bool) : numB (l ++ [b]) = 2 * numB l + b2i b := by simp [numB]
theorem numB_in (l : List Bool) : 0 ≤ numB l ∧ numB l < 2 ^ l.length := by
  refine list_snoc (motive := fun l => 0 ≤ numB l ∧ numB l < 2 ^ l.length) (by simp [numB]) (fun q x ih => ?_) l
  rw [numB_snoc, List.length_append, List.length_singleton, Int.pow_succ]
  have := b2i_in x
  omega
theorem numB_byte : ∀ b0 b1 b2 b3 b4 b5 b6 b7 : Bool, numB [b0, b1, b2, b3, b4, b5, b6, b7] = byteOf b0 b1 b2 b3 b4 b5 b6 b7 := by decide
theorem chB_sub (b : Bool) : IntKind.wrap .u64 (IntKind.wrap .u8 (((chB b).toNat : Int) - 48)) = b2i b := by cases b <;> rfl

theorem number_spec (l : List Bool) (hl : l.length ≤ 60) : CallsF Tryd.prog 86 [.str (sB l)] [] (.int .u64 (numB l)) [] := by
  refine e86 ?_
  conv => whnf
  refine LoopA.inv (fun k st => ∃ i : Nat, i + k = l.length ∧ st = ⟨[(0, .str (sB l)), (3, .int .u64 (numB (l.take i))), (4, iv i)], [], 0, 0⟩) l.length [0, 3, 4] [] [] (by rfl) ?_ ?_
  · conv => whnf
    exact ⟨0, by omega, rfl⟩
  rintro k st ⟨i, hi, rfl⟩
  conv => whnf
  rw [sB_size]
  refine ifB_of (fun hd => ?_) (fun hd => ?_)
  · have hd : i < l.length := by have := of_decide_eq_true hd; omega
    conv => whnf
    refine need_of ((decide_eq_true ⟨by omega, by rw [sB_size]; omega⟩)) ?_
    conv => whnf
    have hn := numB_in (l.take i)
    have hp : (2 : Int) ^ (l.take i).length ≤ 2 ^ 60 := by
      have : (2 : Nat) ^ (l.take i).length ≤ 2 ^ 60 := Nat.pow_le_pow_right (by omega) (by simp; omega)
      exact_mod_cast this
    have hb := b2i_in l[i]
    rw [Int.toNat_natCast, sB_at hd, chB_sub, wrap_u64 (n := 2 * numB (l.take i)) (by omega) (by omega), wrap_u64 (by omega) (by omega), inc_nat (by omega)]
    refine ⟨(l.length - (i + 1)), [0, 3, 4], [], [], by omega, rfl, ?_⟩
    conv => whnf
    refine ⟨i + 1, by omega, ?_⟩
    rw [List.take_succ_eq_append_getElem hd, numB_snoc]
  · have hd := of_decide_eq_false hd
    obtain rfl : i = l.length := by omega
    conv => whnf
    rw [List.take_length]
    exact ⟨[], [], rfl, rfl, rfl⟩

def padN (n : Nat) : Nat := (8 - n % 8) % 8
def padB (l : List Bool) : List Bool := l ++ List.replicate (padN l.length) false
theorem padB_len (l : List Bool) : (padB l).length = 8 * ((l.length + 7) / 8) := by simp [padB, padN]; omega
theorem padB_at (l : List Bool) (i : Nat) : bitAt (padB l) i = bitAt l i := by
  unfold bitAt padB
  simp only [List.getD]
  by_cases h : i < l.length
  · rw [List.getElem?_append_left h]
  · rw [List.getElem?_append_right (by omega), List.getElem?_eq_none (l := l) (by omega), List.getElem?_replicate]
    split <;> rfl

theorem pad_spec (l : List Bool) (hl : l.length < 4294967290) : CallsF Tryd.prog 85 [.str (sB l)] [] (.str (sB (padB l))) [] := by
  refine e85 ?_
  conv => whnf
  refine LoopA.inv (fun k st => ∃ i : Nat, i + k = padN l.length ∧ st = ⟨[(0, .str (sB (l ++ List.replicate i false)))], [], 0, 0⟩) (padN l.length) [0] [] [] (by rfl) ?_ ?_
  · conv => whnf
    exact ⟨0, by omega, by simp⟩
  rintro k st ⟨i, hi, rfl⟩
  conv => whnf
  rw [sB_size, List.length_append, List.length_replicate]
  have hr : (((l.length + i : Nat) : Int)).tmod 8 = (((l.length + i) % 8 : Nat) : Int) := rfl
  rw [hr]
  cases k with
  | zero =>
    rw [show ((((l.length + i) % 8 : Nat) : Int) != 0) = false from by simp; unfold padN at hi; omega]
    conv => whnf
    obtain rfl : i = padN l.length := by omega
    exact ⟨[], [], rfl, rfl, rfl⟩
  | succ k =>
    rw [show ((((l.length + i) % 8 : Nat) : Int) != 0) = true from by simp; unfold padN at hi; omega]
    conv => whnf
    refine need_of ((decide_eq_true (by show (sB _).size + 1 ≤ 9223372036854775807; rw [sB_size]; simp; unfold padN at hi; omega))) ?_
    conv => whnf
    refine ⟨k, [0], [], [], by omega, rfl, ?_⟩
    conv => whnf
    refine ⟨i + 1, by omega, ?_⟩
    rw [List.replicate_succ', ← List.append_assoc, ← sB_plus]
    rfl

theorem cut8 {l : List Bool} {i : Nat} (h : i + 8 ≤ l.length) : (l.drop i).take 8 = [bitAt l i, bitAt l (i + 1), bitAt l (i + 2), bitAt l (i + 3), bitAt l (i + 4), bitAt l (i + 5), bitAt l (i + 6), bitAt l (i + 7)] := by
  have : ∀ j, j < 8 → l[i + j]? = some (bitAt l (i + j)) := fun j hj => by
    unfold bitAt
    rw [List.getD, List.getElem?_eq_getElem (by omega)]; rfl
  apply List.ext_getElem?
  intro j
  rw [List.getElem?_take, List.getElem?_drop]
  by_cases hj : j < 8
  · rw [if_pos hj, this j hj]
    have : j = 0 ∨ j = 1 ∨ j = 2 ∨ j = 3 ∨ j = 4 ∨ j = 5 ∨ j = 6 ∨ j = 7 := by omega
    rcases this with rfl | rfl | rfl | rfl | rfl | rfl | rfl | rfl <;> rfl
  · rw [if_neg hj, List.getElem?_eq_none (by simp; omega)]

theorem wrap_u8 {n : Int} (h0 : 0 ≤ n) (h1 : n < 256) : IntKind.wrap .u8 n = n := by simp [IntKind.wrap, IntKind.bits, IntKind.signed]; omega

theorem packs_spec (l : List Bool) (h0 : l ≠ []) (hl : l.length < 4294967280) : CallsF Tryd.prog 59 [.str (sB l)] [] (.ri .u8 (pack l)) [] := by
  have hpos : 0 < l.length := by cases l <;> simp at h0 ⊢
  have hpl := padB_len l
  refine e59 ?_
  conv => whnf
  refine CallsF.call [] [] (pad_spec l (by omega)) rfl rfl rfl rfl rfl (.inl rfl) ?_
  conv => whnf
  refine LoopA.inv (fun k st => ∃ j : Nat, j + k = (l.length + 7) / 8 ∧ ((j = 0 ∧ st = ⟨[(0, .str (sB (padB l))), (3, .snil), (4, iv 0)], [], 0, 0⟩) ∨ (j ≠ 0 ∧ st = ⟨[(0, .str (sB (padB l))), (3, .sl 0 0 j), (4, iv (8 * j : Nat))], [some (.ia .u8 ((List.range j).map (byteAt (bitAt l))))], 1, 0⟩))) ((l.length + 7) / 8) [0, 3, 4] [] [] (by rfl) ?_ ?_
  · conv => whnf
    exact ⟨0, by omega, .inl ⟨rfl, rfl⟩⟩
  have step : ∀ j, j < (l.length + 7) / 8 → CallsF Tryd.prog 86 [.str ((sB (padB l)).extract (8 * j) (8 * j + 8))] [] (.int .u64 (byteAt (bitAt l) j)) [] := fun j hj => by
    rw [sB_cut, show 8 * j + 8 - 8 * j = 8 by omega, cut8 (by omega)]
    simp only [padB_at]
    have := number_spec [bitAt l (8 * j), bitAt l (8 * j + 1), bitAt l (8 * j + 2), bitAt l (8 * j + 3), bitAt l (8 * j + 4), bitAt l (8 * j + 5), bitAt l (8 * j + 6), bitAt l (8 * j + 7)] (by simp)
    rw [numB_byte] at this
    exact this
  rintro k st ⟨j, hj, ⟨hj0, rfl⟩ | ⟨hj0, rfl⟩⟩
  · subst hj0
    have st := step 0 (by omega)
    have by0 := byte_in (bitAt l) 0
    conv => whnf
    rw [sB_size]
    refine ifB_of (fun hd => ?_) (fun hd => ?_)
    · have hd := of_decide_eq_true hd
      conv => whnf
      refine need_of ((decide_eq_true ⟨by omega, by decide, by rw [sB_size]; show (8 : Int) ≤ _; omega⟩)) ?_
      conv => whnf
      refine CallsF.call [] [] (st) rfl rfl rfl rfl rfl (.inl rfl) ?_
      conv => whnf
      rw [wrap_u8 by0.1 (by omega)]
      refine ⟨(k - 1), [0, 3, 4], [1], [], by omega, rfl, ?_⟩
      conv => whnf
      exact ⟨1, by omega, .inr ⟨by omega, rfl⟩⟩
    · have hd := of_decide_eq_false hd
      omega
  · have byj := byte_in (bitAt l) j
    conv => whnf
    rw [sB_size]
    refine ifB_of (fun hd => ?_) (fun hd => ?_)
    · have hd := of_decide_eq_true hd
      have st := step j (by omega)
      conv => whnf
      rw [wrap_id (n := ((8 * j : Nat) : Int) + 8) (by omega) (by omega)]
      refine need_of ((decide_eq_true ⟨by omega, by omega, by rw [sB_size]; omega⟩)) ?_
      conv => whnf
      rw [show (((8 * j : Nat) : Int) + 8).toNat = 8 * j + 8 by omega]
      refine CallsF.call [] [] (st) rfl rfl rfl rfl rfl (.inl rfl) ?_
      conv => whnf
      rw [wrap_u8 byj.1 (by omega)]
      conv => whnf
      refine need_of ((decide_eq_true ⟨by simp, show (1 + 1) * (j + 1) ≤ 2 ^ 46 by omega⟩)) ?_
      conv => whnf
      rw [show IntKind.wrap .i64 (((8 * j : Nat) : Int) + 8) = ((8 * (j + 1) : Nat) : Int) from by rw [wrap_id (by omega) (by omega)]; omega]
      refine ⟨(k - 1), [0, 3, 4], [2], [], by omega, rfl, ?_⟩
      conv => whnf
      refine ⟨j + 1, by omega, .inr ⟨by omega, ?_⟩⟩
      rw [List.range_succ, List.map_append]
      rfl
    · have hd := of_decide_eq_false hd
      obtain rfl : j = (l.length + 7) / 8 := by omega
      conv => whnf
      refine ⟨[], [0], rfl, ?_, rfl⟩
      show AV.ri .u8 ((((List.range ((l.length + 7) / 8)).map (byteAt (bitAt l))).drop 0).take ((l.length + 7) / 8)) = .ri .u8 (pack l)
      rw [List.drop_zero, List.take_of_length_le (by simp)]
      rfl

end Go.Proofs.TrydN

