/- Layer 1 and 5: bits in bytes. -/
import Derived.Test.YtamgmfinkgdkjaaDoorN5A
namespace Go.Proofs.TrydN
open Go Go.AL Go.Proofs

def bI (b : Bool) (v : Int) : Int := match b with | true => v | false => 0
def byteOf (b0 b1 b2 b3 b4 b5 b6 b7 : Bool) : Int := bI b0 128 + bI b1 64 + bI b2 32 + bI b3 16 + bI b4 8 + bI b5 4 + bI b6 2 + bI b7 1
def byteAt (g : Nat → Bool) (i : Nat) : Int := byteOf (g (8 * i)) (g (8 * i + 1)) (g (8 * i + 2)) (g (8 * i + 3)) (g (8 * i + 4)) (g (8 * i + 5)) (g (8 * i + 6)) (g (8 * i + 7))
def bitAt (l : List Bool) (i : Nat) : Bool := l.getD i false
def pack (l : List Bool) : List Int := (List.range ((l.length + 7) / 8)).map (byteAt (bitAt l))

theorem pack_len (l : List Bool) : (pack l).length = (l.length + 7) / 8 := by simp [pack]
theorem pack_get {l : List Bool} {i : Nat} (h : i < (l.length + 7) / 8) : (pack l)[i]? = some (byteAt (bitAt l) i) := by
  rw [pack, List.getElem?_map, List.getElem?_range h]; rfl
theorem bitAt_out {l : List Bool} {i : Nat} (h : l.length ≤ i) : bitAt l i = false := by simp [bitAt, List.getD, List.getElem?_eq_none h]
theorem bitAt_app (l : List Bool) (b : Bool) (i : Nat) : bitAt (l ++ [b]) i = if i = l.length then b else bitAt l i := by
  simp only [bitAt, List.getD, List.getElem?_append]
  split
  · rw [if_neg (by omega)]
  · rename_i h
    split
    · rename_i he; subst he; simp
    · rw [List.getElem?_eq_none (by simp; omega), List.getElem?_eq_none (by omega)]
theorem byteAt_same {g g' : Nat → Bool} {i n : Nat} (h : i ≠ n / 8) (hg : ∀ k, k ≠ n → g' k = g k) : byteAt g' i = byteAt g i := by
  unfold byteAt
  rw [hg _ (by omega), hg (8 * i + 1) (by omega), hg (8 * i + 2) (by omega), hg (8 * i + 3) (by omega), hg (8 * i + 4) (by omega), hg (8 * i + 5) (by omega), hg (8 * i + 6) (by omega), hg (8 * i + 7) (by omega)]
theorem byte_new (l : List Bool) (b : Bool) (h : l.length % 8 = 0) : byteAt (bitAt (l ++ [b])) (l.length / 8) = bI b 128 := by
  have e8 : 8 * (l.length / 8) = l.length := by omega
  unfold byteAt
  rw [e8]
  simp only [bitAt_app, if_true]
  rw [if_neg (by omega), if_neg (by omega), if_neg (by omega), if_neg (by omega), if_neg (by omega), if_neg (by omega), if_neg (by omega)]
  rw [bitAt_out (by omega), bitAt_out (by omega), bitAt_out (by omega), bitAt_out (by omega), bitAt_out (by omega), bitAt_out (by omega), bitAt_out (by omega)]
  simp [byteOf, bI]
theorem pack_app0 (l : List Bool) (b : Bool) (h : l.length % 8 = 0) : pack (l ++ [b]) = pack l ++ [bI b 128] := by
  have e : (l.length + 1 + 7) / 8 = (l.length + 7) / 8 + 1 := by omega
  have hq : (l.length + 7) / 8 = l.length / 8 := by omega
  unfold pack
  rw [List.length_append, List.length_singleton, e, List.range_succ, List.map_append]
  congr 1
  · apply List.map_congr_left
    intro i hi
    rw [List.mem_range] at hi
    exact byteAt_same (n := l.length) (by omega) fun k hk => by rw [bitAt_app, if_neg hk]
  · simp only [List.map_cons, List.map_nil, List.cons.injEq, and_true]
    rw [hq]; exact byte_new l b h
theorem pack_app1 (l : List Bool) (b : Bool) (h : l.length % 8 ≠ 0) : pack (l ++ [b]) = (pack l).set (l.length / 8) (byteAt (bitAt (l ++ [b])) (l.length / 8)) := by
  have e : (l.length + 1 + 7) / 8 = (l.length + 7) / 8 := by omega
  apply List.ext_getElem?
  intro i
  by_cases hi : i < (l.length + 7) / 8
  · rw [pack_get (by simp; omega), List.getElem?_set]
    split
    · rename_i h1
      subst h1
      rw [if_pos (by rw [pack_len]; omega)]
    · rename_i h1
      rw [pack_get hi]
      exact congrArg some (byteAt_same (n := l.length) (by omega) fun k hk => by rw [bitAt_app, if_neg hk])
  · rw [List.getElem?_eq_none (by rw [pack_len]; simp; omega), List.getElem?_eq_none (by simp [pack_len]; omega)]

theorem or8_0 : IntKind.wrap .u8 ((BitVec.ofInt IntKind.u8.bits (byteOf false false false false false false false false) ||| BitVec.ofInt IntKind.u8.bits ((128 : Int).fdiv (2 ^ min 0 IntKind.u8.bits))).toNat : Nat) = byteOf true false false false false false false false := by decide
theorem or8_1 : ∀ b0 : Bool, IntKind.wrap .u8 ((BitVec.ofInt IntKind.u8.bits (byteOf b0 false false false false false false false) ||| BitVec.ofInt IntKind.u8.bits ((128 : Int).fdiv (2 ^ min 1 IntKind.u8.bits))).toNat : Nat) = byteOf b0 true false false false false false false := by decide
theorem or8_2 : ∀ b0 b1 : Bool, IntKind.wrap .u8 ((BitVec.ofInt IntKind.u8.bits (byteOf b0 b1 false false false false false false) ||| BitVec.ofInt IntKind.u8.bits ((128 : Int).fdiv (2 ^ min 2 IntKind.u8.bits))).toNat : Nat) = byteOf b0 b1 true false false false false false := by decide
theorem or8_3 : ∀ b0 b1 b2 : Bool, IntKind.wrap .u8 ((BitVec.ofInt IntKind.u8.bits (byteOf b0 b1 b2 false false false false false) ||| BitVec.ofInt IntKind.u8.bits ((128 : Int).fdiv (2 ^ min 3 IntKind.u8.bits))).toNat : Nat) = byteOf b0 b1 b2 true false false false false := by decide
theorem or8_4 : ∀ b0 b1 b2 b3 : Bool, IntKind.wrap .u8 ((BitVec.ofInt IntKind.u8.bits (byteOf b0 b1 b2 b3 false false false false) ||| BitVec.ofInt IntKind.u8.bits ((128 : Int).fdiv (2 ^ min 4 IntKind.u8.bits))).toNat : Nat) = byteOf b0 b1 b2 b3 true false false false := by decide
theorem or8_5 : ∀ b0 b1 b2 b3 b4 : Bool, IntKind.wrap .u8 ((BitVec.ofInt IntKind.u8.bits (byteOf b0 b1 b2 b3 b4 false false false) ||| BitVec.ofInt IntKind.u8.bits ((128 : Int).fdiv (2 ^ min 5 IntKind.u8.bits))).toNat : Nat) = byteOf b0 b1 b2 b3 b4 true false false := by decide
theorem or8_6 : ∀ b0 b1 b2 b3 b4 b5 : Bool, IntKind.wrap .u8 ((BitVec.ofInt IntKind.u8.bits (byteOf b0 b1 b2 b3 b4 b5 false false) ||| BitVec.ofInt IntKind.u8.bits ((128 : Int).fdiv (2 ^ min 6 IntKind.u8.bits))).toNat : Nat) = byteOf b0 b1 b2 b3 b4 b5 true false := by decide
theorem or8_7 : ∀ b0 b1 b2 b3 b4 b5 b6 : Bool, IntKind.wrap .u8 ((BitVec.ofInt IntKind.u8.bits (byteOf b0 b1 b2 b3 b4 b5 b6 false) ||| BitVec.ofInt IntKind.u8.bits ((128 : Int).fdiv (2 ^ min 7 IntKind.u8.bits))).toNat : Nat) = byteOf b0 b1 b2 b3 b4 b5 b6 true := by decide

/-- A bit of a byte, set by or. -/
theorem or_byte (g g' : Nat → Bool) (n : Nat) (hg : ∀ k, k ≠ n → g' k = g k) (h0 : ∀ k, n ≤ k → g k = false) (h1 : g' n = true) :
    IntKind.wrap .u8 ((BitVec.ofInt IntKind.u8.bits (byteAt g (n / 8)) ||| BitVec.ofInt IntKind.u8.bits ((128 : Int).fdiv (2 ^ min (n % 8) IntKind.u8.bits))).toNat : Nat) = byteAt g' (n / 8) := by
  have hm : n % 8 = 0 ∨ n % 8 = 1 ∨ n % 8 = 2 ∨ n % 8 = 3 ∨ n % 8 = 4 ∨ n % 8 = 5 ∨ n % 8 = 6 ∨ n % 8 = 7 := by omega
  have en : 8 * (n / 8) + n % 8 = n := by omega
  have G : ∀ j, j < n % 8 → g' (8 * (n / 8) + j) = g (8 * (n / 8) + j) := fun j hj => hg _ (by omega)
  have T : ∀ j, j = n % 8 → g' (8 * (n / 8) + j) = true := fun j hj => by rw [hj, en, h1]
  have Z : ∀ j, n % 8 < j → g' (8 * (n / 8) + j) = false := fun j hj => (hg _ (by omega)).trans (h0 _ (by omega))
  have Y : ∀ j, n % 8 ≤ j → g (8 * (n / 8) + j) = false := fun j hj => h0 _ (by omega)
  unfold byteAt
  rw [show g' (8 * (n / 8)) = g' (8 * (n / 8) + 0) from rfl, show g (8 * (n / 8)) = g (8 * (n / 8) + 0) from rfl]
  rcases hm with h | h | h | h | h | h | h | h
  · rw [T 0 (by omega), Z 1 (by omega), Z 2 (by omega), Z 3 (by omega), Z 4 (by omega), Z 5 (by omega), Z 6 (by omega), Z 7 (by omega), Y 0 (by omega), Y 1 (by omega), Y 2 (by omega), Y 3 (by omega), Y 4 (by omega), Y 5 (by omega), Y 6 (by omega), Y 7 (by omega), h]; exact or8_0
  · rw [G 0 (by omega), T 1 (by omega), Z 2 (by omega), Z 3 (by omega), Z 4 (by omega), Z 5 (by omega), Z 6 (by omega), Z 7 (by omega), Y 1 (by omega), Y 2 (by omega), Y 3 (by omega), Y 4 (by omega), Y 5 (by omega), Y 6 (by omega), Y 7 (by omega), h]; exact or8_1 _
  · rw [G 0 (by omega), G 1 (by omega), T 2 (by omega), Z 3 (by omega), Z 4 (by omega), Z 5 (by omega), Z 6 (by omega), Z 7 (by omega), Y 2 (by omega), Y 3 (by omega), Y 4 (by omega), Y 5 (by omega), Y 6 (by omega), Y 7 (by omega), h]; exact or8_2 _ _
  · rw [G 0 (by omega), G 1 (by omega), G 2 (by omega), T 3 (by omega), Z 4 (by omega), Z 5 (by omega), Z 6 (by omega), Z 7 (by omega), Y 3 (by omega), Y 4 (by omega), Y 5 (by omega), Y 6 (by omega), Y 7 (by omega), h]; exact or8_3 _ _ _
  · rw [G 0 (by omega), G 1 (by omega), G 2 (by omega), G 3 (by omega), T 4 (by omega), Z 5 (by omega), Z 6 (by omega), Z 7 (by omega), Y 4 (by omega), Y 5 (by omega), Y 6 (by omega), Y 7 (by omega), h]; exact or8_4 _ _ _ _
  · rw [G 0 (by omega), G 1 (by omega), G 2 (by omega), G 3 (by omega), G 4 (by omega), T 5 (by omega), Z 6 (by omega), Z 7 (by omega), Y 5 (by omega), Y 6 (by omega), Y 7 (by omega), h]; exact or8_5 _ _ _ _ _
  · rw [G 0 (by omega), G 1 (by omega), G 2 (by omega), G 3 (by omega), G 4 (by omega), G 5 (by omega), T 6 (by omega), Z 7 (by omega), Y 6 (by omega), Y 7 (by omega), h]; exact or8_6 _ _ _ _ _ _
  · rw [G 0 (by omega), G 1 (by omega), G 2 (by omega), G 3 (by omega), G 4 (by omega), G 5 (by omega), G 6 (by omega), T 7 (by omega), Y 7 (by omega), h]; exact or8_7 _ _ _ _ _ _ _

end Go.Proofs.TrydN

