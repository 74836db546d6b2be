/- Layer 5: the encoder and the decoder, as plain lists and numbers. -/
import Derived.Test.YtamgmfinkgdkjaaDoorN5E
namespace Go.Proofs.TrydN
open Go Go.AL Go.Proofs

/-- The encoder. -/
structure Enc where
  (p : List Int) (n : Nat) (low size : Int) (owed : Nat) (bits : List Bool)

/-- The decoder. -/
structure Dec where
  (p : List Int) (n : Nat) (low size code : Int) (src : List Int) (pos over : Nat)

def chance (p : List Int) (c : Int) : Int := p.getD c.toNat 0
def hasC (p : List Int) (c : Int) : Bool := decide (0 ≤ c) && decide (c < p.length)
def partN (size q : Int) : Int := size * q / 65536
def learnP (p : List Int) (c : Int) (b : Bool) : List Int := p.set c.toNat (match b with | true => lessN (chance p c) | false => moreN (chance p c))
def lowT (low part : Int) (b : Bool) : Int := match b with | true => low + part | false => low
def sizeT (size part : Int) (b : Bool) : Int := match b with | true => size - part | false => part
def strad (low size : Int) : Bool := decide (low / 32768 % 2 ≠ (low + size - 1) / 32768 % 2)
def turnN (v : Int) : Int := if v / 16384 % 2 = 1 then v - 16384 else v + 16384
def topB (v : Int) : Bool := decide (v / 32768 % 2 = 1)
def lowS (low size : Int) : Int := 2 * (match strad low size with | true => turnN low | false => low) % 65536

def Enc.shift (e : Enc) : Enc := match strad e.low e.size with
  | true => ⟨e.p, e.n, lowS e.low e.size, 2 * e.size, e.owed + 1, e.bits⟩
  | false => ⟨e.p, e.n, lowS e.low e.size, 2 * e.size, 0, e.bits ++ owes (topB e.low) e.owed⟩
def Enc.norm : Nat → Enc → Enc
  | 0, e => e
  | k + 1, e => if e.size ≤ 16384 then Enc.norm k e.shift else e
def Enc.take (e : Enc) (c : Int) (b : Bool) : Enc :=
  ⟨learnP e.p c b, e.n + 1, lowT e.low (partN e.size (chance e.p c)) b, sizeT e.size (partN e.size (chance e.p c)) b, e.owed, e.bits⟩
def Enc.put (e : Enc) (c : Int) (b : Bool) : Enc := match hasC e.p c with
  | true => (e.take c b).norm 16
  | false => e

structure okS (p : List Int) (low size : Int) : Prop where
  ch : ∀ q ∈ p, okP q
  l0 : 0 ≤ low
  s0 : 1 ≤ size
  top : low + size ≤ 65536

theorem okS.chance {p : List Int} {low size : Int} (h : okS p low size) {c : Int} (hc : hasC p c = true) : okP (chance p c) := by
  simp [hasC] at hc
  refine h.ch _ ?_
  unfold Go.Proofs.TrydN.chance
  rw [List.getD, List.getElem?_eq_getElem (show c.toNat < p.length by omega)]
  exact List.getElem_mem _

theorem partN_in {size q : Int} (h0 : 16384 < size) (h1 : size ≤ 65536) (hq : okP q) : 1 ≤ partN size q ∧ partN size q < size ∧ 0 ≤ size * q ∧ size * q ≤ 65536 * 65536 := by
  unfold okP at hq
  have a : size * q ≤ size * 65535 := Int.mul_le_mul_of_nonneg_left hq.2 (by omega)
  have b : size * 4 ≤ size * q := Int.mul_le_mul_of_nonneg_left hq.1 (by omega)
  unfold partN
  omega

theorem turnN_in {v : Int} (h0 : 0 ≤ v) (h1 : v < 65536) : 0 ≤ turnN v ∧ turnN v < 65536 := by
  unfold turnN; split <;> omega

theorem okS.shift {p : List Int} {low size : Int} (h : okS p low size) (hs : size ≤ 16384) : okS p (lowS low size) (2 * size) := by
  obtain ⟨h1, h2, h3, h4⟩ := h
  refine ⟨h1, by unfold lowS; omega, by omega, ?_⟩
  unfold lowS strad turnN
  split
  · rename_i h; have h := of_decide_eq_true h
    have a : low / 32768 = 0 := by omega
    have b : (low + size - 1) / 32768 = 1 := by omega
    rw [if_pos (show low / 16384 % 2 = 1 by omega)]
    omega
  · rename_i h; have h := of_decide_eq_false h
    omega

theorem learn_ok {p : List Int} (h : ∀ q ∈ p, okP q) {c : Int} (hc : okP (chance p c)) (b : Bool) : ∀ q ∈ learnP p c b, okP q := by
  intro q hq
  unfold learnP at hq
  rcases List.mem_or_eq_of_mem_set hq with h' | h'
  · exact h q h'
  · subst h'
    cases b
    · exact moreN_ok hc
    · exact lessN_ok hc

theorem okS.take {p : List Int} {low size : Int} (h : okS p low size) (hs : 16384 < size) {c : Int} (hc : hasC p c = true) (b : Bool) :
    okS (learnP p c b) (lowT low (partN size (Go.Proofs.TrydN.chance p c)) b) (sizeT size (partN size (Go.Proofs.TrydN.chance p c)) b) := by
  have hq := h.chance hc
  obtain ⟨h1, h2, h3, h4⟩ := h
  have k := partN_in hs (by omega) hq
  refine ⟨learn_ok h1 hq b, ?_, ?_, ?_⟩ <;> cases b <;> simp only [lowT, sizeT] <;> omega

/-! Bits of numbers. -/

theorem u16 {a : Int} (h0 : 0 ≤ a) (h1 : a < 65536) : ∃ x : Nat, a = x ∧ x < 65536 := ⟨a.toNat, by omega, by omega⟩
theorem bv_nat (x : Nat) (h : x < 65536) : (BitVec.ofInt 64 (x : Int)).toNat = x := by
  rw [BitVec.ofInt_natCast, BitVec.toNat_ofNat, Nat.mod_eq_of_lt (by omega)]

theorem and_half (x : Nat) : x &&& 32768 = if x / 32768 % 2 = 1 then 32768 else 0 := by
  have e1 : (x &&& 32768) / 32768 = x / 32768 &&& 1 := by
    have := Nat.and_div_two_pow (a := x) (b := 32768) (n := 15)
    simpa using this
  have e2 : (x &&& 32768) % 32768 = 0 := by
    have := Nat.and_mod_two_pow (a := x) (b := 32768) (n := 15)
    simpa using this
  rw [Nat.and_one_is_mod] at e1
  split <;> omega
theorem and_quarter (x : Nat) : x &&& 16384 = if x / 16384 % 2 = 1 then 16384 else 0 := by
  have e1 : (x &&& 16384) / 16384 = x / 16384 &&& 1 := by
    have := Nat.and_div_two_pow (a := x) (b := 16384) (n := 14)
    simpa using this
  have e2 : (x &&& 16384) % 16384 = 0 := by
    have := Nat.and_mod_two_pow (a := x) (b := 16384) (n := 14)
    simpa using this
  rw [Nat.and_one_is_mod] at e1
  split <;> omega
theorem xor_quarter (x : Nat) (h : x < 65536) : ((x ^^^ 16384 : Nat) : Int) = turnN x := by
  have e1 : (x ^^^ 16384) / 16384 = x / 16384 ^^^ 1 := by
    have := Nat.xor_div_two_pow (a := x) (b := 16384) (n := 14)
    simpa using this
  have e2 : (x ^^^ 16384) % 16384 = x % 16384 := by
    have := Nat.xor_mod_two_pow (a := x) (b := 16384) (n := 14)
    simpa using this
  have e3 : ∀ q, q < 4 → q ^^^ 1 = if q % 2 = 1 then q - 1 else q + 1 := by decide
  rw [e3 _ (by omega)] at e1
  unfold turnN
  split at e1 <;> split <;> omega
theorem and_mod (x : Nat) : x &&& 65535 = x % 65536 := Nat.and_two_pow_sub_one_eq_mod x 16

theorem i64_and {a : Int} {y : Nat} (h0 : 0 ≤ a) (h1 : a < 65536) (hy : y < 65536) : IntKind.wrap .i64 ((BitVec.ofInt IntKind.i64.bits a &&& BitVec.ofInt IntKind.i64.bits (y : Int)).toNat : Nat) = ((a.toNat &&& y : Nat) : Int) := by
  obtain ⟨x, rfl, hx⟩ := u16 h0 h1
  show IntKind.wrap .i64 ((BitVec.ofInt 64 (x : Int) &&& BitVec.ofInt 64 (y : Int)).toNat : Nat) = _
  rw [BitVec.toNat_and, bv_nat x hx, bv_nat y hy, Int.toNat_natCast]
  have := Nat.and_le_left (n := x) (m := y)
  exact wrap_id (by omega) (by omega)
theorem i64_xor {a b : Int} (h0 : 0 ≤ a) (h1 : a < 65536) (h2 : 0 ≤ b) (h3 : b < 65536) : IntKind.wrap .i64 ((BitVec.ofInt IntKind.i64.bits a ^^^ BitVec.ofInt IntKind.i64.bits b).toNat : Nat) = ((a.toNat ^^^ b.toNat : Nat) : Int) ∧ a.toNat ^^^ b.toNat < 65536 := by
  obtain ⟨x, rfl, hx⟩ := u16 h0 h1
  obtain ⟨y, rfl, hy⟩ := u16 h2 h3
  have hlt : x ^^^ y < 65536 := Nat.xor_lt_two_pow (n := 16) hx hy
  refine ⟨?_, by simpa using hlt⟩
  show IntKind.wrap .i64 ((BitVec.ofInt 64 (x : Int) ^^^ BitVec.ofInt 64 (y : Int)).toNat : Nat) = _
  rw [BitVec.toNat_xor, bv_nat x hx, bv_nat y hy, Int.toNat_natCast, Int.toNat_natCast]
  exact wrap_id (by omega) (by omega)

/-- Is the middle within? As it is asked for. -/
theorem strad_eq {low size : Int} (h0 : 0 ≤ low) (h1 : 1 ≤ size) (h2 : low + size ≤ 65536) :
    (IntKind.wrap .i64 ((BitVec.ofInt IntKind.i64.bits (IntKind.wrap .i64 ((BitVec.ofInt IntKind.i64.bits low ^^^ BitVec.ofInt IntKind.i64.bits (low + size - 1)).toNat : Nat)) &&& BitVec.ofInt IntKind.i64.bits 32768).toNat : Nat) != 0) = strad low size := by
  obtain ⟨e1, e2⟩ := i64_xor (a := low) (b := low + size - 1) h0 (by omega) (by omega) (by omega)
  rw [e1]
  have e3 := i64_and (a := ((low.toNat ^^^ (low + size - 1).toNat : Nat) : Int)) (y := 32768) (by omega) (by omega) (by omega)
  rw [show ((32768 : Int)) = ((32768 : Nat) : Int) from rfl, e3, Int.toNat_natCast, and_half]
  have e4 : ∀ x y : Nat, (x ^^^ y) / 32768 = x / 32768 ^^^ y / 32768 := fun x y => by
    have := Nat.xor_div_two_pow (a := x) (b := y) (n := 15)
    simpa using this
  have e5 : ∀ x, x < 2 → ∀ y, y < 2 → ((x ^^^ y) % 2 = 1 ↔ x ≠ y) := by decide
  have a1 : low.toNat / 32768 < 2 := by omega
  have a2 : (low + size - 1).toNat / 32768 < 2 := by omega
  unfold strad
  rw [e4]
  by_cases h : low.toNat / 32768 = (low + size - 1).toNat / 32768
  · rw [if_neg (by rw [e5 _ a1 _ a2]; omega), Bool.eq_iff_iff]; simp; omega
  · rw [if_pos (by rw [e5 _ a1 _ a2]; omega), Bool.eq_iff_iff]; simp; omega

theorem topB_eq {v : Int} (h0 : 0 ≤ v) (h1 : v < 65536) : (IntKind.wrap .i64 ((BitVec.ofInt IntKind.i64.bits v &&& BitVec.ofInt IntKind.i64.bits 32768).toNat : Nat) != 0) = topB v := by
  rw [show ((32768 : Int)) = ((32768 : Nat) : Int) from rfl, i64_and h0 h1 (by omega), and_half]
  unfold topB
  split <;> rw [Bool.eq_iff_iff] <;> simp <;> omega
def midB (v : Int) : Bool := decide (v / 16384 % 2 = 1)
theorem midB_eq {v : Int} (h0 : 0 ≤ v) (h1 : v < 65536) : (IntKind.wrap .i64 ((BitVec.ofInt IntKind.i64.bits v &&& BitVec.ofInt IntKind.i64.bits 16384).toNat : Nat) != 0) = midB v := by
  rw [show ((16384 : Int)) = ((16384 : Nat) : Int) from rfl, i64_and h0 h1 (by omega), and_quarter]
  unfold midB
  split <;> rw [Bool.eq_iff_iff] <;> simp <;> omega
theorem turn_eq {v : Int} (h0 : 0 ≤ v) (h1 : v < 65536) : IntKind.wrap .i64 ((BitVec.ofInt IntKind.i64.bits v ^^^ BitVec.ofInt IntKind.i64.bits 16384).toNat : Nat) = turnN v := by
  rw [(i64_xor (b := 16384) h0 h1 (by omega) (by omega)).1]
  obtain ⟨x, rfl, hx⟩ := u16 h0 h1
  exact xor_quarter x hx
theorem dbl_eq {v : Int} (h0 : 0 ≤ v) (h1 : v < 65536) : IntKind.wrap .i64 ((BitVec.ofInt IntKind.i64.bits (IntKind.wrap .i64 (v * 2 ^ min (Int.toNat 1) IntKind.i64.bits)) &&& BitVec.ofInt IntKind.i64.bits 65535).toNat : Nat) = 2 * v % 65536 := by
  obtain ⟨x, rfl, hx⟩ := u16 h0 h1
  have e0 : ((x : Int) * 2 ^ min (Int.toNat 1) IntKind.i64.bits) = ((2 * x : Nat) : Int) := by
    show (x : Int) * 2 = _
    omega
  rw [e0, wrap_id (n := ((2 * x : Nat) : Int)) (by omega) (by omega)]
  show IntKind.wrap .i64 ((BitVec.ofInt 64 ((2 * x : Nat) : Int) &&& BitVec.ofInt 64 65535).toNat : Nat) = _
  rw [BitVec.toNat_and, BitVec.ofInt_natCast, BitVec.toNat_ofNat, Nat.mod_eq_of_lt (by omega), show (BitVec.ofInt 64 65535).toNat = 65535 from rfl, and_mod, wrap_id (by omega) (by omega)]
  omega
theorem shl1_eq {v : Int} (h0 : 0 ≤ v) (h1 : v ≤ 65536) : IntKind.wrap .i64 (v * 2 ^ min (Int.toNat 1) IntKind.i64.bits) = 2 * v := by
  show IntKind.wrap .i64 (v * 2) = _
  rw [wrap_id (by omega) (by omega)]; omega

end Go.Proofs.TrydN

