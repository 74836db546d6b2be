/- Layer 1: the reader of bits: the walk. -/
import Derived.Test.YtamgmfinkgdkjaaDoorN5H
namespace Go.Proofs.TrydN
open Go Go.AL Go.Proofs

/-- The bit that is read. -/
def rdB (bs : List Int) (i : Nat) : Bool := decide (bs.getD (i / 8) 0 / 2 ^ (7 - i % 8) % 2 = 1)
def over1 (bs : List Int) (i : Nat) : Nat := if 8 * bs.length ≤ i then 1 else 0
def b2i (b : Bool) : Int := match b with | true => 1 | false => 0
def valN (bs : List Int) (pos : Nat) : Nat → Int
  | 0 => 0
  | k + 1 => 2 * valN bs pos k + b2i (rdB bs (pos + k))
def overN (bs : List Int) (pos : Nat) : Nat → Nat
  | 0 => 0
  | k + 1 => overN bs pos k + over1 bs (pos + k)
def okB (bs : List Int) : Prop := ∀ x ∈ bs, 0 ≤ x ∧ x < 256
abbrev rB (bs : List Int) (pos over : Nat) : Option ABlk := some (.box [.ri .u8 bs, iv pos, iv over])

theorem rd_fin : ∀ v : Fin 256, ∀ j : Fin 8, (IntKind.wrap .u8 ((BitVec.ofInt IntKind.u8.bits (IntKind.wrap .u8 (((v : Nat) : Int) * 2 ^ min (((j : Nat) : Int)).toNat IntKind.u8.bits)) &&& BitVec.ofInt IntKind.u8.bits 128).toNat : Nat) != 0) = decide (((v : Nat) : Int) / 2 ^ (7 - (j : Nat)) % 2 = 1) := by decide +kernel
theorem rd_eq {bs : List Int} (h : okB bs) {i : Nat} (hi : i < 8 * bs.length) : (IntKind.wrap .u8 ((BitVec.ofInt IntKind.u8.bits (IntKind.wrap .u8 (bs.getD (i / 8) 0 * 2 ^ min (((i % 8 : Nat) : Int)).toNat IntKind.u8.bits)) &&& BitVec.ofInt IntKind.u8.bits 128).toNat : Nat) != 0) = rdB bs i := by
  have hm : bs.getD (i / 8) 0 ∈ bs := by
    rw [List.getD, List.getElem?_eq_getElem (show i / 8 < bs.length by omega)]
    exact List.getElem_mem _
  obtain ⟨h0, h1⟩ := h _ hm
  unfold rdB
  generalize bs.getD (i / 8) 0 = v at *
  obtain ⟨V, rfl⟩ : ∃ V : Nat, v = V := ⟨v.toNat, by omega⟩
  exact rd_fin ⟨V, by omega⟩ ⟨i % 8, by omega⟩
theorem rd_out {bs : List Int} {i : Nat} (hi : 8 * bs.length ≤ i) : rdB bs i = false := by
  unfold rdB
  rw [List.getD, List.getElem?_eq_none (by omega)]
  simp

theorem rbit_spec {bs : List Int} (h : okB bs) (hb : bs.length < 4294967296) {pos over : Nat} (hp : pos < 4294967296) (ho : over < 4294967296) : CallsF Tryd.prog 87 [.bp 0 0] [rB bs pos over] (.bool (rdB bs pos)) [rB bs (pos + 1) (over + over1 bs pos)] := by
  refine e87 ?_
  conv => whnf
  rw [inc_nat (by omega), wrap_id (n := 8 * (bs.length : Int)) (by omega) (by omega)]
  refine ifB_of (fun hd => ?_) (fun hd => ?_)
  · have hd := of_decide_eq_true hd
    conv => whnf
    rw [inc_nat (by omega)]
    rw [rd_out (by omega), show over1 bs pos = 1 from if_pos (by omega)]
    exact ⟨[], [], rfl, rfl, rfl⟩
  · have hd := of_decide_eq_false hd
    have h8 : 0 + ((pos / 8 : Nat) : Int).toNat = pos / 8 := by rw [Int.toNat_natCast, Nat.zero_add]
    conv => whnf
    rw [div8 (by omega)]
    conv => whnf
    refine need_of ((decide_eq_true ⟨by omega, by omega⟩)) ?_
    conv => whnf
    rw [show over1 bs pos = 0 from if_neg (by omega), ← rd_eq h (by omega)]
    exact ⟨[], [], rfl, rfl, rfl⟩

theorem valN_in (bs : List Int) (pos k : Nat) : 0 ≤ valN bs pos k ∧ valN bs pos k < 2 ^ k := by
  induction k with
  | zero => simp [valN]
  | succ k ih =>
    have : b2i (rdB bs (pos + k)) = 0 ∨ b2i (rdB bs (pos + k)) = 1 := by cases rdB bs (pos + k) <;> simp [b2i]
    rw [valN, Int.pow_succ]
    omega
theorem overN_le (bs : List Int) (pos k : Nat) : overN bs pos k ≤ k := by
  induction k with
  | zero => exact Nat.le_refl _
  | succ k ih => rw [overN]; unfold over1; split <;> omega

theorem or_one {v : Int} (h0 : 0 ≤ v) (h1 : v < 4294967296) : IntKind.wrap .u64 ((BitVec.ofInt IntKind.u64.bits (2 * v) ||| BitVec.ofInt IntKind.u64.bits 1).toNat : Nat) = 2 * v + 1 := by
  obtain ⟨x, rfl⟩ : ∃ x : Nat, v = x := ⟨v.toNat, by omega⟩
  have e : (BitVec.ofInt IntKind.u64.bits (2 * (x : Int)) ||| BitVec.ofInt IntKind.u64.bits 1).toNat = 2 * x + 1 := by
    show (BitVec.ofInt 64 (2 * (x : Int)) ||| BitVec.ofInt 64 1).toNat = 2 * x + 1
    rw [show (2 * (x : Int)) = ((2 * x : Nat) : Int) by omega, BitVec.toNat_or, BitVec.ofInt_natCast, BitVec.toNat_ofNat, Nat.mod_eq_of_lt (by omega), show (BitVec.ofInt 64 1).toNat = 1 from rfl]
    exact (Nat.two_pow_add_eq_or_of_lt (i := 1) (b := 1) (by omega) x).symm
  rw [e, wrap_u64 (by omega) (by omega)]
  omega

theorem rget_spec {bs : List Int} (h : okB bs) (hb : bs.length < 4294967296) {pos over n : Nat} (hn : n ≤ 16) (hp : pos < 4294960000) (ho : over < 4294960000) : CallsF Tryd.prog 62 [.bp 0 0, iv n] [rB bs pos over] (.int .u64 (valN bs pos n)) [rB bs (pos + n) (over + overN bs pos n)] := by
  refine e62 ?_
  conv => whnf
  refine CallsF.call [] [] (bclamp_spec (n := n) (by omega)) rfl rfl rfl rfl rfl (.inl rfl) ?_
  conv => whnf
  refine LoopA.inv (fun k st => ∃ i : Nat, i + k = n ∧ st = ⟨[(0, .bp 0 0), (5, .int .u64 (valN bs pos i)), (7, iv n), (8, iv i)], [rB bs (pos + i) (over + overN bs pos i)], 1, 1⟩) n [0, 5, 7, 8] [] [] (by rfl) ?_ ?_
  · conv => whnf
    exact ⟨0, by omega, rfl⟩
  rintro k st ⟨i, hi, rfl⟩
  have hv := valN_in bs pos i
  have ho2 := overN_le bs pos i
  have hv2 : (2 : Int) ^ i ≤ 65536 := by
    have t : (2 : Nat) ^ i ≤ 65536 := Nat.pow_le_pow_right (n := 2) (by omega) (show i ≤ 16 by omega)
    rw [show (2 : Int) ^ i = ((2 ^ i : Nat) : Int) from (Int.natCast_pow 2 i).symm]
    omega
  conv => whnf
  refine ifB_of (fun hd => ?_) (fun hd => ?_)
  · have hd := of_decide_eq_true hd
    have e2 : IntKind.wrap .u64 (valN bs pos i * 2 ^ min (Int.toNat 1) IntKind.u64.bits) = 2 * valN bs pos i := by
      show IntKind.wrap .u64 (valN bs pos i * 2) = _
      rw [wrap_u64 (by omega) (by omega)]; omega
    conv => whnf
    rw [e2]
    refine CallsF.call [0] [] (rbit_spec h hb (pos := pos + i) (over := over + overN bs pos i) (by omega) (by omega)) rfl rfl rfl rfl rfl (.inl rfl) ?_
    conv => whnf
    cases hr : rdB bs (pos + i)
    · conv => whnf
      rw [inc_nat (by omega)]
      refine ⟨(n - (i + 1)), [0, 5, 7, 8], [], [], by omega, rfl, ?_⟩
      conv => whnf
      refine ⟨i + 1, by omega, ?_⟩
      rw [valN, overN, hr, b2i, Int.add_zero, ← Nat.add_assoc over]
      rfl
    · conv => whnf
      rw [inc_nat (by omega), or_one hv.1 (by omega)]
      refine ⟨(n - (i + 1)), [0, 5, 7, 8], [], [], by omega, rfl, ?_⟩
      conv => whnf
      refine ⟨i + 1, by omega, ?_⟩
      rw [valN, overN, hr, b2i, ← Nat.add_assoc over]
      rfl
  · have hd := of_decide_eq_false hd
    obtain rfl : i = n := by omega
    conv => whnf
    exact ⟨[], [], rfl, rfl, rfl⟩

end Go.Proofs.TrydN

