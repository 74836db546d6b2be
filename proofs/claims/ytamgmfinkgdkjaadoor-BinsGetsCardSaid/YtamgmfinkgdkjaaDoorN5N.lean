/- Layer 5: what is put is told: the plain law. -/
import Derived.Test.YtamgmfinkgdkjaaDoorN5L
namespace Go.Proofs.TrydN
open Go Go.AL Go.Proofs

/-- A number of bits. -/
def num : List Bool → Int
  | [] => 0
  | b :: l => b2i b * 2 ^ l.length + num l

theorem num_app (l m : List Bool) : num (l ++ m) = num l * 2 ^ m.length + num m := by
  induction l with
  | nil => simp [num]
  | cons b l ih => simp only [List.cons_append, num, List.length_append, ih, Int.pow_add, Int.add_mul, Int.mul_assoc]; omega

/-- The first bits of a stream, as a number. -/
def vX (X : Nat → Bool) : Nat → Int
  | 0 => 0
  | k + 1 => 2 * vX X k + b2i (X k)

theorem valN_vX (bs : List Int) (k : Nat) : valN bs 0 k = vX (rdB bs) k := by
  induction k with
  | zero => rfl
  | succ k ih => rw [valN, vX, ih, Nat.zero_add]

theorem vX_ext {X Y : Nat → Bool} (h : ∀ i, X i = Y i) (k : Nat) : vX X k = vX Y k := by
  induction k with
  | zero => rfl
  | succ k ih => rw [vX, vX, ih, h]

theorem vX_num (l : List Bool) : vX (bitAt l) l.length = num l := by
  have key : ∀ k, k ≤ l.length → vX (bitAt l) k = num (l.take k) := by
    intro k
    induction k with
    | zero => intro _; simp [vX, num]
    | succ k ih =>
      intro hk
      rw [vX, ih (by omega), List.take_succ_eq_append_getElem (by omega), num_app]
      have : bitAt l k = l[k] := by simp [bitAt, List.getD]; rw [List.getElem?_eq_getElem (by omega)]; rfl
      rw [this]
      simp [num]
      omega
  rw [key _ (Nat.le_refl _), List.take_length]

theorem vX_zeros (l : List Bool) (k : Nat) : vX (bitAt l) (l.length + k) = num l * 2 ^ k := by
  induction k with
  | zero => rw [Nat.add_zero, vX_num]; simp
  | succ k ih =>
    have : num l * (2 ^ k * 2) = 2 * (num l * 2 ^ k) := by rw [← Int.mul_assoc, Int.mul_comm]
    rw [← Nat.add_assoc, vX, ih, bitAt_out (by omega), Int.pow_succ, b2i]
    omega

/-- How many bits are told, or owed. -/
def Enc.m (e : Enc) : Nat := e.bits.length + e.owed
/-- The low end, as a whole number. -/
def Enc.A (e : Enc) : Int := num e.bits * 2 ^ e.owed * 65536 + (2 ^ e.owed - 1) * 32768 + e.low

theorem num_owes (b : Bool) (k : Nat) : num (owes b k) = 2 ^ k - 1 + b2i b := by
  have rep : ∀ c : Bool, num (List.replicate k c) = b2i c * (2 ^ k - 1) := by
    intro c
    induction k with
    | zero => simp [num]
    | succ k ih => rw [List.replicate_succ, num, ih, List.length_replicate, Int.pow_succ]; cases c <;> simp [b2i]; omega
  rw [owes, num, rep, List.length_replicate]
  cases b <;> simp [b2i] <;> omega

theorem shift_A {e : Enc} (h : okS e.p e.low e.size) (hs : e.size ≤ 16384) : e.shift.A = 2 * e.A ∧ e.shift.m = e.m + 1 ∧ e.shift.size = 2 * e.size ∧ e.shift.low = lowS e.low e.size ∧ e.shift.p = e.p ∧ e.shift.n = e.n := by
  obtain ⟨hp, h0, h1, h2⟩ := h
  cases hst : strad e.low e.size
  · rw [shift_f hst]
    refine ⟨?_, by simp [Enc.m, owes_len]; omega, rfl, rfl, rfl, rfl⟩
    have hl : lowS e.low e.size = 2 * e.low - b2i (topB e.low) * 65536 := by
      have h := of_decide_eq_false hst
      unfold lowS topB
      rw [hst]
      by_cases ht : e.low / 32768 % 2 = 1
      · rw [decide_eq_true ht]; simp only [b2i]; omega
      · rw [decide_eq_false ht]; simp only [b2i]; omega
    simp only [Enc.A, num_app, num_owes, owes_len, hl, Int.pow_succ, Int.pow_zero]
    rw [← Int.mul_assoc]
    generalize num e.bits * 2 ^ e.owed = Q
    generalize (2 : Int) ^ e.owed = R
    omega
  · rw [shift_t hst]
    refine ⟨?_, by simp [Enc.m]; omega, rfl, rfl, rfl, rfl⟩
    have hl : lowS e.low e.size = 2 * e.low - 32768 := by
      have h := of_decide_eq_true hst
      unfold lowS turnN
      rw [hst]
      have a : e.low / 32768 = 0 := by omega
      have c : (e.low + e.size - 1) / 32768 = 1 := by omega
      simp only
      rw [if_pos (show e.low / 16384 % 2 = 1 by omega)]
      omega
    simp only [Enc.A, hl, Int.pow_succ]
    rw [← Int.mul_assoc]
    generalize num e.bits * 2 ^ e.owed = Q
    generalize (2 : Int) ^ e.owed = R
    omega

/-- A stream that an encoder's state lets in. -/
def Enc.fits (e : Enc) (X : Nat → Bool) : Prop := e.A ≤ vX X (e.m + 16) ∧ vX X (e.m + 16) < e.A + e.size

theorem b2i_in (b : Bool) : 0 ≤ b2i b ∧ b2i b ≤ 1 := by cases b <;> simp [b2i]

/-- The decoder goes as the encoder went. -/
structure Mir (X : Nat → Bool) (e : Enc) (d : Dec) : Prop where
  p : d.p = e.p
  n : d.n = e.n
  low : d.low = e.low
  size : d.size = e.size
  src : ∀ i, rdB d.src i = X i
  pos : d.pos = 16 + e.m
  code : d.code - d.low = vX X (e.m + 16) - e.A

theorem mir_shift {X : Nat → Bool} {e : Enc} {d : Dec} (h : okS e.p e.low e.size) (hs : e.size ≤ 16384) (M : Mir X e d) (hf : e.shift.fits X) : e.fits X ∧ Mir X e.shift d.shift := by
  obtain ⟨a1, a2, a3, a4, a5, a6⟩ := shift_A h hs
  obtain ⟨hp, h0, h1, h2⟩ := h
  obtain ⟨m1, m2, m3, m4, m5, m6, m7⟩ := M
  obtain ⟨f1, f2⟩ := hf
  rw [a1, a2, show e.m + 1 + 16 = e.m + 16 + 1 by omega, vX] at f1
  rw [a1, a2, a3, show e.m + 1 + 16 = e.m + 16 + 1 by omega, vX] at f2
  have hb := b2i_in (X (e.m + 16))
  refine ⟨⟨by omega, by omega⟩, ⟨by rw [a5]; exact m1, by rw [a6]; exact m2, ?_, ?_, m5, ?_, ?_⟩⟩
  · rw [a4]; show lowS d.low d.size = _; rw [m3, m4]
  · rw [a3]; show 2 * d.size = _; rw [m4]
  · rw [a2]; show d.pos + 1 = _; rw [m6]; omega
  · have cs := code_shift (low := d.low) (size := d.size) (code := d.code) (by omega) (by omega) (by omega) (by omega) (by omega) (rdB d.src d.pos)
    show codeS d.low d.size d.code + b2i (rdB d.src d.pos) - lowS d.low d.size = _
    rw [cs, a1, a2, show e.m + 1 + 16 = e.m + 16 + 1 by omega, vX, m5, m6, show 16 + e.m = e.m + 16 by omega]
    omega

theorem fits_norm {X : Nat → Bool} : ∀ (k : Nat) {e : Enc}, okS e.p e.low e.size → (e.norm k).fits X → e.fits X
  | 0, e, _, hf => hf
  | k + 1, e, h, hf => by
    by_cases hs : e.size ≤ 16384
    · rw [norm_step hs] at hf
      have a := shift_A h hs
      have hf2 := fits_norm k (e := e.shift) (by rw [a.2.2.2.2.1, a.2.2.2.1, a.2.2.1]; exact h.shift hs) hf
      obtain ⟨f1, f2⟩ := hf2
      rw [a.1, a.2.1, show e.m + 1 + 16 = e.m + 16 + 1 by omega, vX] at f1
      rw [a.1, a.2.1, a.2.2.1, show e.m + 1 + 16 = e.m + 16 + 1 by omega, vX] at f2
      have hb := b2i_in (X (e.m + 16))
      exact ⟨by omega, by omega⟩
    · rw [norm_done hs] at hf; exact hf

theorem mir_norm {X : Nat → Bool} : ∀ (k : Nat) {e : Enc} {d : Dec}, okS e.p e.low e.size → Mir X e d → (e.norm k).fits X → Mir X (e.norm k) (d.norm k)
  | 0, e, d, _, M, _ => M
  | k + 1, e, d, h, M, hf => by
    by_cases hs : e.size ≤ 16384
    · have hd : d.size ≤ 16384 := by rw [M.size]; exact hs
      rw [norm_step hs] at hf ⊢
      rw [Dec.norm_step hd]
      have a := shift_A h hs
      have h' : okS e.shift.p e.shift.low e.shift.size := by rw [a.2.2.2.2.1, a.2.2.2.1, a.2.2.1]; exact h.shift hs
      exact mir_norm k h' (mir_shift h hs M (fits_norm k h' hf)).2 hf
    · have hd : ¬d.size ≤ 16384 := by rw [M.size]; exact hs
      rw [norm_done hs, Dec.norm_done hd]; exact M

theorem mir_put {X : Nat → Bool} {e : Enc} {d : Dec} (h : okE e) (M : Mir X e d) {c : Int} (hc : hasC e.p c = true) {b : Bool} (hf : (e.put c b).fits X) : e.fits X ∧ d.told c = b ∧ Mir X (e.put c b) (d.get c) := by
  have hS := h.s
  have hq := hS.chance hc
  have kp := partN_in h.big (by have := hS.top; have := hS.l0; omega) hq
  have hS2 := hS.take h.big hc b
  have hput : e.put c b = (e.take c b).norm 16 := by unfold Enc.put; rw [hc]
  rw [hput] at hf ⊢
  have ft := fits_norm 16 hS2 hf
  have hcd : hasC d.p c = true := by rw [M.p]; exact hc
  have hbit : d.bit c = b ∧ e.fits X := by
    obtain ⟨f1, f2⟩ := ft
    have m7 := M.code
    unfold Dec.bit
    rw [M.size, M.p]
    cases b
    · simp only [Enc.take, Enc.A, Enc.m, lowT, sizeT] at f1 f2
      simp only [Enc.fits, Enc.A, Enc.m] at m7 ⊢
      exact ⟨decide_eq_false (by omega), by omega, by omega⟩
    · simp only [Enc.take, Enc.A, Enc.m, lowT, sizeT] at f1 f2
      simp only [Enc.fits, Enc.A, Enc.m] at m7 ⊢
      exact ⟨decide_eq_true (by omega), by omega, by omega⟩
  refine ⟨hbit.2, by unfold Dec.told; rw [hcd]; exact hbit.1, ?_⟩
  have hget : d.get c = (d.take c b).norm 16 := by unfold Dec.get; rw [hcd, hbit.1]
  rw [hget]
  refine mir_norm 16 hS2 ?_ hf
  obtain ⟨m1, m2, m3, m4, m5, m6, m7⟩ := M
  refine ⟨by simp only [Dec.take, Enc.take]; rw [m1], by simp only [Dec.take, Enc.take]; rw [m2], by simp only [Dec.take, Enc.take]; rw [m1, m3, m4], by simp only [Dec.take, Enc.take]; rw [m1, m4], m5, m6, ?_⟩
  simp only [Dec.take, Enc.take, Enc.A, Enc.m] at *
  rw [m1, m3, m4]
  cases b <;> simp only [lowT] <;> omega

end Go.Proofs.TrydN

