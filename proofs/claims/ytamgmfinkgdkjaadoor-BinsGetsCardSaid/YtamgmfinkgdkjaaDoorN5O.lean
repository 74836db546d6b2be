/- Layer 5: bytes of bits, read again; what stays true of an encoder and of a decoder. -/
import Derived.Test.YtamgmfinkgdkjaaDoorN5N
namespace Go.Proofs.TrydN
open Go Go.AL Go.Proofs

theorem top_mid {v : Int} (h0 : 0 ≤ v) (h1 : v < 49152) : upN v = b2i (topB (upN v)) * 32768 + b2i (midB (upN v)) * 16384 := by
  have hu := upN_in h0 h1
  have hm : upN v % 16384 = 0 := by unfold upN; omega
  generalize upN v = u at *
  unfold topB midB
  by_cases a : u / 32768 % 2 = 1 <;> by_cases b : u / 16384 % 2 = 1 <;> simp only [a, b, decide_true, decide_false, b2i] <;> omega

theorem all_len (e : Enc) : e.all.length = e.m + 2 := by simp [Enc.all, owes_len, Enc.m]; omega

theorem fits_all {e : Enc} (h : okE e) : e.fits (bitAt e.all) := by
  have h0 := h.s.l0
  have h1 := h.s.top
  have h2 := h.big
  have hu := upN_in h0 (by omega)
  have hv := top_mid h0 (by omega)
  unfold Enc.fits
  rw [show e.m + 16 = e.all.length + 14 by rw [all_len], vX_zeros]
  have hn : num e.all = (num e.bits * 2 ^ e.owed * 2 + (2 ^ e.owed - 1 + b2i (topB (upN e.low)))) * 2 + b2i (midB (upN e.low)) := by
    simp only [Enc.all, num_app, num_owes, owes_len, Int.pow_succ]
    rw [← Int.mul_assoc]
    simp [num]
  rw [hn]
  unfold Enc.A
  generalize num e.bits * 2 ^ e.owed = Q
  generalize (2 : Int) ^ e.owed = R
  generalize b2i (topB (upN e.low)) = T at *
  generalize b2i (midB (upN e.low)) = M at *
  omega

/-! Bytes and bits. -/

theorem trimL_zero (xs : List Int) : ∀ (n i : Nat), trimL xs n ≤ i → i < n → xs.getD i 0 = 0
  | 0, i, _, h => by omega
  | n + 1, i, h1, h2 => by
    rw [trimL] at h1
    split at h1
    · rename_i hz
      by_cases hi : i = n
      · subst hi; exact hz
      · exact trimL_zero xs n i h1 (by omega)
    · omega
theorem trim_getD (xs : List Int) (i : Nat) : (trim xs).getD i 0 = xs.getD i 0 := by
  unfold trim
  by_cases h : i < trimL xs xs.length
  · rw [List.getD, List.getElem?_take, if_pos h]; rfl
  · rw [List.getD, List.getElem?_take, if_neg h]
    by_cases hi : i < xs.length
    · rw [trimL_zero xs xs.length i (by omega) hi]; rfl
    · rw [List.getD, List.getElem?_eq_none (by omega)]
theorem rd_byte (g : Nat → Bool) (q j : Nat) (hj : j < 8) : decide (byteAt g q / 2 ^ (7 - j) % 2 = 1) = g (8 * q + j) := by
  have key : ∀ b0 b1 b2 b3 b4 b5 b6 b7 : Bool, (decide (byteOf b0 b1 b2 b3 b4 b5 b6 b7 / 128 % 2 = 1) = b0 ∧ decide (byteOf b0 b1 b2 b3 b4 b5 b6 b7 / 64 % 2 = 1) = b1) ∧ (decide (byteOf b0 b1 b2 b3 b4 b5 b6 b7 / 32 % 2 = 1) = b2 ∧ decide (byteOf b0 b1 b2 b3 b4 b5 b6 b7 / 16 % 2 = 1) = b3) ∧ (decide (byteOf b0 b1 b2 b3 b4 b5 b6 b7 / 8 % 2 = 1) = b4 ∧ decide (byteOf b0 b1 b2 b3 b4 b5 b6 b7 / 4 % 2 = 1) = b5) ∧ (decide (byteOf b0 b1 b2 b3 b4 b5 b6 b7 / 2 % 2 = 1) = b6 ∧ decide (byteOf b0 b1 b2 b3 b4 b5 b6 b7 / 1 % 2 = 1) = b7) := by decide
  obtain ⟨⟨k0, k1⟩, ⟨k2, k3⟩, ⟨k4, k5⟩, k6, k7⟩ := key (g (8 * q)) (g (8 * q + 1)) (g (8 * q + 2)) (g (8 * q + 3)) (g (8 * q + 4)) (g (8 * q + 5)) (g (8 * q + 6)) (g (8 * q + 7))
  have hm : j = 0 ∨ j = 1 ∨ j = 2 ∨ j = 3 ∨ j = 4 ∨ j = 5 ∨ j = 6 ∨ j = 7 := by omega
  rcases hm with rfl | rfl | rfl | rfl | rfl | rfl | rfl | rfl
  · exact k0
  · exact k1
  · exact k2
  · exact k3
  · exact k4
  · exact k5
  · exact k6
  · exact k7
theorem rd_pack (l : List Bool) (i : Nat) : rdB (pack l) i = bitAt l i := by
  by_cases hi : i < 8 * (pack l).length
  · unfold rdB
    rw [List.getD, pack_get (by rw [pack_len] at hi; omega)]
    show decide (byteAt (bitAt l) (i / 8) / 2 ^ (7 - i % 8) % 2 = 1) = _
    rw [rd_byte _ _ _ (by omega), show 8 * (i / 8) + i % 8 = i by omega]
  · rw [rd_out (by omega), bitAt_out (by rw [pack_len] at hi; omega)]
theorem rd_trim (l : List Bool) (i : Nat) : rdB (trim (pack l)) i = bitAt l i := by
  rw [← rd_pack]; unfold rdB; rw [trim_getD]
theorem okB_pack (l : List Bool) : okB (pack l) := by
  intro x hx
  unfold pack at hx
  rw [List.mem_map] at hx
  obtain ⟨i, _, rfl⟩ := hx
  have := byte_in (bitAt l) i
  omega
theorem okB_trim {xs : List Int} (h : okB xs) : okB (trim xs) := fun x hx => h x (List.mem_of_mem_take hx)
theorem trim_len (xs : List Int) : (trim xs).length ≤ xs.length := by unfold trim; simp; omega

/-! What stays true. -/

theorem normE_keep : ∀ (k : Nat) {e : Enc}, okS e.p e.low e.size → okS (e.norm k).p (e.norm k).low (e.norm k).size ∧ (e.norm k).p = e.p ∧ (e.norm k).n = e.n ∧ (e.norm k).m ≤ e.m + k ∧ (16384 < e.size * 2 ^ k → 16384 < (e.norm k).size)
  | 0, e, h => ⟨h, rfl, rfl, Nat.le_refl _, fun hh => by show 16384 < e.size; simpa using hh⟩
  | k + 1, e, h => by
    by_cases hs : e.size ≤ 16384
    · obtain ⟨a1, a2, a3, a4, a5, a6⟩ := shift_A h hs
      have h' : okS e.shift.p e.shift.low e.shift.size := by rw [a5, a4, a3]; exact h.shift hs
      obtain ⟨b1, b2, b3, b4, b5⟩ := normE_keep k h'
      rw [norm_step hs]
      refine ⟨b1, by rw [b2, a5], by rw [b3, a6], by rw [a2] at b4; omega, fun hh => b5 ?_⟩
      rw [a3]
      rw [Int.pow_succ] at hh
      have : e.size * (2 ^ k * 2) = 2 * e.size * 2 ^ k := by rw [← Int.mul_assoc, Int.mul_comm (e.size * 2 ^ k) 2, Int.mul_assoc]
      omega
    · rw [norm_done hs]
      exact ⟨h, rfl, rfl, by omega, fun _ => by omega⟩

theorem put_keep {e : Enc} (h : okE e) (hn : e.n + 1 < 67108864) (c : Int) (b : Bool) : okE (e.put c b) ∧ (e.put c b).p.length = e.p.length ∧ (e.put c b).n = e.n + (if hasC e.p c = true then 1 else 0) := by
  unfold Enc.put
  cases hc : hasC e.p c
  · exact ⟨h, rfl, rfl⟩
  show okE ((e.take c b).norm 16) ∧ ((e.take c b).norm 16).p.length = e.p.length ∧ ((e.take c b).norm 16).n = e.n + (if true = true then 1 else 0)
  have hS2 := h.s.take h.big hc b
  have kk := normE_keep 16 (e := e.take c b) hS2
  obtain ⟨b1, b2, b3, b4, b5⟩ := kk
  have hl := h.len
  have hm : (e.take c b).m = e.bits.length + e.owed := rfl
  have hs1 := hS2.s0
  refine ⟨⟨b1, b5 (by show 16384 < (e.take c b).size * 65536; simp only [Enc.take]; omega), by rw [b3]; exact hn, ?_⟩, by rw [b2]; simp [Enc.take, learn_len], by rw [b3]; rfl⟩
  have : ((e.take c b).norm 16).bits.length + ((e.take c b).norm 16).owed ≤ (e.take c b).m + 16 := b4
  rw [b3]
  show _ ≤ 16 * (e.n + 1)
  omega

def Enc.new (c : Int) : Enc := ⟨freshP c, 0, 0, 65536, 0, []⟩
def Dec.new (bs : List Int) (c : Int) : Dec := ⟨freshP c, 0, 0, 65536, valN bs 0 16, bs, 16, overN bs 0 16⟩

theorem fresh_ok (c : Int) : ∀ q ∈ freshP c, okP q := by
  intro q hq
  unfold freshP at hq
  rw [List.mem_replicate] at hq
  rw [hq.2]; unfold okP; omega
theorem newE_ok (c : Int) : okE (Enc.new c) := ⟨⟨fresh_ok c, by simp [Enc.new], by simp [Enc.new], by simp [Enc.new]⟩, by simp [Enc.new], by simp [Enc.new], by simp [Enc.new]⟩
theorem newD_ok {bs : List Int} (h : okB bs) (hb : bs.length < 4294967290) (c : Int) : okD (Dec.new bs c) := by
  have hv := valN_in bs 0 16
  have ho := overN_le bs 0 16
  exact ⟨⟨fresh_ok c, by simp [Dec.new], by simp [Dec.new], by simp [Dec.new]⟩, by simp [Dec.new], by simp [Dec.new], by simp only [Dec.new]; omega, by simp only [Dec.new]; omega, h, hb, by simp [Dec.new], by simp only [Dec.new]; omega⟩
theorem new_mir {bs : List Int} {X : Nat → Bool} (hX : ∀ i, rdB bs i = X i) (c : Int) : Mir X (Enc.new c) (Dec.new bs c) := by
  refine ⟨rfl, rfl, rfl, rfl, hX, rfl, ?_⟩
  show valN bs 0 16 - 0 = vX X 16 - (Enc.new c).A
  rw [valN_vX, vX_ext hX]
  simp [Enc.new, Enc.A, num]

theorem normD_keep : ∀ (k : Nat) {d : Dec}, okS d.p d.low d.size → d.low ≤ d.code → d.code < d.low + d.size →
    okS (d.norm k).p (d.norm k).low (d.norm k).size ∧ ((d.norm k).low ≤ (d.norm k).code ∧ (d.norm k).code < (d.norm k).low + (d.norm k).size) ∧ (d.norm k).p = d.p ∧ (d.norm k).n = d.n ∧ (d.norm k).src = d.src ∧ (d.norm k).pos ≤ d.pos + k ∧ (d.norm k).over ≤ d.over + k ∧ (16384 < d.size * 2 ^ k → 16384 < (d.norm k).size)
  | 0, d, h, c0, c1 => ⟨h, ⟨c0, c1⟩, rfl, rfl, rfl, Nat.le_refl _, Nat.le_refl _, fun hh => by show 16384 < d.size; simpa using hh⟩
  | k + 1, d, h, c0, c1 => by
    by_cases hs : d.size ≤ 16384
    · have cs := code_shift h.l0 h.top hs c0 c1 (rdB d.src d.pos)
      have hb := b2i_in (rdB d.src d.pos)
      have o1 : over1 d.src d.pos ≤ 1 := by unfold over1; split <;> omega
      obtain ⟨b1, b2, b3, b4, b5, b6, b7, b8⟩ := normD_keep k (d := d.shift) (h.shift hs) (by show lowS d.low d.size ≤ codeS d.low d.size d.code + b2i (rdB d.src d.pos); omega) (by show codeS d.low d.size d.code + b2i (rdB d.src d.pos) < lowS d.low d.size + 2 * d.size; omega)
      rw [Dec.norm_step hs]
      refine ⟨b1, b2, b3, b4, b5, ?_, ?_, fun hh => b8 ?_⟩
      · have : d.shift.pos = d.pos + 1 := rfl
        omega
      · have : d.shift.over = d.over + over1 d.src d.pos := rfl
        omega
      · show 16384 < 2 * d.size * 2 ^ k
        rw [Int.pow_succ] at hh
        have : d.size * (2 ^ k * 2) = 2 * d.size * 2 ^ k := by rw [← Int.mul_assoc, Int.mul_comm (d.size * 2 ^ k) 2, Int.mul_assoc]
        omega
    · rw [Dec.norm_done hs]
      exact ⟨h, ⟨c0, c1⟩, rfl, rfl, rfl, by omega, by omega, fun _ => by omega⟩

theorem get_keep {d : Dec} (h : okD d) (hn : d.n + 1 < 67108864) (c : Int) : okD (d.get c) ∧ (d.get c).p.length = d.p.length ∧ (d.get c).n = d.n + (if hasC d.p c = true then 1 else 0) := by
  unfold Dec.get
  cases hc : hasC d.p c
  · exact ⟨h, rfl, rfl⟩
  show okD ((d.take c (d.bit c)).norm 16) ∧ ((d.take c (d.bit c)).norm 16).p.length = d.p.length ∧ ((d.take c (d.bit c)).norm 16).n = d.n + (if true = true then 1 else 0)
  have hS2 := h.s.take h.big hc (d.bit c)
  have c0 := h.c0
  have c1 := h.c1
  have hcode : (d.take c (d.bit c)).low ≤ d.code ∧ d.code < (d.take c (d.bit c)).low + (d.take c (d.bit c)).size := by
    cases hbb : d.bit c
    · have := of_decide_eq_false hbb
      simp only [Dec.take, lowT, sizeT]; omega
    · have := of_decide_eq_true hbb
      simp only [Dec.take, lowT, sizeT]; omega
  obtain ⟨b1, b2, b3, b4, b5, b6, b7, b8⟩ := normD_keep 16 (d := d.take c (d.bit c)) hS2 hcode.1 hcode.2
  have hs1 := hS2.s0
  have hp := h.pos
  have ho := h.over
  have e1 : (d.take c (d.bit c)).pos = d.pos := rfl
  have e2 : (d.take c (d.bit c)).over = d.over := rfl
  have e3 : (d.take c (d.bit c)).n = d.n + 1 := rfl
  refine ⟨⟨b1, b8 (by show 16384 < (d.take c (d.bit c)).size * 65536; simp only [Dec.take]; omega), by rw [b4]; exact hn, b2.1, b2.2, by rw [b5]; exact h.src, by rw [b5]; exact h.len, by rw [b4]; omega, by rw [b4]; omega⟩, by rw [b3]; simp [Dec.take, learn_len], by rw [b4]; rfl⟩

end Go.Proofs.TrydN

