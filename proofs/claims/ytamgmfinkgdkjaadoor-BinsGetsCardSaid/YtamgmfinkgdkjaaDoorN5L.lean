/- Layer 5: the decoder: the walk. -/
import Derived.Test.YtamgmfinkgdkjaaDoorN5K
import Derived.Test.YtamgmfinkgdkjaaDoorN5J
import Derived.Test.YtamgmfinkgdkjaaDoorAL28
namespace Go.Proofs.TrydN
open Go Go.AL Go.Proofs

/-- Bytes as they are handed over. -/
def asB (v : AV) (xs : List Int) : Prop := (v = .snil ∧ xs = []) ∨ (v = .semp ∧ xs = []) ∨ (v = .ri .u8 xs ∧ xs ≠ []) ∨ (v = .emp ∧ xs = [])
theorem asB.cl {v : AV} {xs : List Int} (h : asB v xs) : Cl v := by
  rcases h with ⟨h, _⟩ | ⟨h, _⟩ | ⟨h, _⟩ | ⟨h, _⟩
  · exact .inl h
  · exact .inr (.inl h)
  · exact .inr (.inr (.inl ⟨_, _, h⟩))
  · exact .inr (.inr (.inr h))
theorem asB_bytes (xs : List Int) : asB (bytesV xs) xs := by
  cases xs with
  | nil => exact .inr (.inl ⟨rfl, rfl⟩)
  | cons x r => exact .inr (.inr (.inl ⟨rfl, by simp⟩))

theorem clone_emp : CallsF Tryd.prog 57 [.emp] [] .semp [] := by
  refine e57 ?_
  conv => whnf
  exact ⟨[], [], rfl, rfl, rfl⟩
theorem cloneF_spec (x : Int) (xs : List Int) (hb : xs.length < 4294967290) : CallsF Tryd.prog 57 [.ri .u8 (x :: xs)] [] (.ri .u8 (x :: xs)) [] := by
  refine e57 ?_
  conv => whnf
  refine need_of ((decide_eq_true (by omega))) ?_
  conv => whnf
  refine ⟨[], [0], rfl, ?_, rfl⟩
  show AV.ri .u8 (((x :: xs).drop 0).take (xs.length + 1)) = _
  rw [List.drop_zero, List.take_of_length_le (by simp)]

theorem cloneR_spec {v : AV} {xs : List Int} (h : asB v xs) (hb : xs.length < 4294967290) : CallsF Tryd.prog 57 [v] [] (.ri .u8 xs) [] := by
  rcases h with ⟨rfl, rfl⟩ | ⟨rfl, rfl⟩ | ⟨rfl, h⟩ | ⟨rfl, rfl⟩
  · exact CallsF.le (CallsA.mono clone_nil fun r h' ⟨a, b⟩ => ⟨by rw [a]; exact AV.le.snil .u8, b⟩)
  · exact CallsF.le (CallsA.mono clone_semp fun r h' ⟨a, b⟩ => ⟨by rw [a]; exact AV.le.semp .u8, b⟩)
  · cases xs with
    | nil => exact absurd rfl h
    | cons x xs => exact cloneF_spec x xs (by simp at hb; omega)
  · exact CallsF.le (CallsA.mono clone_emp fun r h' ⟨a, b⟩ => ⟨by rw [a]; exact AV.le.semp .u8, b⟩)

theorem rnew_spec {v : AV} {xs : List Int} (h : asB v xs) (hb : xs.length < 4294967290) : CallsF Tryd.prog 61 [v] [] (.bp 0 0) [rB xs 0 0] := by
  have hh := h
  rcases h with ⟨rfl, rfl⟩ | ⟨rfl, rfl⟩ | ⟨rfl, h⟩ | ⟨rfl, rfl⟩
  · refine e61 ?_
    conv => whnf
    refine CallsF.call [] [] (cloneR_spec hh hb) rfl rfl rfl rfl rfl (.inl rfl) ?_
    conv => whnf
    exact ⟨[0], [], rfl, rfl, rfl⟩
  · refine e61 ?_
    conv => whnf
    refine CallsF.call [] [] (cloneR_spec hh hb) rfl rfl rfl rfl rfl (.inl rfl) ?_
    conv => whnf
    exact ⟨[0], [], rfl, rfl, rfl⟩
  · refine e61 ?_
    conv => whnf
    refine CallsF.call [] [] (cloneR_spec hh hb) rfl rfl rfl rfl rfl (.inl rfl) ?_
    conv => whnf
    exact ⟨[0], [], rfl, rfl, rfl⟩
  · refine e61 ?_
    conv => whnf
    refine CallsF.call [] [] (cloneR_spec hh hb) rfl rfl rfl rfl rfl (.inl rfl) ?_
    conv => whnf
    exact ⟨[0], [], rfl, rfl, rfl⟩

theorem newD_spec {v : AV} {bs : List Int} (h : asB v bs) (hk : okB bs) (hb : bs.length < 4294967290) (c : Int) : CallsF Tryd.prog 21 [v, iv c] [] (.bp 0 0) [cB (freshP c) 0 0 65536 (valN bs 0 16), pD (freshP c), rB bs 16 (overN bs 0 16)] := by
  have hv := valN_in bs 0 16
  have hh := h
  rcases h with ⟨rfl, rfl⟩ | ⟨rfl, rfl⟩ | ⟨rfl, h⟩ | ⟨rfl, rfl⟩
  · refine e21 ?_
    conv => whnf
    refine CallsF.call [] [] (fresh_spec c) rfl rfl rfl rfl rfl (.inl rfl) ?_
    conv => whnf
    refine CallsF.call [] [] (rnew_spec hh hb) rfl rfl rfl rfl rfl (.inl rfl) ?_
    conv => whnf
    refine CallsF.call [1] [] (rget_spec hk (by omega) (pos := 0) (over := 0) (n := 16) (by omega) (by omega) (by omega)) rfl rfl rfl rfl rfl (.inl rfl) ?_
    conv => whnf
    rw [wrap_id (n := valN [] 0 16) (by omega) (by omega)]
    refine ⟨[2, 0, 1], [], rfl, rfl, ?_⟩
    show [some (ABlk.box [.sl 1 0 (ctxN c), iv 0, iv 0, iv 65536, iv (valN [] 0 16), .bp 2 0]), pD (freshP c), rB [] (0 + 16) (0 + overN [] 0 16)] = _
    have e : (freshP c).length = ctxN c := by simp [freshP]
    rw [← e, Nat.zero_add, Nat.zero_add]
    rfl
  · refine e21 ?_
    conv => whnf
    refine CallsF.call [] [] (fresh_spec c) rfl rfl rfl rfl rfl (.inl rfl) ?_
    conv => whnf
    refine CallsF.call [] [] (rnew_spec hh hb) rfl rfl rfl rfl rfl (.inl rfl) ?_
    conv => whnf
    refine CallsF.call [1] [] (rget_spec hk (by omega) (pos := 0) (over := 0) (n := 16) (by omega) (by omega) (by omega)) rfl rfl rfl rfl rfl (.inl rfl) ?_
    conv => whnf
    rw [wrap_id (n := valN [] 0 16) (by omega) (by omega)]
    refine ⟨[2, 0, 1], [], rfl, rfl, ?_⟩
    show [some (ABlk.box [.sl 1 0 (ctxN c), iv 0, iv 0, iv 65536, iv (valN [] 0 16), .bp 2 0]), pD (freshP c), rB [] (0 + 16) (0 + overN [] 0 16)] = _
    have e : (freshP c).length = ctxN c := by simp [freshP]
    rw [← e, Nat.zero_add, Nat.zero_add]
    rfl
  · refine e21 ?_
    conv => whnf
    refine CallsF.call [] [] (fresh_spec c) rfl rfl rfl rfl rfl (.inl rfl) ?_
    conv => whnf
    refine CallsF.call [] [] (rnew_spec hh hb) rfl rfl rfl rfl rfl (.inl rfl) ?_
    conv => whnf
    refine CallsF.call [1] [] (rget_spec hk (by omega) (pos := 0) (over := 0) (n := 16) (by omega) (by omega) (by omega)) rfl rfl rfl rfl rfl (.inl rfl) ?_
    conv => whnf
    rw [wrap_id (n := valN bs 0 16) (by omega) (by omega)]
    refine ⟨[2, 0, 1], [], rfl, rfl, ?_⟩
    show [some (ABlk.box [.sl 1 0 (ctxN c), iv 0, iv 0, iv 65536, iv (valN bs 0 16), .bp 2 0]), pD (freshP c), rB bs (0 + 16) (0 + overN bs 0 16)] = _
    have e : (freshP c).length = ctxN c := by simp [freshP]
    rw [← e, Nat.zero_add, Nat.zero_add]
    rfl
  · refine e21 ?_
    conv => whnf
    refine CallsF.call [] [] (fresh_spec c) rfl rfl rfl rfl rfl (.inl rfl) ?_
    conv => whnf
    refine CallsF.call [] [] (rnew_spec hh hb) rfl rfl rfl rfl rfl (.inl rfl) ?_
    conv => whnf
    refine CallsF.call [1] [] (rget_spec hk (by omega) (pos := 0) (over := 0) (n := 16) (by omega) (by omega) (by omega)) rfl rfl rfl rfl rfl (.inl rfl) ?_
    conv => whnf
    rw [wrap_id (n := valN [] 0 16) (by omega) (by omega)]
    refine ⟨[2, 0, 1], [], rfl, rfl, ?_⟩
    show [some (ABlk.box [.sl 1 0 (ctxN c), iv 0, iv 0, iv 65536, iv (valN [] 0 16), .bp 2 0]), pD (freshP c), rB [] (0 + 16) (0 + overN [] 0 16)] = _
    have e : (freshP c).length = ctxN c := by simp [freshP]
    rw [← e, Nat.zero_add, Nat.zero_add]
    rfl

def codeS (low size code : Int) : Int := 2 * (match strad low size with | true => turnN code | false => code) % 65536
def Dec.shift (d : Dec) : Dec := ⟨d.p, d.n, lowS d.low d.size, 2 * d.size, codeS d.low d.size d.code + b2i (rdB d.src d.pos), d.src, d.pos + 1, d.over + over1 d.src d.pos⟩
def Dec.norm : Nat → Dec → Dec
  | 0, d => d
  | k + 1, d => if d.size ≤ 16384 then Dec.norm k d.shift else d
def Dec.bit (d : Dec) (c : Int) : Bool := decide (d.code - d.low ≥ partN d.size (chance d.p c))
def Dec.take (d : Dec) (c : Int) (b : Bool) : Dec :=
  ⟨learnP d.p c b, d.n + 1, lowT d.low (partN d.size (chance d.p c)) b, sizeT d.size (partN d.size (chance d.p c)) b, d.code, d.src, d.pos, d.over⟩
def Dec.get (d : Dec) (c : Int) : Dec := match hasC d.p c with
  | true => (d.take c (d.bit c)).norm 16
  | false => d
def Dec.told (d : Dec) (c : Int) : Bool := match hasC d.p c with
  | true => d.bit c
  | false => false
abbrev hD (d : Dec) : AHeap := [cB d.p d.n d.low d.size d.code, pD d.p, rB d.src d.pos d.over]

structure okD (d : Dec) : Prop where
  s : okS d.p d.low d.size
  big : 16384 < d.size
  n : d.n < 67108864
  c0 : d.low ≤ d.code
  c1 : d.code < d.low + d.size
  src : okB d.src
  len : d.src.length < 4294967290
  pos : d.pos ≤ 16 + 16 * d.n
  over : d.over ≤ 16 + 16 * d.n

theorem or_bit {v : Int} (b : Bool) : IntKind.wrap .i64 ((BitVec.ofInt IntKind.i64.bits (2 * v % 65536) ||| BitVec.ofInt IntKind.i64.bits (b2i b)).toNat : Nat) = 2 * v % 65536 + b2i b := by
  obtain ⟨x, hx⟩ : ∃ x : Nat, 2 * v % 65536 = ((2 * x : Nat) : Int) := ⟨(v % 32768).toNat, by omega⟩
  have hxb : x < 32768 := by omega
  rw [hx]
  cases b
  · have e : (BitVec.ofInt IntKind.i64.bits ((2 * x : Nat) : Int) ||| BitVec.ofInt IntKind.i64.bits (b2i false)).toNat = 2 * x := by
      show (BitVec.ofInt 64 ((2 * x : Nat) : Int) ||| BitVec.ofInt 64 0).toNat = 2 * x
      rw [BitVec.toNat_or, bv_nat _ (by omega), show (BitVec.ofInt 64 0).toNat = 0 from rfl, Nat.or_zero]
    rw [e, wrap_id (by omega) (by omega)]; simp [b2i]
  · have e : (BitVec.ofInt IntKind.i64.bits ((2 * x : Nat) : Int) ||| BitVec.ofInt IntKind.i64.bits (b2i true)).toNat = 2 * x + 1 := by
      show (BitVec.ofInt 64 ((2 * x : Nat) : Int) ||| BitVec.ofInt 64 1).toNat = 2 * x + 1
      rw [BitVec.toNat_or, bv_nat _ (by omega), show (BitVec.ofInt 64 1).toNat = 1 from rfl]
      exact (Nat.two_pow_add_eq_or_of_lt (i := 1) (b := 1) (by omega) x).symm
    rw [e, wrap_id (by omega) (by omega)]; simp [b2i]

theorem dshift_spec (d : Dec) (h0 : 0 ≤ d.low) (h1 : 1 ≤ d.size) (h2 : d.low + d.size ≤ 65536) (hc0 : d.low ≤ d.code) (hc1 : d.code < d.low + d.size) (hk : okB d.src) (hb : d.src.length < 4294967290) (hp : d.pos < 4294950000) (ho : d.over < 4294950000) :
    CallsF Tryd.prog 65 [.bp 0 0] (hD d) (.tup []) (hD d.shift) := by
  refine e65 ?_
  conv => whnf
  refine CallsF.call [] [] (strad_spec h0 h1 h2) rfl rfl rfl rfl rfl (.inl rfl) ?_
  conv => whnf
  have hv : valN d.src d.pos 1 = b2i (rdB d.src d.pos) := by simp [valN]
  have ho1 : overN d.src d.pos 1 = over1 d.src d.pos := by simp [overN]
  have hbw : IntKind.wrap .i64 (b2i (rdB d.src d.pos)) = b2i (rdB d.src d.pos) := by cases rdB d.src d.pos <;> rfl
  have rg := rget_spec hk (by omega) (pos := d.pos) (over := d.over) (n := 1) (by omega) (by omega) (by omega)
  rw [hv, ho1] at rg
  unfold Dec.shift
  cases hs : strad d.low d.size
  · rw [show lowS d.low d.size = 2 * d.low % 65536 by simp [lowS, hs], show codeS d.low d.size d.code = 2 * d.code % 65536 by simp [codeS, hs]]
    conv => whnf
    refine CallsF.call [0, 1, 2] [] (double2_spec d.p d.n d.low d.size d.code d.src d.pos d.over h0 (by omega) (by omega) (by omega)) rfl rfl rfl rfl rfl (.inl rfl) ?_
    conv => whnf
    rw [dbl_eq (v := d.code) (by omega) (by omega)]
    refine CallsF.call [2] [] (rg) rfl rfl rfl rfl rfl (.inl rfl) ?_
    conv => whnf
    refine ⟨.inr (by repeat (first | exact same_nil | refine same_of rfl ?_)), ?_⟩
    conv => whnf
    rw [hbw, or_bit (v := d.code)]
    exact ⟨[], [], rfl, rfl, rfl⟩
  · have ht := turnN_in h0 (show d.low < 65536 by omega)
    have hu := turnN_in (v := d.code) (by omega) (by omega)
    rw [show lowS d.low d.size = 2 * turnN d.low % 65536 by simp [lowS, hs], show codeS d.low d.size d.code = 2 * turnN d.code % 65536 by simp [codeS, hs]]
    conv => whnf
    rw [turn_eq h0 (by omega), turn_eq (v := d.code) (by omega) (by omega)]
    refine CallsF.call [0, 1, 2] [] (double2_spec d.p d.n (turnN d.low) d.size (turnN d.code) d.src d.pos d.over ht.1 ht.2 (by omega) (by omega)) rfl rfl rfl rfl rfl (.inl rfl) ?_
    conv => whnf
    rw [dbl_eq (v := turnN d.code) (by omega) (by omega)]
    refine CallsF.call [2] [] (rg) rfl rfl rfl rfl rfl (.inl rfl) ?_
    conv => whnf
    refine ⟨.inr (by repeat (first | exact same_nil | refine same_of rfl ?_)), ?_⟩
    conv => whnf
    rw [hbw, or_bit (v := turnN d.code)]
    exact ⟨[], [], rfl, rfl, rfl⟩

theorem Dec.norm_done {k : Nat} {d : Dec} (h : ¬d.size ≤ 16384) : d.norm k = d := by cases k <;> simp [Dec.norm, h]
theorem Dec.norm_step {k : Nat} {d : Dec} (h : d.size ≤ 16384) : d.norm (k + 1) = d.shift.norm k := by simp [Dec.norm, h]

/-- The code stays within. -/
theorem code_shift {low size code : Int} (h0 : 0 ≤ low) (h2 : low + size ≤ 65536) (hs : size ≤ 16384) (hc0 : low ≤ code) (hc1 : code < low + size) (b : Bool) :
    codeS low size code + b2i b - lowS low size = 2 * (code - low) + b2i b := by
  unfold codeS lowS
  cases hst : strad low size
  · have h := of_decide_eq_false hst
    simp only
    omega
  · have h := of_decide_eq_true hst
    have a : low / 32768 = 0 := by omega
    have c : (low + size - 1) / 32768 = 1 := by omega
    simp only
    unfold turnN
    rw [if_pos (show low / 16384 % 2 = 1 by omega)]
    split <;> omega

theorem dget_spec (d : Dec) (h : okD d) (c : Int) : CallsF Tryd.prog 23 [.bp 0 0, iv c] (hD d) (.bool (d.told c)) (hD (d.get c)) := by
  obtain ⟨hS, hbig, hn, hc0, hc1, hk, hb, hpos, hover⟩ := h
  obtain ⟨hp, hl0, hs0, htop⟩ := hS
  have hS : okS d.p d.low d.size := ⟨hp, hl0, hs0, htop⟩
  unfold Dec.get Dec.told
  refine e23 ?_
  conv => whnf
  refine CallsF.call [0, 1, 2] [] (has2_spec d.p d.n d.low d.size d.code d.src d.pos d.over c) rfl rfl rfl rfl rfl (.inl rfl) ?_
  conv => whnf
  cases hc : hasC d.p c
  · conv => whnf
    exact ⟨[], [], rfl, rfl, rfl⟩
  have hq := hS.chance hc
  have hc2 := chance_at hc
  have kp := partN_in hbig (by omega) hq
  conv => whnf
  refine need_of ((decide_eq_true ⟨by omega, by omega⟩)) ?_
  conv => whnf
  refine need_of ((decide_eq_true (by omega))) ?_
  conv => whnf
  rw [Nat.zero_add c.toNat]
  refine CallsF.call [] [] (part_spec d.low hbig (by omega) hq) rfl rfl rfl rfl rfl (.inl rfl) ?_
  conv => whnf
  rw [wrap_id (n := d.code - d.low) (by omega) (by omega)]
  have hbit : decide (d.code - d.low ≥ partN d.size (chance d.p c)) = d.bit c := rfl
  rw [hbit]
  have hS2 := hS.take hbig hc (d.bit c)
  have hcode : lowT d.low (partN d.size (chance d.p c)) (d.bit c) ≤ d.code ∧ d.code < lowT d.low (partN d.size (chance d.p c)) (d.bit c) + sizeT d.size (partN d.size (chance d.p c)) (d.bit c) := by
    cases hbb : d.bit c
    · have := of_decide_eq_false hbb
      simp only [lowT, sizeT]; omega
    · have := of_decide_eq_true hbb
      simp only [lowT, sizeT]; omega
  generalize d.bit c = b at *
  refine CallsF.call [0, 1, 2] [] (take2_spec d.p d.n d.low d.size d.code d.src d.pos d.over (part := partN d.size (chance d.p c)) hl0 (by omega) (by omega) (by omega) (by omega) (by omega) b) rfl rfl rfl rfl rfl (.inl rfl) ?_
  conv => whnf
  refine CallsF.call [0, 1, 2] [] (learnQ2_spec d.p d.n (lowT d.low (partN d.size (chance d.p c)) b) (sizeT d.size (partN d.size (chance d.p c)) b) d.code d.src d.pos d.over hc hq (by omega) b) rfl rfl rfl rfl rfl (.inl rfl) ?_
  conv => whnf
  generalize ht : (d.take c b).norm 16 = T
  refine LoopA.inv (fun k st => ∃ d' : Dec, d'.norm k = T ∧ okS d'.p d'.low d'.size ∧ 16384 < d'.size * 2 ^ k ∧ (d'.low ≤ d'.code ∧ d'.code < d'.low + d'.size) ∧ d'.src = d.src ∧ d'.pos + k ≤ 1073741900 ∧ d'.over + k ≤ 1073741900 ∧ st = ⟨[(0, .bp 0 0), (6, .bool b)], hD d', 3, 3⟩) 16 [0, 6] [] [] (by rfl) ?_ ?_
  · conv => whnf
    exact ⟨d.take c b, ht, hS2, by have := hS2.s0; show 16384 < (d.take c b).size * 65536; unfold Dec.take; simp only; omega, hcode, rfl, by simp only [Dec.take]; omega, by simp only [Dec.take]; omega, rfl⟩
  rintro k st ⟨d', h1, h2, h3, h4, h5, h6, h7, rfl⟩
  obtain ⟨hp', hl0', hs0', htop'⟩ := h2
  have h2 : okS d'.p d'.low d'.size := ⟨hp', hl0', hs0', htop'⟩
  conv => whnf
  refine ifB_of (fun hd => ?_) (fun hd => ?_)
  · have hd := of_decide_eq_true hd
    obtain ⟨k, rfl⟩ : ∃ k', k = k' + 1 := ⟨k - 1, by
      rcases k with _ | k
      · simp at h3; omega
      · omega⟩
    have h8 : 16384 < 2 * d'.size * 2 ^ k := by
      rw [Int.pow_succ] at h3
      have : d'.size * (2 ^ k * 2) = 2 * d'.size * 2 ^ k := by rw [← Int.mul_assoc, Int.mul_comm (d'.size * 2 ^ k) 2, Int.mul_assoc]
      omega
    have h9 := h2.shift hd
    rw [Dec.norm_step hd] at h1
    have cs := code_shift hl0' htop' hd h4.1 h4.2 (rdB d'.src d'.pos)
    have b01 : b2i (rdB d'.src d'.pos) = 0 ∨ b2i (rdB d'.src d'.pos) = 1 := by cases rdB d'.src d'.pos <;> simp [b2i]
    have o1 : over1 d'.src d'.pos ≤ 1 := by unfold over1; split <;> omega
    conv => whnf
    refine CallsF.call [0, 1, 2] [] (dshift_spec d' hl0' hs0' htop' h4.1 h4.2 (by rw [h5]; exact hk) (by rw [h5]; exact hb) (by omega) (by omega)) rfl rfl rfl rfl rfl (.inl rfl) ?_
    conv => whnf
    refine ⟨k, [0, 6], [], [], by omega, rfl, ?_⟩
    conv => whnf
    exact ⟨d'.shift, h1, h9, h8, ⟨by show lowS d'.low d'.size ≤ codeS d'.low d'.size d'.code + b2i (rdB d'.src d'.pos); omega, by show codeS d'.low d'.size d'.code + b2i (rdB d'.src d'.pos) < lowS d'.low d'.size + 2 * d'.size; omega⟩, h5, by show d'.pos + 1 + k ≤ _; omega, by show d'.over + over1 d'.src d'.pos + k ≤ _; omega, rfl⟩
  · have hd := of_decide_eq_false hd
    rw [Dec.norm_done hd] at h1
    subst h1
    conv => whnf
    exact ⟨[], [], rfl, rfl, rfl⟩

end Go.Proofs.TrydN

