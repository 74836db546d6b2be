/- Layer 5: the bytes of an encoder: the walk. -/
import Derived.Test.YtamgmfinkgdkjaaDoorN5I
namespace Go.Proofs.TrydN
open Go Go.AL Go.Proofs

def upN (v : Int) : Int := (v + 16383) / 16384 * 16384
def Enc.all (e : Enc) : List Bool := e.bits ++ owes (topB (upN e.low)) e.owed ++ [midB (upN e.low)]
def trim (xs : List Int) : List Int := xs.take (trimL xs xs.length)
def Enc.bytes (e : Enc) : List Int := trim (pack e.all)
def bytesV (xs : List Int) : AV := match xs with
  | [] => .semp
  | x :: r => .ri .u8 (x :: r)

theorem byte_bits1 : ∀ b0 b1 b2 b3 b4 b5 b6 b7 : Bool, bitsOf (byteOf b0 b1 b2 b3 b4 b5 b6 b7 / 2 ^ (8 - 1)) 1 = [b0] := by decide
theorem byte_bits2 : ∀ b0 b1 b2 b3 b4 b5 b6 b7 : Bool, bitsOf (byteOf b0 b1 b2 b3 b4 b5 b6 b7 / 2 ^ (8 - 2)) 2 = [b0, b1] := by decide
theorem byte_bits3 : ∀ b0 b1 b2 b3 b4 b5 b6 b7 : Bool, bitsOf (byteOf b0 b1 b2 b3 b4 b5 b6 b7 / 2 ^ (8 - 3)) 3 = [b0, b1, b2] := by decide
theorem byte_bits4 : ∀ b0 b1 b2 b3 b4 b5 b6 b7 : Bool, bitsOf (byteOf b0 b1 b2 b3 b4 b5 b6 b7 / 2 ^ (8 - 4)) 4 = [b0, b1, b2, b3] := by decide
theorem byte_bits5 : ∀ b0 b1 b2 b3 b4 b5 b6 b7 : Bool, bitsOf (byteOf b0 b1 b2 b3 b4 b5 b6 b7 / 2 ^ (8 - 5)) 5 = [b0, b1, b2, b3, b4] := by decide
theorem byte_bits6 : ∀ b0 b1 b2 b3 b4 b5 b6 b7 : Bool, bitsOf (byteOf b0 b1 b2 b3 b4 b5 b6 b7 / 2 ^ (8 - 6)) 6 = [b0, b1, b2, b3, b4, b5] := by decide
theorem byte_bits7 : ∀ b0 b1 b2 b3 b4 b5 b6 b7 : Bool, bitsOf (byteOf b0 b1 b2 b3 b4 b5 b6 b7 / 2 ^ (8 - 7)) 7 = [b0, b1, b2, b3, b4, b5, b6] := by decide
theorem byte_bits8 : ∀ b0 b1 b2 b3 b4 b5 b6 b7 : Bool, bitsOf (byteOf b0 b1 b2 b3 b4 b5 b6 b7 / 2 ^ (8 - 8)) 8 = [b0, b1, b2, b3, b4, b5, b6, b7] := by decide

theorem take_more {l : List Bool} {i k : Nat} (h : i + k ≤ l.length) : l.take (i + k) = l.take i ++ (List.range k).map fun j => bitAt l (i + j) := by
  induction k with
  | zero => simp
  | succ k ih =>
    rw [← Nat.add_assoc, List.take_succ_eq_append_getElem (by omega), ih (by omega), List.range_succ, List.map_append, List.append_assoc]
    simp [bitAt, List.getD]
    rw [List.getElem?_eq_getElem (by omega)]; rfl

theorem byte_step (l : List Bool) (i : Nat) (h : 8 * i < l.length) : l.take (8 * i) ++ bitsOf (byteAt (bitAt l) i / 2 ^ (8 - min 8 (l.length - 8 * i))) (min 8 (l.length - 8 * i)) = l.take (8 * (i + 1)) := by
  have hm : min 8 (l.length - 8 * i) = 1 ∨ min 8 (l.length - 8 * i) = 2 ∨ min 8 (l.length - 8 * i) = 3 ∨ min 8 (l.length - 8 * i) = 4 ∨ min 8 (l.length - 8 * i) = 5 ∨ min 8 (l.length - 8 * i) = 6 ∨ min 8 (l.length - 8 * i) = 7 ∨ min 8 (l.length - 8 * i) = 8 := by omega
  have e : l.take (8 * (i + 1)) = l.take (8 * i + min 8 (l.length - 8 * i)) := by
    rcases Nat.lt_or_ge (l.length - 8 * i) 8 with h8 | h8
    · rw [List.take_of_length_le (by omega), List.take_of_length_le (by omega)]
    · rw [Nat.min_eq_left h8]; rfl
  rw [e, take_more (by omega)]
  congr 1
  unfold byteAt
  rcases hm with h | h | h | h | h | h | h | h <;> rw [h]
  · exact byte_bits1 _ _ _ _ _ _ _ _
  · exact byte_bits2 _ _ _ _ _ _ _ _
  · exact byte_bits3 _ _ _ _ _ _ _ _
  · exact byte_bits4 _ _ _ _ _ _ _ _
  · exact byte_bits5 _ _ _ _ _ _ _ _
  · exact byte_bits6 _ _ _ _ _ _ _ _
  · exact byte_bits7 _ _ _ _ _ _ _ _
  · exact byte_bits8 _ _ _ _ _ _ _ _

theorem trimL_le (xs : List Int) (n : Nat) : trimL xs n ≤ n := by
  induction n with
  | zero => exact Nat.le_refl _
  | succ n ih => rw [trimL]; split <;> omega
theorem upN_in {v : Int} (h0 : 0 ≤ v) (h1 : v < 49152) : 0 ≤ upN v ∧ upN v ≤ 49152 ∧ v ≤ upN v ∧ upN v < v + 16384 := by unfold upN; omega
theorem up_eq {v : Int} (h0 : 0 ≤ v) (h1 : v < 49152) : IntKind.wrap .i64 (IntKind.wrap .i64 ((IntKind.wrap .i64 (IntKind.wrap .i64 (v + 16384) - 1)).tdiv 16384) * 16384) = upN v := by
  rw [wrap_id (n := v + 16384) (by omega) (by omega), wrap_id (n := v + 16384 - 1) (by omega) (by omega), Int.tdiv_eq_ediv_of_nonneg (by omega), wrap_id (n := (v + 16384 - 1) / 16384) (by omega) (by omega), wrap_id (by omega) (by omega)]
  unfold upN; omega

theorem bytes0_spec (e : Enc) (hb0 : e.bits = []) (h : okE e) : CallsF Tryd.prog 16 [.bp 0 0] (hE0 e) (bytesV e.bytes) (hE0 e) := by
  obtain ⟨⟨hp, hl0, hs0, htop⟩, hbig, hn, hlen⟩ := h
  have hu := upN_in hl0 (by omega)
  have hal : e.all.length = e.bits.length + e.owed + 2 := by simp [Enc.all, owes_len]; omega
  have hall : owes (topB (upN e.low)) e.owed ++ [midB (upN e.low)] = e.all := by simp [Enc.all, hb0]
  refine e16 ?_
  conv => whnf
  refine CallsF.call [2] [] (wbytes_nil) rfl rfl rfl rfl rfl (.inl rfl) ?_
  conv => whnf
  refine LoopA.inv (fun k st => k = 0 ∧ st = ⟨[(0, .bp 0 0), (3, .bp 3 0), (16, iv 0), (17, iv 0)], [cB e.p e.n e.low e.size e.owed, pD e.p, some (.box [.snil, iv 0]), some (.box [.snil, iv 0])], 4, 3⟩) 0 [0, 3, 16, 17] [3] [] (by rfl) ?_ ?_
  · conv => whnf
    exact ⟨rfl, rfl⟩
  rintro k st ⟨rfl, rfl⟩
  conv => whnf
  rw [up_eq hl0 (by omega), topB_eq hu.1 (by omega)]
  refine CallsF.call [3] [] (write_nil (topB (upN e.low)) e.owed (by omega)) rfl rfl rfl rfl rfl (.inl rfl) ?_
  conv => whnf
  rw [midB_eq hu.1 (by omega)]
  refine CallsF.call [3, 4] [] (wbit_spec (by simp [owes_len, Enc.all] at *; omega) (midB (upN e.low))) rfl rfl rfl rfl rfl (.inl rfl) ?_
  conv => whnf
  rw [hall]
  obtain ⟨x, xs, hx⟩ : ∃ x xs, pack e.all = x :: xs := by
    cases hq : pack e.all with
    | nil => have := congrArg List.length hq; rw [pack_len] at this; simp [Enc.all] at this; omega
    | cons x xs => exact ⟨x, xs, rfl⟩
  have hxl : xs.length + 1 = (e.all.length + 7) / 8 := by rw [← pack_len, hx]; rfl
  rw [hx]
  refine CallsF.call [3, 5] [] (wbytes_app e.all.length x xs (by omega)) rfl rfl rfl rfl rfl (.inl rfl) ?_
  conv => whnf
  have kt := trim_spec (x :: xs) (by simp; omega) (by simp)
  have hb : e.bytes = (x :: xs).take (trimL (x :: xs) (x :: xs).length) := by unfold Enc.bytes trim; rw [hx]
  cases hT : trimL (x :: xs) (x :: xs).length with
  | zero =>
    rw [hT] at kt hb
    refine CallsF.call [6] [] (kt) rfl rfl rfl rfl rfl (.inl rfl) ?_
    conv => whnf
    refine CallsF.call [6] [] (clone_sl0 (x :: xs)) rfl rfl rfl rfl rfl (.inl rfl) ?_
    conv => whnf
    exact ⟨[], [], rfl, by rw [hb]; rfl, rfl⟩
  | succ m =>
    rw [hT] at kt hb
    refine CallsF.call [6] [] (kt) rfl rfl rfl rfl rfl (.inl rfl) ?_
    conv => whnf
    refine CallsF.call [6] [] (clone_sl x xs m (by have := trimL_le (x :: xs) (x :: xs).length; simp at this hT; omega)) rfl rfl rfl rfl rfl (.inl rfl) ?_
    conv => whnf
    refine ⟨[], [7], rfl, ?_, rfl⟩
    rw [hb]
    show AV.ri .u8 (((x :: xs.take m).drop 0).take ((xs.take m).length + 1)) = .ri .u8 (x :: xs.take m)
    rw [List.drop_zero, List.take_of_length_le (by simp)]

theorem byte_in (g : Nat → Bool) (i : Nat) : 0 ≤ byteAt g i ∧ byteAt g i ≤ 255 := by
  have : ∀ b0 b1 b2 b3 b4 b5 b6 b7 : Bool, 0 ≤ byteOf b0 b1 b2 b3 b4 b5 b6 b7 ∧ byteOf b0 b1 b2 b3 b4 b5 b6 b7 ≤ 255 := by decide
  exact this _ _ _ _ _ _ _ _
theorem mx_eq {L i : Nat} (h : 8 * i < L) (hb : L < 4294967296) : (if IntKind.wrap .i64 (IntKind.wrap .i64 (8 * IntKind.wrap .i64 ((i : Int) + 1)) - (L : Int)) > 0 then IntKind.wrap .i64 (IntKind.wrap .i64 (8 * IntKind.wrap .i64 ((i : Int) + 1)) - (L : Int)) else 0) = ((8 - min 8 (L - 8 * i) : Nat) : Int) := by
  rw [wrap_id (n := (i : Int) + 1) (by omega) (by omega), wrap_id (n := 8 * ((i : Int) + 1)) (by omega) (by omega), wrap_id (n := 8 * ((i : Int) + 1) - (L : Int)) (by omega) (by omega)]
  split <;> omega
theorem mn_eq {L i : Nat} (h : 8 * i < L) (hb : L < 4294967296) : (if IntKind.wrap .i64 ((L : Int) - IntKind.wrap .i64 (8 * (i : Int))) < 8 then IntKind.wrap .i64 ((L : Int) - IntKind.wrap .i64 (8 * (i : Int))) else 8) = ((min 8 (L - 8 * i) : Nat) : Int) := by
  rw [wrap_id (n := 8 * (i : Int)) (by omega) (by omega), wrap_id (n := (L : Int) - 8 * (i : Int)) (by omega) (by omega)]
  split <;> omega
theorem shr_byte {v : Int} {m : Nat} (h0 : 0 ≤ v) (h1 : v ≤ 255) (hm : m ≤ 8) : IntKind.wrap .u64 (v.fdiv (2 ^ min ((m : Nat) : Int).toNat IntKind.u8.bits)) = v / 2 ^ m := by
  have e1 : min ((m : Nat) : Int).toNat IntKind.u8.bits = m := by simp [IntKind.bits]; omega
  have p : (0 : Int) < 2 ^ m := Int.pow_pos (by omega)
  rw [e1, Int.fdiv_eq_ediv_of_nonneg v (by omega)]
  have a := Int.ediv_nonneg h0 (Int.le_of_lt p)
  have b := Int.ediv_le_self (2 ^ m) h0
  exact wrap_u64 a (by omega)

theorem bytes1_spec (e : Enc) (hb0 : e.bits ≠ []) (h : okE e) : CallsF Tryd.prog 16 [.bp 0 0] (hE1 e) (bytesV e.bytes) (hE1 e) := by
  obtain ⟨⟨hp, hl0, hs0, htop⟩, hbig, hn, hlen⟩ := h
  have hu := upN_in hl0 (by omega)
  have hal : e.all.length = e.bits.length + e.owed + 2 := by simp [Enc.all, owes_len]; omega
  have hall : e.bits ++ owes (topB (upN e.low)) e.owed ++ [midB (upN e.low)] = e.all := rfl
  obtain ⟨y, ys, hy⟩ : ∃ y ys, pack e.bits = y :: ys := by
    cases hq : pack e.bits with
    | nil => have := congrArg List.length hq; rw [pack_len] at this; cases hb : e.bits <;> simp [hb] at hb0 this; omega
    | cons x xs => exact ⟨x, xs, rfl⟩
  have hyl : ys.length + 1 = (e.bits.length + 7) / 8 := by rw [← pack_len, hy]; rfl
  have hy1 : ∀ i, i < ys.length + 1 → (y :: ys).getD i 0 = byteAt (bitAt e.bits) i := fun i hi => by rw [← hy, List.getD, pack_get (by omega)]; rfl
  have hE : hE1 e = [cB e.p e.n e.low e.size e.owed, pD e.p, some (.box [.sl 3 0 (ys.length + 1), iv e.bits.length]), some (.ia .u8 (y :: ys))] := by
    show [cB e.p e.n e.low e.size e.owed, pD e.p, some (ABlk.box [.sl 3 0 (pack e.bits).length, iv e.bits.length]), some (ABlk.ia .u8 (pack e.bits))] = _
    rw [hy]; rfl
  rw [hE]
  refine e16 ?_
  conv => whnf
  refine CallsF.call [2, 3] [] (wbytes_app e.bits.length y ys (by omega)) rfl rfl rfl rfl rfl (.inl rfl) ?_
  conv => whnf
  refine LoopA.inv (fun k st => ∃ i : Nat, i + k = ys.length + 1 ∧ ((i = 0 ∧ st = ⟨[(0, .bp 0 0), (3, .bp 4 0), (15, .ri .u8 (y :: ys)), (16, iv (ys.length + 1 : Nat)), (17, iv i)], [cB e.p e.n e.low e.size e.owed, pD e.p, some (.box [.sl 3 0 (ys.length + 1), iv e.bits.length]), some (.ia .u8 (y :: ys)), some (.box [.snil, iv 0])], 5, 4⟩) ∨ (i ≠ 0 ∧ st = ⟨[(0, .bp 0 0), (3, .bp 4 0), (15, .ri .u8 (y :: ys)), (16, iv (ys.length + 1 : Nat)), (17, iv i)], [cB e.p e.n e.low e.size e.owed, pD e.p, some (.box [.sl 3 0 (ys.length + 1), iv e.bits.length]), some (.ia .u8 (y :: ys)), wB (e.bits.take (8 * i)) 5, wD (e.bits.take (8 * i))], 6, 4⟩))) (ys.length + 1) [0, 3, 15, 16, 17] [4] [5] (by rfl) ?_ ?_
  · conv => whnf
    refine ⟨0, by omega, .inl ⟨rfl, ?_⟩⟩
    show St.mk [(0, .bp 0 0), (3, .bp 4 0), (15, .ri .u8 (((y :: ys).drop 0).take (ys.length + 1))), (16, iv (ys.length + 1 : Nat)), (17, iv 0)] _ _ _ = _
    rw [List.drop_zero, List.take_of_length_le (by simp)]
    rfl
  rintro k st ⟨i, hi, ⟨h0, rfl⟩ | ⟨h0, rfl⟩⟩
  · conv => whnf
    refine ifB_of (fun hd => ?_) (fun hd => ?_)
    · have hd : i < ys.length + 1 := by have := of_decide_eq_true hd; omega
      have h8 : 8 * i < e.bits.length := by omega
      have hg : (y :: ys).getD ((i : Nat) : Int).toNat 0 = byteAt (bitAt e.bits) i := by rw [Int.toNat_natCast]; exact hy1 i hd
      have hby := byte_in (bitAt e.bits) i
      have hq0 : 0 ≤ byteAt (bitAt e.bits) i / 2 ^ (8 - min 8 (e.bits.length - 8 * i)) := Int.ediv_nonneg hby.1 (Int.le_of_lt (Int.pow_pos (by omega)))
      have hq1 := Int.ediv_le_self (2 ^ (8 - min 8 (e.bits.length - 8 * i))) hby.1
      have st := byte_step e.bits i h8
      conv => whnf
      refine need_of ((decide_eq_true ⟨by omega, by simp; omega⟩)) ?_
      conv => whnf
      rw [hg]
      refine CallsF.call [2, 3] [] (wlen_app e.bits.length (ys.length + 1) (y :: ys)) rfl rfl rfl rfl rfl (.inl rfl) ?_
      conv => whnf
      refine ⟨.inl ⟨_, rfl⟩, ?_⟩
      conv => whnf
      rw [mx_eq h8 (by omega)]
      conv => whnf
      rw [shr_byte hby.1 hby.2 (by omega)]
      refine CallsF.call [2, 3] [] (wlen_app e.bits.length (ys.length + 1) (y :: ys)) rfl rfl rfl rfl rfl (.inl rfl) ?_
      conv => whnf
      rw [mn_eq h8 (by omega)]
      refine CallsF.call [4] [] (wput_nil (byteAt (bitAt e.bits) i / 2 ^ (8 - min 8 (e.bits.length - 8 * i))) hq0 (by omega) (min 8 (e.bits.length - 8 * i)) (by omega) (by omega)) rfl rfl rfl rfl rfl (.inl rfl) ?_
      conv => whnf
      rw [inc_nat (by omega)]
      refine ⟨(ys.length + 1 - (i + 1)), [0, 3, 15, 16, 17], [4, 5], [], by omega, rfl, ?_⟩
      conv => whnf
      refine ⟨i + 1, by omega, .inr ⟨by omega, ?_⟩⟩
      rw [← st, h0]
      rfl
    · have hd := of_decide_eq_false hd
      omega
  · conv => whnf
    refine ifB_of (fun hd => ?_) (fun hd => ?_)
    · have hd : i < ys.length + 1 := by have := of_decide_eq_true hd; omega
      have h8 : 8 * i < e.bits.length := by omega
      have hg : (y :: ys).getD ((i : Nat) : Int).toNat 0 = byteAt (bitAt e.bits) i := by rw [Int.toNat_natCast]; exact hy1 i hd
      have hby := byte_in (bitAt e.bits) i
      have hq0 : 0 ≤ byteAt (bitAt e.bits) i / 2 ^ (8 - min 8 (e.bits.length - 8 * i)) := Int.ediv_nonneg hby.1 (Int.le_of_lt (Int.pow_pos (by omega)))
      have hq1 := Int.ediv_le_self (2 ^ (8 - min 8 (e.bits.length - 8 * i))) hby.1
      have st := byte_step e.bits i h8
      conv => whnf
      refine need_of ((decide_eq_true ⟨by omega, by simp; omega⟩)) ?_
      conv => whnf
      rw [hg]
      refine CallsF.call [2, 3] [] (wlen_app e.bits.length (ys.length + 1) (y :: ys)) rfl rfl rfl rfl rfl (.inl rfl) ?_
      conv => whnf
      refine ⟨.inl ⟨_, rfl⟩, ?_⟩
      conv => whnf
      rw [mx_eq h8 (by omega)]
      conv => whnf
      rw [shr_byte hby.1 hby.2 (by omega)]
      refine CallsF.call [2, 3] [] (wlen_app e.bits.length (ys.length + 1) (y :: ys)) rfl rfl rfl rfl rfl (.inl rfl) ?_
      conv => whnf
      rw [mn_eq h8 (by omega)]
      refine CallsF.call [4, 5] [] (wput_app (byteAt (bitAt e.bits) i / 2 ^ (8 - min 8 (e.bits.length - 8 * i))) hq0 (by omega) (min 8 (e.bits.length - 8 * i)) (by omega) (by omega) (e.bits.take (8 * i)) (by simp; omega)) rfl rfl rfl rfl rfl (.inl rfl) ?_
      conv => whnf
      rw [inc_nat (by omega)]
      refine ⟨(ys.length + 1 - (i + 1)), [0, 3, 15, 16, 17], [4, 6], [], by omega, rfl, ?_⟩
      conv => whnf
      refine ⟨i + 1, by omega, .inr ⟨by omega, ?_⟩⟩
      rw [← st]
    · have hd := of_decide_eq_false hd
      have e8 : e.bits.take (8 * i) = e.bits := List.take_of_length_le (by omega)
      rw [e8]
      conv => whnf
      rw [up_eq hl0 (by omega), topB_eq hu.1 (by omega)]
      refine CallsF.call [4, 5] [] (write_app (topB (upN e.low)) e.owed e.bits (by omega)) rfl rfl rfl rfl rfl (.inl rfl) ?_
      conv => whnf
      rw [midB_eq hu.1 (by omega)]
      refine CallsF.call [4, 6] [] (wbit_spec (by simp [owes_len, Enc.all] at *; omega) (midB (upN e.low))) rfl rfl rfl rfl rfl (.inl rfl) ?_
      conv => whnf
      rw [hall]
      obtain ⟨x, xs, hx⟩ : ∃ x xs, pack e.all = x :: xs := by
        cases hq : pack e.all with
        | nil => have := congrArg List.length hq; rw [pack_len] at this; simp [Enc.all] at this; omega
        | cons x xs => exact ⟨x, xs, rfl⟩
      have hxl : xs.length + 1 = (e.all.length + 7) / 8 := by rw [← pack_len, hx]; rfl
      rw [hx]
      refine CallsF.call [4, 7] [] (wbytes_app e.all.length x xs (by omega)) rfl rfl rfl rfl rfl (.inl rfl) ?_
      conv => whnf
      have kt := trim_spec (x :: xs) (by simp; omega) (by simp)
      have hb : e.bytes = (x :: xs).take (trimL (x :: xs) (x :: xs).length) := by unfold Enc.bytes trim; rw [hx]
      cases hT : trimL (x :: xs) (x :: xs).length with
      | zero =>
        rw [hT] at kt hb
        refine CallsF.call [8] [] (kt) rfl rfl rfl rfl rfl (.inl rfl) ?_
        conv => whnf
        refine CallsF.call [8] [] (clone_sl0 (x :: xs)) rfl rfl rfl rfl rfl (.inl rfl) ?_
        conv => whnf
        exact ⟨[], [], rfl, by rw [hb]; rfl, rfl⟩
      | succ m =>
        rw [hT] at kt hb
        refine CallsF.call [8] [] (kt) rfl rfl rfl rfl rfl (.inl rfl) ?_
        conv => whnf
        refine CallsF.call [8] [] (clone_sl x xs m (by have := trimL_le (x :: xs) (x :: xs).length; simp at this hT; omega)) rfl rfl rfl rfl rfl (.inl rfl) ?_
        conv => whnf
        refine ⟨[], [9], rfl, ?_, rfl⟩
        rw [hb]
        show AV.ri .u8 (((x :: xs.take m).drop 0).take ((xs.take m).length + 1)) = .ri .u8 (x :: xs.take m)
        rw [List.drop_zero, List.take_of_length_le (by simp)]


end Go.Proofs.TrydN

