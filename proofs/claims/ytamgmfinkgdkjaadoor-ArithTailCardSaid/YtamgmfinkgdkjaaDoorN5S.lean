/- Layer 5: the bytes of an encoder, in a block of their own: the walk (L5J's, with another end). -/
import Derived.Test.YtamgmfinkgdkjaaDoorN5Q
namespace Go.Proofs.TrydN
open Go Go.AL Go.Proofs

def bytesO (k : Nat) (xs : List Int) : AV := match xs with
  | [] => .semp
  | _ :: r => .sl k 0 (r.length + 1)
def bytesH (xs : List Int) : AHeap := match xs with
  | [] => []
  | x :: r => [some (.ia .u8 (x :: r))]

theorem bytes0o_spec (e : Enc) (hb0 : e.bits = []) (h : okE e) : CallsF Tryd.prog 16 [.bp 0 0] (hE0 e) (bytesO 3 e.bytes) (hE0 e ++ bytesH e.bytes) := by
  obtain ⟨⟨hp, hl0, hs0, htop⟩, hbig, hn, hlen⟩ := h
  have hu := upN_in hl0 (by omega)
  have hal : e.all.length = e.bits.length + e.owed + 2 := by simp [Enc.all, owes_len]; omega
  have hall : owes (topB (upN e.low)) e.owed ++ [midB (upN e.low)] = e.all := by simp [Enc.all, hb0]
  refine e16 ?_
  conv => whnf
  refine CallsF.call [2] [] (wbytes_nil) rfl rfl rfl rfl rfl (.inl rfl) ?_
  conv => whnf
  refine LoopA.inv (fun k st => k = 0 ∧ st = ⟨[(0, .bp 0 0), (3, .bp 3 0), (16, iv 0), (17, iv 0)], [cB e.p e.n e.low e.size e.owed, pD e.p, some (.box [.snil, iv 0]), some (.box [.snil, iv 0])], 4, 3⟩) 0 [0, 3, 16, 17] [3] [] (by rfl) ?_ ?_
  · conv => whnf
    exact ⟨rfl, rfl⟩
  rintro k st ⟨rfl, rfl⟩
  conv => whnf
  rw [up_eq hl0 (by omega), topB_eq hu.1 (by omega)]
  refine CallsF.call [3] [] (write_nil (topB (upN e.low)) e.owed (by omega)) rfl rfl rfl rfl rfl (.inl rfl) ?_
  conv => whnf
  rw [midB_eq hu.1 (by omega)]
  refine CallsF.call [3, 4] [] (wbit_spec (by simp [owes_len, Enc.all] at *; omega) (midB (upN e.low))) rfl rfl rfl rfl rfl (.inl rfl) ?_
  conv => whnf
  rw [hall]
  obtain ⟨x, xs, hx⟩ : ∃ x xs, pack e.all = x :: xs := by
    cases hq : pack e.all with
    | nil => have := congrArg List.length hq; rw [pack_len] at this; simp [Enc.all] at this; omega
    | cons x xs => exact ⟨x, xs, rfl⟩
  have hxl : xs.length + 1 = (e.all.length + 7) / 8 := by rw [← pack_len, hx]; rfl
  rw [hx]
  refine CallsF.call [3, 5] [] (wbytes_app e.all.length x xs (by omega)) rfl rfl rfl rfl rfl (.inl rfl) ?_
  conv => whnf
  have kt := trim_spec (x :: xs) (by simp; omega) (by simp)
  have hb : e.bytes = (x :: xs).take (trimL (x :: xs) (x :: xs).length) := by unfold Enc.bytes trim; rw [hx]
  cases hT : trimL (x :: xs) (x :: xs).length with
  | zero =>
    rw [hT] at kt hb
    refine CallsF.call [6] [] (kt) rfl rfl rfl rfl rfl (.inl rfl) ?_
    conv => whnf
    refine CallsF.call [6] [] (clone_sl0 (x :: xs)) rfl rfl rfl rfl rfl (.inl rfl) ?_
    conv => whnf
    exact ⟨[], [], rfl, by rw [hb]; rfl, by rw [hb]; rfl⟩
  | succ m =>
    rw [hT] at kt hb
    refine CallsF.call [6] [] (kt) rfl rfl rfl rfl rfl (.inl rfl) ?_
    conv => whnf
    refine CallsF.call [6] [] (clone_sl x xs m (by have := trimL_le (x :: xs) (x :: xs).length; simp at this hT; omega)) rfl rfl rfl rfl rfl (.inl rfl) ?_
    conv => whnf
    exact ⟨[7], [], rfl, by rw [hb]; rfl, by rw [hb]; rfl⟩

theorem bytes1o_spec (e : Enc) (hb0 : e.bits ≠ []) (h : okE e) : CallsF Tryd.prog 16 [.bp 0 0] (hE1 e) (bytesO 4 e.bytes) (hE1 e ++ bytesH e.bytes) := by
  obtain ⟨⟨hp, hl0, hs0, htop⟩, hbig, hn, hlen⟩ := h
  have hu := upN_in hl0 (by omega)
  have hal : e.all.length = e.bits.length + e.owed + 2 := by simp [Enc.all, owes_len]; omega
  have hall : e.bits ++ owes (topB (upN e.low)) e.owed ++ [midB (upN e.low)] = e.all := rfl
  obtain ⟨y, ys, hy⟩ : ∃ y ys, pack e.bits = y :: ys := by
    cases hq : pack e.bits with
    | nil => have := congrArg List.length hq; rw [pack_len] at this; cases hb : e.bits <;> simp [hb] at hb0 this; omega
    | cons x xs => exact ⟨x, xs, rfl⟩
  have hyl : ys.length + 1 = (e.bits.length + 7) / 8 := by rw [← pack_len, hy]; rfl
  have hy1 : ∀ i, i < ys.length + 1 → (y :: ys).getD i 0 = byteAt (bitAt e.bits) i := fun i hi => by rw [← hy, List.getD, pack_get (by omega)]; rfl
  have hE : hE1 e = [cB e.p e.n e.low e.size e.owed, pD e.p, some (.box [.sl 3 0 (ys.length + 1), iv e.bits.length]), some (.ia .u8 (y :: ys))] := by
    show [cB e.p e.n e.low e.size e.owed, pD e.p, some (ABlk.box [.sl 3 0 (pack e.bits).length, iv e.bits.length]), some (ABlk.ia .u8 (pack e.bits))] = _
    rw [hy]; rfl
  rw [hE]
  refine e16 ?_
  conv => whnf
  refine CallsF.call [2, 3] [] (wbytes_app e.bits.length y ys (by omega)) rfl rfl rfl rfl rfl (.inl rfl) ?_
  conv => whnf
  refine LoopA.inv (fun k st => ∃ i : Nat, i + k = ys.length + 1 ∧ ((i = 0 ∧ st = ⟨[(0, .bp 0 0), (3, .bp 4 0), (15, .ri .u8 (y :: ys)), (16, iv (ys.length + 1 : Nat)), (17, iv i)], [cB e.p e.n e.low e.size e.owed, pD e.p, some (.box [.sl 3 0 (ys.length + 1), iv e.bits.length]), some (.ia .u8 (y :: ys)), some (.box [.snil, iv 0])], 5, 4⟩) ∨ (i ≠ 0 ∧ st = ⟨[(0, .bp 0 0), (3, .bp 4 0), (15, .ri .u8 (y :: ys)), (16, iv (ys.length + 1 : Nat)), (17, iv i)], [cB e.p e.n e.low e.size e.owed, pD e.p, some (.box [.sl 3 0 (ys.length + 1), iv e.bits.length]), some (.ia .u8 (y :: ys)), wB (e.bits.take (8 * i)) 5, wD (e.bits.take (8 * i))], 6, 4⟩))) (ys.length + 1) [0, 3, 15, 16, 17] [4] [5] (by rfl) ?_ ?_
  · conv => whnf
    refine ⟨0, by omega, .inl ⟨rfl, ?_⟩⟩
    show St.mk [(0, .bp 0 0), (3, .bp 4 0), (15, .ri .u8 (((y :: ys).drop 0).take (ys.length + 1))), (16, iv (ys.length + 1 : Nat)), (17, iv 0)] _ _ _ = _
    rw [List.drop_zero, List.take_of_length_le (by simp)]
    rfl
  rintro k st ⟨i, hi, ⟨h0, rfl⟩ | ⟨h0, rfl⟩⟩
  · conv => whnf
    refine ifB_of (fun hd => ?_) (fun hd => ?_)
    · have hd : i < ys.length + 1 := by have := of_decide_eq_true hd; omega
      have h8 : 8 * i < e.bits.length := by omega
      have hg : (y :: ys).getD ((i : Nat) : Int).toNat 0 = byteAt (bitAt e.bits) i := by rw [Int.toNat_natCast]; exact hy1 i hd
      have hby := byte_in (bitAt e.bits) i
      have hq0 : 0 ≤ byteAt (bitAt e.bits) i / 2 ^ (8 - min 8 (e.bits.length - 8 * i)) := Int.ediv_nonneg hby.1 (Int.le_of_lt (Int.pow_pos (by omega)))
      have hq1 := Int.ediv_le_self (2 ^ (8 - min 8 (e.bits.length - 8 * i))) hby.1
      have st := byte_step e.bits i h8
      conv => whnf
      refine need_of ((decide_eq_true ⟨by omega, by simp; omega⟩)) ?_
      conv => whnf
      rw [hg]
      refine CallsF.call [2, 3] [] (wlen_app e.bits.length (ys.length + 1) (y :: ys)) rfl rfl rfl rfl rfl (.inl rfl) ?_
      conv => whnf
      refine ⟨.inl ⟨_, rfl⟩, ?_⟩
      conv => whnf
      rw [mx_eq h8 (by omega)]
      conv => whnf
      rw [shr_byte hby.1 hby.2 (by omega)]
      refine CallsF.call [2, 3] [] (wlen_app e.bits.length (ys.length + 1) (y :: ys)) rfl rfl rfl rfl rfl (.inl rfl) ?_
      conv => whnf
      rw [mn_eq h8 (by omega)]
      refine CallsF.call [4] [] (wput_nil (byteAt (bitAt e.bits) i / 2 ^ (8 - min 8 (e.bits.length - 8 * i))) hq0 (by omega) (min 8 (e.bits.length - 8 * i)) (by omega) (by omega)) rfl rfl rfl rfl rfl (.inl rfl) ?_
      conv => whnf
      rw [inc_nat (by omega)]
      refine ⟨(ys.length + 1 - (i + 1)), [0, 3, 15, 16, 17], [4, 5], [], by omega, rfl, ?_⟩
      conv => whnf
      refine ⟨i + 1, by omega, .inr ⟨by omega, ?_⟩⟩
      rw [← st, h0]
      rfl
    · have hd := of_decide_eq_false hd
      omega
  · conv => whnf
    refine ifB_of (fun hd => ?_) (fun hd => ?_)
    · have hd : i < ys.length + 1 := by have := of_decide_eq_true hd; omega
      have h8 : 8 * i < e.bits.length := by omega
      have hg : (y :: ys).getD ((i : Nat) : Int).toNat 0 = byteAt (bitAt e.bits) i := by rw [Int.toNat_natCast]; exact hy1 i hd
      have hby := byte_in (bitAt e.bits) i
      have hq0 : 0 ≤ byteAt (bitAt e.bits) i / 2 ^ (8 - min 8 (e.bits.length - 8 * i)) := Int.ediv_nonneg hby.1 (Int.le_of_lt (Int.pow_pos (by omega)))
      have hq1 := Int.ediv_le_self (2 ^ (8 - min 8 (e.bits.length - 8 * i))) hby.1
      have st := byte_step e.bits i h8
      conv => whnf
      refine need_of ((decide_eq_true ⟨by omega, by simp; omega⟩)) ?_
      conv => whnf
      rw [hg]
      refine CallsF.call [2, 3] [] (wlen_app e.bits.length (ys.length + 1) (y :: ys)) rfl rfl rfl rfl rfl (.inl rfl) ?_
      conv => whnf
      refine ⟨.inl ⟨_, rfl⟩, ?_⟩
      conv => whnf
      rw [mx_eq h8 (by omega)]
      conv => whnf
      rw [shr_byte hby.1 hby.2 (by omega)]
      refine CallsF.call [2, 3] [] (wlen_app e.bits.length (ys.length + 1) (y :: ys)) rfl rfl rfl rfl rfl (.inl rfl) ?_
      conv => whnf
      rw [mn_eq h8 (by omega)]
      refine CallsF.call [4, 5] [] (wput_app (byteAt (bitAt e.bits) i / 2 ^ (8 - min 8 (e.bits.length - 8 * i))) hq0 (by omega) (min 8 (e.bits.length - 8 * i)) (by omega) (by omega) (e.bits.take (8 * i)) (by simp; omega)) rfl rfl rfl rfl rfl (.inl rfl) ?_
      conv => whnf
      rw [inc_nat (by omega)]
      refine ⟨(ys.length + 1 - (i + 1)), [0, 3, 15, 16, 17], [4, 6], [], by omega, rfl, ?_⟩
      conv => whnf
      refine ⟨i + 1, by omega, .inr ⟨by omega, ?_⟩⟩
      rw [← st]
    · have hd := of_decide_eq_false hd
      have e8 : e.bits.take (8 * i) = e.bits := List.take_of_length_le (by omega)
      rw [e8]
      conv => whnf
      rw [up_eq hl0 (by omega), topB_eq hu.1 (by omega)]
      refine CallsF.call [4, 5] [] (write_app (topB (upN e.low)) e.owed e.bits (by omega)) rfl rfl rfl rfl rfl (.inl rfl) ?_
      conv => whnf
      rw [midB_eq hu.1 (by omega)]
      refine CallsF.call [4, 6] [] (wbit_spec (by simp [owes_len, Enc.all] at *; omega) (midB (upN e.low))) rfl rfl rfl rfl rfl (.inl rfl) ?_
      conv => whnf
      rw [hall]
      obtain ⟨x, xs, hx⟩ : ∃ x xs, pack e.all = x :: xs := by
        cases hq : pack e.all with
        | nil => have := congrArg List.length hq; rw [pack_len] at this; simp [Enc.all] at this; omega
        | cons x xs => exact ⟨x, xs, rfl⟩
      have hxl : xs.length + 1 = (e.all.length + 7) / 8 := by rw [← pack_len, hx]; rfl
      rw [hx]
      refine CallsF.call [4, 7] [] (wbytes_app e.all.length x xs (by omega)) rfl rfl rfl rfl rfl (.inl rfl) ?_
      conv => whnf
      have kt := trim_spec (x :: xs) (by simp; omega) (by simp)
      have hb : e.bytes = (x :: xs).take (trimL (x :: xs) (x :: xs).length) := by unfold Enc.bytes trim; rw [hx]
      cases hT : trimL (x :: xs) (x :: xs).length with
      | zero =>
        rw [hT] at kt hb
        refine CallsF.call [8] [] (kt) rfl rfl rfl rfl rfl (.inl rfl) ?_
        conv => whnf
        refine CallsF.call [8] [] (clone_sl0 (x :: xs)) rfl rfl rfl rfl rfl (.inl rfl) ?_
        conv => whnf
        exact ⟨[], [], rfl, by rw [hb]; rfl, by rw [hb]; rfl⟩
      | succ m =>
        rw [hT] at kt hb
        refine CallsF.call [8] [] (kt) rfl rfl rfl rfl rfl (.inl rfl) ?_
        conv => whnf
        refine CallsF.call [8] [] (clone_sl x xs m (by have := trimL_le (x :: xs) (x :: xs).length; simp at this hT; omega)) rfl rfl rfl rfl rfl (.inl rfl) ?_
        conv => whnf
        exact ⟨[9], [], rfl, by rw [hb]; rfl, by rw [hb]; rfl⟩


end Go.Proofs.TrydN

