/- Layer 5: the encoder: the walk. -/
import Derived.Test.YtamgmfinkgdkjaaDoorN5G
namespace Go.Proofs.TrydN
open Go Go.AL Go.Proofs

theorem count0_spec (p : List Int) (n : Nat) (low size x : Int) : CallsF Tryd.prog 20 [.bp 0 0] [cB p n low size x, pD p, some (.box [.snil, iv 0])] (iv n) [cB p n low size x, pD p, some (.box [.snil, iv 0])] := by
  refine e20 ?_
  conv => whnf
  exact ⟨[], [], rfl, rfl, rfl⟩

theorem chances0_spec (p : List Int) (n : Nat) (low size x : Int) (h0 : p ≠ []) (hb : p.length < 4294967296) : CallsF Tryd.prog 19 [.bp 0 0] [cB p n low size x, pD p, some (.box [.snil, iv 0])] (.ri .i64 p) [cB p n low size x, pD p, some (.box [.snil, iv 0])] := by
  cases p with
  | nil => exact absurd rfl h0
  | cons y ys =>
    refine e19 ?_
    conv => whnf
    refine CallsF.call [1] [] (iclone_sl y ys (by simp at hb; omega)) rfl rfl rfl rfl rfl (.inl rfl) ?_
    conv => whnf
    exact ⟨[], [], rfl, rfl, rfl⟩

theorem count1_spec (p : List Int) (n : Nat) (low size x : Int) (l : List Bool) : CallsF Tryd.prog 20 [.bp 0 0] [cB p n low size x, pD p, wB l 3, wD l] (iv n) [cB p n low size x, pD p, wB l 3, wD l] := by
  refine e20 ?_
  conv => whnf
  exact ⟨[], [], rfl, rfl, rfl⟩

theorem chances1_spec (p : List Int) (n : Nat) (low size x : Int) (l : List Bool) (h0 : p ≠ []) (hb : p.length < 4294967296) : CallsF Tryd.prog 19 [.bp 0 0] [cB p n low size x, pD p, wB l 3, wD l] (.ri .i64 p) [cB p n low size x, pD p, wB l 3, wD l] := by
  cases p with
  | nil => exact absurd rfl h0
  | cons y ys =>
    refine e19 ?_
    conv => whnf
    refine CallsF.call [1] [] (iclone_sl y ys (by simp at hb; omega)) rfl rfl rfl rfl rfl (.inl rfl) ?_
    conv => whnf
    exact ⟨[], [], rfl, rfl, rfl⟩

theorem count2_spec (p : List Int) (n : Nat) (low size x : Int) (bs : List Int) (pos over : Nat) : CallsF Tryd.prog 26 [.bp 0 0] [cB p n low size x, pD p, some (.box [.ri .u8 bs, iv pos, iv over])] (iv n) [cB p n low size x, pD p, some (.box [.ri .u8 bs, iv pos, iv over])] := by
  refine e26 ?_
  conv => whnf
  exact ⟨[], [], rfl, rfl, rfl⟩

theorem chances2_spec (p : List Int) (n : Nat) (low size x : Int) (bs : List Int) (pos over : Nat) (h0 : p ≠ []) (hb : p.length < 4294967296) : CallsF Tryd.prog 25 [.bp 0 0] [cB p n low size x, pD p, some (.box [.ri .u8 bs, iv pos, iv over])] (.ri .i64 p) [cB p n low size x, pD p, some (.box [.ri .u8 bs, iv pos, iv over])] := by
  cases p with
  | nil => exact absurd rfl h0
  | cons y ys =>
    refine e25 ?_
    conv => whnf
    refine CallsF.call [1] [] (iclone_sl y ys (by simp at hb; omega)) rfl rfl rfl rfl rfl (.inl rfl) ?_
    conv => whnf
    exact ⟨[], [], rfl, rfl, rfl⟩

def ctxN (c : Int) : Nat := (min (max c 1) 64).toNat
theorem ctxN_in (c : Int) : 1 ≤ ctxN c ∧ ctxN c ≤ 64 := by unfold ctxN; omega
theorem ctx_eq (c : Int) : (if (64 : Int) < (if (1 : Int) > c then 1 else c) then (64 : Int) else (if (1 : Int) > c then 1 else c)) = ((ctxN c : Nat) : Int) := by
  unfold ctxN; split <;> split <;> omega
def freshP (c : Int) : List Int := List.replicate (ctxN c) 32768

theorem rep_set {i N : Nat} (a b : Int) (h : i < N) : (List.replicate i a ++ List.replicate (N - i) b).set i a = List.replicate (i + 1) a ++ List.replicate (N - (i + 1)) b := by
  rw [List.set_append_right _ _ (by simp), List.length_replicate, Nat.sub_self, show N - i = (N - (i + 1)) + 1 by omega, List.replicate_succ, List.set_cons_zero, List.replicate_succ', List.append_assoc]
  rfl

theorem fresh_spec (c : Int) : CallsF Tryd.prog 39 [iv c] [] (.agg [.sl 0 0 (ctxN c), iv 0]) [pD (freshP c)] := by
  obtain ⟨k1, k2⟩ := ctxN_in c
  refine e39 ?_
  conv => whnf
  rw [ctx_eq]
  unfold freshP
  generalize ctxN c = N at *
  refine need_of ((decide_eq_true ⟨by omega, rfl, by omega⟩)) ?_
  conv => whnf
  refine LoopA.inv (fun j st => ∃ i : Nat, i + j = N ∧ st = ⟨[(2, .bp 0 0), (3, .sl 1 0 N), (9, .sl 1 0 N), (10, iv N), (11, iv i)], [some (.box [.snil, iv 0]), some (.ia .i64 (List.replicate i 32768 ++ List.replicate (N - i) 0))], 2, 0⟩) N [2, 3, 9, 10, 11] [0, 1] [] (by rfl) ?_ ?_
  · conv => whnf
    exact ⟨0, by omega, rfl⟩
  rintro j st ⟨i, hi, rfl⟩
  have hl : (List.replicate i (32768 : Int) ++ List.replicate (N - i) 0).length = N := by simp; omega
  conv => whnf
  refine ifB_of (fun h => ?_) (fun h => ?_)
  · have h := of_decide_eq_true h
    have ht : 0 + ((i : Nat) : Int).toNat = i := by rw [Int.toNat_natCast, Nat.zero_add]
    conv => whnf
    refine need_of ((decide_eq_true ⟨by omega, by omega⟩)) ?_
    conv => whnf
    refine need_of ((decide_eq_true (by omega))) ?_
    conv => whnf
    rw [inc_nat (by omega), ht, rep_set _ _ (by omega)]
    refine ⟨(N - (i + 1)), [2, 3, 9, 10, 11], [0, 1], [], by omega, rfl, ?_⟩
    conv => whnf
    exact ⟨i + 1, by omega, rfl⟩
  · have h := of_decide_eq_false h
    obtain rfl : i = N := by omega
    rw [Nat.sub_self, List.replicate_zero, List.append_nil]
    conv => whnf
    exact ⟨[1], [], rfl, rfl, rfl⟩

theorem shift1_spec (p : List Int) (n : Nat) {low size : Int} (owed : Nat) (l : List Bool) (h0 : 0 ≤ low) (h1 : 1 ≤ size) (h2 : low + size ≤ 65536) (hb : l.length + owed < 4294960000) :
    CallsF Tryd.prog 45 [.bp 0 0] [cB p n low size owed, pD p, wB l 3, wD l] (.tup []) (match strad low size with
      | true => [cB p n (lowS low size) (2 * size) (owed + 1 : Nat), pD p, wB l 4, none, wD l]
      | false => [cB p n (lowS low size) (2 * size) 0, pD p, wB (l ++ owes (topB low) owed) 4, none, wD (l ++ owes (topB low) owed)]) := by
  refine m45 3 ?_
  conv => whnf
  refine CallsF.call [] [] (strad_spec h0 h1 h2) rfl rfl rfl rfl rfl (.inl rfl) ?_
  conv => whnf
  cases hs : strad low size
  · rw [show lowS low size = 2 * low % 65536 by simp [lowS, hs]]
    conv => whnf
    rw [topB_eq h0 (by omega)]
    refine CallsF.call [2, 3] [] (write_app (topB low) owed l (by omega)) rfl rfl rfl rfl rfl (.inl rfl) ?_
    conv => whnf
    refine CallsF.call [0, 1, 2, 4] [] (double1_spec p n low size 0 (l ++ owes (topB low) owed) h0 (by omega) (by omega) (by omega)) rfl rfl rfl rfl rfl (.inl rfl) ?_
    conv => whnf
    exact ⟨[4], [], rfl, rfl, rfl⟩
  · have ht := turnN_in h0 (show low < 65536 by omega)
    rw [show lowS low size = 2 * turnN low % 65536 by simp [lowS, hs]]
    conv => whnf
    rw [turn_eq h0 (by omega), inc_nat (by omega)]
    refine CallsF.call [0, 1, 2, 3] [] (double1_spec p n (turnN low) size (owed + 1 : Nat) l ht.1 ht.2 (by omega) (by omega)) rfl rfl rfl rfl rfl (.inl rfl) ?_
    conv => whnf
    exact ⟨[3], [], rfl, rfl, rfl⟩

theorem shift0_spec (p : List Int) (n : Nat) {low size : Int} (owed : Nat) (h0 : 0 ≤ low) (h1 : 1 ≤ size) (h2 : low + size ≤ 65536) (hb : owed < 4294960000) :
    CallsF Tryd.prog 45 [.bp 0 0] [cB p n low size owed, pD p, some (.box [.snil, iv 0])] (.tup []) (match strad low size with
      | true => [cB p n (lowS low size) (2 * size) (owed + 1 : Nat), pD p, some (.box [.snil, iv 0])]
      | false => [cB p n (lowS low size) (2 * size) 0, pD p, wB (owes (topB low) owed) 3, wD (owes (topB low) owed)]) := by
  refine m45 3 ?_
  conv => whnf
  refine CallsF.call [] [] (strad_spec h0 h1 h2) rfl rfl rfl rfl rfl (.inl rfl) ?_
  conv => whnf
  cases hs : strad low size
  · rw [show lowS low size = 2 * low % 65536 by simp [lowS, hs]]
    conv => whnf
    rw [topB_eq h0 (by omega)]
    refine CallsF.call [2] [] (write_nil (topB low) owed (by omega)) rfl rfl rfl rfl rfl (.inl rfl) ?_
    conv => whnf
    refine CallsF.call [0, 1, 2, 3] [] (double1_spec p n low size 0 (owes (topB low) owed) h0 (by omega) (by omega) (by omega)) rfl rfl rfl rfl rfl (.inl rfl) ?_
    conv => whnf
    exact ⟨[3], [], rfl, rfl, rfl⟩
  · have ht := turnN_in h0 (show low < 65536 by omega)
    rw [show lowS low size = 2 * turnN low % 65536 by simp [lowS, hs]]
    conv => whnf
    rw [turn_eq h0 (by omega), inc_nat (by omega)]
    refine CallsF.call [0, 1, 2] [] (double0_spec p n (turnN low) size (owed + 1 : Nat) ht.1 ht.2 (by omega) (by omega)) rfl rfl rfl rfl rfl (.inl rfl) ?_
    conv => whnf
    exact ⟨[], [], rfl, rfl, rfl⟩

theorem newE_spec (c : Int) : CallsF Tryd.prog 12 [iv c] [] (.bp 0 0) [cB (freshP c) 0 0 65536 0, pD (freshP c), some (.box [.snil, iv 0])] := by
  refine e12 ?_
  conv => whnf
  refine CallsF.call [] [] (fresh_spec c) rfl rfl rfl rfl rfl (.inl rfl) ?_
  conv => whnf
  refine ⟨[2, 0, 1], [], rfl, rfl, ?_⟩
  show [some (ABlk.box [.sl 1 0 (ctxN c), iv 0, iv 0, iv 65536, iv 0, .bp 2 0]), pD (freshP c), some (.box [.snil, iv 0])] = _
  have e : (freshP c).length = ctxN c := by simp [freshP]
  rw [← e]
  rfl

end Go.Proofs.TrydN

