/- The document's layers 1, 4, 5: strings of bits, chances: the walk. -/
import Derived.Test.YtamgmfinkgdkjaaDoorN5Q
import Derived.Test.YtamgmfinkgdkjaaDoorF58
namespace Go.Proofs.TrydN
open Go Go.AL Go.Proofs

def chB (b : Bool) : UInt8 := match b with | true => 49 | false => 48
/-- Bits as a string. -/
def sB (l : List Bool) : ByteArray := ⟨(l.map chB).toArray⟩
theorem sB_app (l m : List Bool) : sB l ++ sB m = sB (l ++ m) := by
  apply ByteArray.ext
  simp [sB, ByteArray.data_append]
theorem sB_size (l : List Bool) : (sB l).size = l.length := by simp [sB, ByteArray.size]
theorem sB_cut (l : List Bool) (i j : Nat) : (sB l).extract i j = sB ((l.drop i).take (j - i)) := by
  apply ByteArray.ext
  rw [ByteArray.data_extract]
  apply Array.ext'
  simp [sB, List.map_drop, List.map_take]
theorem sB_at {l : List Bool} {i : Nat} (h : i < l.length) : (sB l).data.getD i 0 = chB l[i] := by
  simp [sB, Array.getD, h]
theorem sB_plus (l : List Bool) (b : Bool) : sB l ++ sB [b] = sB (l ++ [b]) := sB_app l [b]

theorem ctxs_spec (c : Int) : CallsF Tryd.prog 73 [iv c] [] (iv (ctxN c : Nat)) [] := by
  refine e73 ?_
  conv => whnf
  refine ifB_of (fun h => ?_) (fun h => ?_)
  · have h := of_decide_eq_true h
    conv => whnf
    exact ⟨[], [], rfl, congrArg iv (by unfold ctxN; omega), rfl⟩
  · have h := of_decide_eq_false h
    conv => whnf
    refine ifB_of (fun h2 => ?_) (fun h2 => ?_)
    · have h2 := of_decide_eq_true h2
      conv => whnf
      exact ⟨[], [], rfl, congrArg iv (by unfold ctxN; omega), rfl⟩
    · have h2 := of_decide_eq_false h2
      conv => whnf
      exact ⟨[], [], rfl, congrArg iv (by unfold ctxN; omega), rfl⟩

theorem fresh5_spec (c : Int) : CallsF Tryd.prog 40 [iv c] [] (.sl 0 0 (freshP c).length) [pD (freshP c)] := by
  have hc := ctxN_in c
  refine e40 ?_
  conv => whnf
  refine LoopA.inv (fun k st => ∃ i : Nat, i + k = ctxN c ∧ ((i = 0 ∧ st = ⟨[(0, iv c), (3, .snil), (4, iv 0)], [], 0, 0⟩) ∨ (i ≠ 0 ∧ st = ⟨[(0, iv c), (3, .sl 0 0 i), (4, iv i)], [pD (List.replicate i 32768)], 1, 0⟩))) (ctxN c) [0, 3, 4] [] [] (by rfl) ?_ ?_
  · conv => whnf
    exact ⟨0, by omega, .inl ⟨rfl, rfl⟩⟩
  rintro k st ⟨i, hi, ⟨h0, rfl⟩ | ⟨h0, rfl⟩⟩
  · subst h0
    conv => whnf
    refine CallsF.call [] [] (ctxs_spec c) rfl rfl rfl rfl rfl (.inl rfl) ?_
    conv => whnf
    refine ifB_of (fun hd => ?_) (fun hd => ?_)
    · conv => whnf
      refine ⟨(ctxN c - 1), [0, 3, 4], [1], [], by omega, rfl, ?_⟩
      conv => whnf
      exact ⟨1, by omega, .inr ⟨by omega, rfl⟩⟩
    · have hd := of_decide_eq_false hd
      omega
  · conv => whnf
    refine CallsF.call [] [] (ctxs_spec c) rfl rfl rfl rfl rfl (.inl rfl) ?_
    conv => whnf
    refine ifB_of (fun hd => ?_) (fun hd => ?_)
    · have hd := of_decide_eq_true hd
      conv => whnf
      refine need_of ((decide_eq_true ⟨by simp, by simp; omega⟩)) ?_
      conv => whnf
      rw [inc_nat (by omega)]
      refine ⟨(ctxN c - (i + 1)), [0, 3, 4], [2], [], by omega, rfl, ?_⟩
      conv => whnf
      refine ⟨i + 1, by omega, .inr ⟨by omega, ?_⟩⟩
      rw [List.replicate_succ']
      rfl
    · have hd := of_decide_eq_false hd
      obtain rfl : i = ctxN c := by omega
      conv => whnf
      refine ⟨[0], [], rfl, congrArg (AV.sl 0 0) ?_, rfl⟩
      simp [freshP]

theorem set_spec {p : List Int} {c : Int} (v : Int) (hc : hasC p c = true) (hb : p.length < 4294967296) : CallsF Tryd.prog 46 [.sl 0 0 p.length, iv c, iv v] [pD p] (.sl 1 0 p.length) [pD p, pD (p.set c.toNat v)] := by
  have hc2 := chance_at hc
  cases p with
  | nil => simp at hc2; omega
  | cons x xs =>
    refine e46 ?_
    conv => whnf
    refine need_of ((decide_eq_true (by simp at hb; simp; omega))) ?_
    conv => whnf
    refine need_of ((decide_eq_true ⟨by omega, by simp at hc2; simp; omega⟩)) ?_
    conv => whnf
    refine need_of ((decide_eq_true (by simp at hc2; simp; omega))) ?_
    conv => whnf
    rw [Nat.zero_add c.toNat, List.take_length]
    exact ⟨[1], [], rfl, rfl, rfl⟩

theorem near_spec {p : Int} (h0 : 0 ≤ p) (h1 : p ≤ 65535) : CallsF Tryd.prog 78 [iv p] [] (iv p) [] := by
  refine e78 ?_
  conv => whnf
  refine ifB_of (fun h => absurd h (by simp; omega)) (fun _ => ?_)
  conv => whnf
  refine ifB_of (fun h => absurd h (by simp; omega)) (fun _ => ?_)
  conv => whnf
  exact ⟨[], [], rfl, rfl, rfl⟩

theorem step4_spec {i : Int} (h0 : 0 ≤ i) (h1 : i ≤ 255) : CallsF Tryd.prog 79 [iv i] [] (iv (stepN i)) [] := by
  obtain ⟨k0, k1, k2, k3⟩ := stepN_in h0 h1
  refine e79 ?_
  conv => whnf
  refine ifB_of (fun h => absurd h (by simp; omega)) (fun _ => ?_)
  conv => whnf
  refine ifB_of (fun h => absurd h (by simp; omega)) (fun _ => ?_)
  conv => whnf
  rw [wrap_id (n := 384 + i) (by omega) (by omega), Int.add_comm 384 i, wrap_id (n := i * (i + 384)) (by omega) (by omega)]
  unfold stepN
  generalize i * (i + 384) = T at *
  refine LoopA.inv (fun k st => ∃ (n : Nat) (x : Int), 0 ≤ x ∧ 96 * n + x = T ∧ x.toNat = k ∧ st = ⟨[(3, iv n), (4, iv x)], [], 0, 0⟩) T.toNat [3, 4] [] [] (by rfl) ?_ ?_
  · conv => whnf
    exact ⟨0, T, k3, by omega, rfl, rfl⟩
  rintro k st ⟨n, x, hx, he, hk, rfl⟩
  conv => whnf
  refine ifB_of (fun hd => ?_) (fun hd => ?_)
  · have hd := of_decide_eq_true hd
    conv => whnf
    rw [inc_nat (by omega), wrap_id (n := x - 96) (by omega) (by omega)]
    refine ⟨((x - 96).toNat), [3, 4], [], [], by omega, rfl, ?_⟩
    conv => whnf
    exact ⟨n + 1, x - 96, by omega, by omega, rfl, rfl⟩
  · have hd := of_decide_eq_false hd
    conv => whnf
    exact ⟨[], [], rfl, congrArg iv (by omega), rfl⟩

theorem less4_spec {p : Int} (h : okP p) : CallsF Tryd.prog 47 [iv p] [] (iv (lessN p)) [] := by
  have k := lessN_ok h
  unfold okP at h k
  refine e47 ?_
  conv => whnf
  refine CallsF.call [] [] (near_spec (p := p) (by omega) (by omega)) rfl rfl rfl rfl rfl (.inl rfl) ?_
  conv => whnf
  rw [Int.tdiv_eq_ediv_of_nonneg (a := p) (by omega), wrap_id (n := p / 256) (by omega) (by omega)]
  refine CallsF.call [] [] (step4_spec (i := p / 256) (by omega) (by omega)) rfl rfl rfl rfl rfl (.inl rfl) ?_
  conv => whnf
  refine ⟨[], [], rfl, congrArg iv ?_, rfl⟩
  exact wrap_id (by unfold lessN at k; omega) (by unfold lessN at k; omega)

theorem more4_spec {p : Int} (h : okP p) : CallsF Tryd.prog 48 [iv p] [] (iv (moreN p)) [] := by
  have k := moreN_ok h
  unfold okP at h k
  refine e48 ?_
  conv => whnf
  refine CallsF.call [] [] (near_spec (p := p) (by omega) (by omega)) rfl rfl rfl rfl rfl (.inl rfl) ?_
  conv => whnf
  rw [Int.tdiv_eq_ediv_of_nonneg (a := p) (by omega), wrap_id (n := p / 256) (by omega) (by omega), wrap_id (n := 255 - p / 256) (by omega) (by omega)]
  refine CallsF.call [] [] (step4_spec (i := 255 - p / 256) (by omega) (by omega)) rfl rfl rfl rfl rfl (.inl rfl) ?_
  conv => whnf
  refine ⟨[], [], rfl, congrArg iv ?_, rfl⟩
  exact wrap_id (by unfold moreN at k; omega) (by unfold moreN at k; omega)

theorem turn5_spec {v : Int} (h0 : 0 ≤ v) (h1 : v < 65536) : CallsF Tryd.prog 49 [iv v] [] (iv (turnN v)) [] := by
  refine e49 ?_
  conv => whnf
  rw [Int.tdiv_eq_ediv_of_nonneg (a := v) (by omega), wrap_id (n := v / 16384) (by omega) (by omega), Int.tmod_eq_emod_of_nonneg (by omega)]
  by_cases h : v / 16384 % 2 = 1
  · rw [show (v / 16384 % 2 == 1) = true from beq_iff_eq.2 h]
    conv => whnf
    rw [wrap_id (by omega) (by omega)]
    exact ⟨[], [], rfl, congrArg iv (by unfold turnN; rw [if_pos h]), rfl⟩
  · rw [show (v / 16384 % 2 == 1) = false from beq_eq_false_iff_ne.2 h]
    conv => whnf
    rw [wrap_id (by omega) (by omega)]
    exact ⟨[], [], rfl, congrArg iv (by unfold turnN; rw [if_neg h]), rfl⟩

theorem one_spec {v : Int} {b : Bool} (h : v = b2i b) : CallsF Tryd.prog 50 [iv v] [] (.str (sB [b])) [] := by
  subst h
  cases b
  · refine e50 ?_
    conv => whnf
    exact ⟨[], [], rfl, rfl, rfl⟩
  · refine e50 ?_
    conv => whnf
    exact ⟨[], [], rfl, rfl, rfl⟩

theorem opp_spec {v : Int} {b : Bool} (h : v = b2i b) : CallsF Tryd.prog 51 [iv v] [] (.str (sB [!b])) [] := by
  subst h
  cases b
  · refine e51 ?_
    conv => whnf
    exact ⟨[], [], rfl, rfl, rfl⟩
  · refine e51 ?_
    conv => whnf
    exact ⟨[], [], rfl, rfl, rfl⟩

/-- A document's encoder. -/
abbrev rE (k : Nat) (e : Enc) : Option ABlk := some (.box [.sl k 0 e.p.length, iv e.low, iv e.size, iv e.owed, iv e.n, .str (sB e.bits)])

theorem newE5_spec (c : Int) : CallsF Tryd.prog 13 [iv c] [] (.bp 0 0) [rE 1 (Enc.new c), pD (freshP c)] := by
  refine e13 ?_
  conv => whnf
  refine CallsF.call [] [] (fresh5_spec c) rfl rfl rfl rfl rfl (.inl rfl) ?_
  conv => whnf
  exact ⟨[1, 0], [], rfl, rfl, rfl⟩

end Go.Proofs.TrydN

