/- Layer 1 and 5: bits put and owed bits: the walk. -/
import Derived.Test.YtamgmfinkgdkjaaDoorN5D
namespace Go.Proofs.TrydN
open Go Go.AL Go.Proofs

/-- A writer, where something is written. -/
abbrev wB (l : List Bool) (k : Nat) : Option ABlk := some (.box [.sl k 0 (pack l).length, iv l.length])
abbrev wD (l : List Bool) : Option ABlk := some (.ia .u8 (pack l))

theorem wbit_spec {l : List Bool} (hb : l.length < 4294967296) (b : Bool) : CallsF Tryd.prog 56 [.bp 0 0, .bool b] [wB l 1, wD l] (.tup []) [wB (l ++ [b]) 2, none, wD (l ++ [b])] := wbit_app rfl hb b

theorem wbitn_spec (b : Bool) : CallsF Tryd.prog 56 [.bp 0 0, .bool b] [some (.box [.snil, iv 0])] (.tup []) [wB [b] 1, wD [b]] := by
  have := wbit_nil b
  cases b <;> exact this

/-- Some bits of a number, the greatest first. -/
def bitsOf (v : Int) : Nat → List Bool
  | 0 => []
  | n + 1 => decide (v / 2 ^ n % 2 = 1) :: bitsOf v n
theorem bitsOf_len (v : Int) (n : Nat) : (bitsOf v n).length = n := by induction n <;> simp_all [bitsOf]

theorem bclamp_spec {n : Nat} (h : n ≤ 64) : CallsF Tryd.prog 80 [iv n] [] (iv n) [] := by
  refine e80 ?_
  conv => whnf
  refine ⟨[], [], rfl, congrArg iv ?_, rfl⟩
  rw [if_neg (by omega), if_neg (by omega)]

/-- A bit of a number, as it is asked for. -/
theorem bit_u64 {v : Int} {k : Nat} (h0 : 0 ≤ v) (h1 : v < 2 ^ 64) (hk : k < 64) : (IntKind.wrap .u64 ((BitVec.ofInt IntKind.u64.bits (v.fdiv (2 ^ min (k : Int).toNat IntKind.u64.bits)) &&& BitVec.ofInt IntKind.u64.bits 1).toNat : Nat) == 1) = decide (v / 2 ^ k % 2 = 1) := by
  have e1 : min (k : Int).toNat IntKind.u64.bits = k := by simp [IntKind.bits]; omega
  have p : (0 : Int) < 2 ^ k := Int.pow_pos (by omega)
  have e2 : v.fdiv (2 ^ k) = v / 2 ^ k := Int.fdiv_eq_ediv_of_nonneg v (by omega)
  rw [e1, e2]
  obtain ⟨q, hq⟩ : ∃ q : Nat, v / 2 ^ k = q := ⟨(v / 2 ^ k).toNat, by have := Int.ediv_nonneg h0 (Int.le_of_lt p); omega⟩
  have hqb : q < 2 ^ 64 := by have := Int.ediv_le_self (2 ^ k) h0; omega
  rw [hq]
  have e3 : (BitVec.ofInt IntKind.u64.bits (q : Int) &&& BitVec.ofInt IntKind.u64.bits 1).toNat = q % 2 := by
    show (BitVec.ofInt 64 (q : Int) &&& BitVec.ofInt 64 1).toNat = q % 2
    rw [BitVec.toNat_and, BitVec.ofInt_natCast, BitVec.toNat_ofNat, Nat.mod_eq_of_lt hqb, show (BitVec.ofInt 64 1).toNat = 1 from rfl]
    exact Nat.and_one_is_mod q
  rw [e3, wrap_u64 (by omega) (by omega), Bool.eq_iff_iff]
  simp

theorem dec1 {k : Nat} (h : k < 4294967296) : IntKind.wrap .i64 ((k : Int) - 1) = (k : Int) - 1 := wrap_id (by omega) (by omega)

theorem wput_app (v : Int) (h0 : 0 ≤ v) (h1 : v < 2 ^ 64) (n : Nat) (hn : n ≤ 64) (h00 : 0 < n) (l : List Bool) (hb : l.length < 4294967000) : CallsF Tryd.prog 53 [.bp 0 0, .int .u64 v, iv n] [wB l 1, wD l] (.tup []) [wB (l ++ bitsOf v n) 2, none, wD (l ++ bitsOf v n)] := by
  refine m53 1 ?_
  conv => whnf
  refine CallsF.call [] [] (bclamp_spec hn) rfl rfl rfl rfl rfl (.inl rfl) ?_
  conv => whnf
  rw [dec1 (by omega)]
  refine LoopA.inv (fun k st => k ≤ n ∧ ∃ p, p ++ bitsOf v k = l ++ bitsOf v n ∧ st = ⟨[(0, .bp 0 0), (1, .int .u64 v), (6, iv ((k : Int) - 1))], [wB p 1, wD p], 2, 1⟩) n [0, 1, 6] [1] [] (by rfl) ?_ ?_
  · conv => whnf
    exact ⟨Nat.le_refl _, l, rfl, rfl⟩
  rintro k st ⟨hk, p, hp, rfl⟩
  have hlen : p.length + k = l.length + n := by have := congrArg List.length hp; simpa [bitsOf_len] using this
  cases k with
  | zero =>
    obtain rfl : p = l ++ bitsOf v n := by rw [← hp]; simp [bitsOf]
    conv => whnf
    exact ⟨[1], [], rfl, rfl, rfl⟩
  | succ k =>
    rw [show (((k + 1 : Nat) : Int) - 1) = (k : Int) by omega]
    conv => whnf
    rw [bit_u64 h0 h1 (by omega)]
    refine CallsF.call [0, 1] [] (wbit_spec (l := p) (by omega) (decide (v / 2 ^ k % 2 = 1))) rfl rfl rfl rfl rfl (.inl rfl) ?_
    conv => whnf
    rw [dec1 (by omega)]
    refine ⟨k, [0, 1, 6], [2], [], by omega, rfl, ?_⟩
    conv => whnf
    exact ⟨by omega, p ++ [decide (v / 2 ^ k % 2 = 1)], by rw [← hp]; simp [bitsOf], rfl⟩

theorem wput_nil (v : Int) (h0 : 0 ≤ v) (h1 : v < 2 ^ 64) (n : Nat) (hn : n ≤ 64) (h00 : 0 < n) : CallsF Tryd.prog 53 [.bp 0 0, .int .u64 v, iv n] [some (.box [.snil, iv 0])] (.tup []) [wB (bitsOf v n) 1, wD (bitsOf v n)] := by
  refine m53 1 ?_
  conv => whnf
  refine CallsF.call [] [] (bclamp_spec hn) rfl rfl rfl rfl rfl (.inl rfl) ?_
  conv => whnf
  rw [dec1 (by omega)]
  refine LoopA.inv (fun k st => k ≤ n ∧ ((k = n ∧ st = ⟨[(0, .bp 0 0), (1, .int .u64 v), (6, iv ((k : Int) - 1))], [some (.box [.snil, iv 0])], 1, 1⟩) ∨ ∃ p, p ++ bitsOf v k = bitsOf v n ∧ st = ⟨[(0, .bp 0 0), (1, .int .u64 v), (6, iv ((k : Int) - 1))], [wB p 1, wD p], 2, 1⟩)) n [0, 1, 6] [] [] (by rfl) ?_ ?_
  · conv => whnf
    exact ⟨Nat.le_refl _, .inl ⟨rfl, rfl⟩⟩
  rintro k st ⟨hk, ⟨rfl, rfl⟩ | ⟨p, hp, rfl⟩⟩
  · obtain ⟨k, rfl⟩ : ∃ k', k = k' + 1 := ⟨k - 1, by omega⟩
    rw [show (((k + 1 : Nat) : Int) - 1) = (k : Int) by omega]
    conv => whnf
    rw [bit_u64 h0 h1 (by omega)]
    refine CallsF.call [0] [] (wbitn_spec (decide (v / 2 ^ k % 2 = 1))) rfl rfl rfl rfl rfl (.inl rfl) ?_
    conv => whnf
    rw [dec1 (by omega)]
    refine ⟨k, [0, 1, 6], [1], [], by omega, rfl, ?_⟩
    conv => whnf
    exact ⟨by omega, .inr ⟨[decide (v / 2 ^ k % 2 = 1)], by simp [bitsOf], rfl⟩⟩
  have hlen : p.length + k = n := by have := congrArg List.length hp; simpa [bitsOf_len] using this
  cases k with
  | zero =>
    obtain rfl : p = bitsOf v n := by rw [← hp]; simp [bitsOf]
    conv => whnf
    exact ⟨[1], [], rfl, rfl, rfl⟩
  | succ k =>
    rw [show (((k + 1 : Nat) : Int) - 1) = (k : Int) by omega]
    conv => whnf
    rw [bit_u64 h0 h1 (by omega)]
    refine CallsF.call [0, 1] [] (wbit_spec (l := p) (by omega) (decide (v / 2 ^ k % 2 = 1))) rfl rfl rfl rfl rfl (.inl rfl) ?_
    conv => whnf
    rw [dec1 (by omega)]
    refine ⟨k, [0, 1, 6], [2], [], by omega, rfl, ?_⟩
    conv => whnf
    exact ⟨by omega, .inr ⟨p ++ [decide (v / 2 ^ k % 2 = 1)], by rw [← hp]; simp [bitsOf], rfl⟩⟩

/-- A bit, with those that are owed. -/
def owes (b : Bool) (k : Nat) : List Bool := b :: List.replicate k (!b)
theorem owes_step (b : Bool) (k : Nat) : owes b (k + 1) = owes b k ++ [!b] := by simp [owes, List.replicate_succ']

theorem write_app (b : Bool) (k : Nat) (l : List Bool) (hb : l.length + k < 4294967000) : CallsF Tryd.prog 55 [.bp 0 0, .bool b, iv k] [wB l 1, wD l] (.tup []) [wB (l ++ owes b k) 2, none, wD (l ++ owes b k)] := by
  refine m55 1 ?_
  conv => whnf
  refine CallsF.call [0, 1] [] (wbit_spec (l := l) (by omega) b) rfl rfl rfl rfl rfl (.inl rfl) ?_
  conv => whnf
  refine LoopA.inv (fun j st => ∃ i : Nat, i + j = k ∧ st = ⟨[(0, .bp 0 0), (1, .bool b), (9, iv k), (10, iv i)], [wB (l ++ owes b i) 1, wD (l ++ owes b i)], 2, 1⟩) k [0, 1, 9, 10] [2] [] (by rfl) ?_ ?_
  · conv => whnf
    exact ⟨0, by omega, rfl⟩
  rintro j st ⟨i, hi, rfl⟩
  conv => whnf
  refine ifB_of (fun h => ?_) (fun h => ?_)
  · have h := of_decide_eq_true h
    conv => whnf
    refine CallsF.call [0, 1] [] (wbit_spec (l := l ++ owes b i) (by simp [owes]; omega) (!b)) rfl rfl rfl rfl rfl (.inl rfl) ?_
    conv => whnf
    rw [inc_nat (by omega)]
    refine ⟨(k - (i + 1)), [0, 1, 9, 10], [2], [], by omega, rfl, ?_⟩
    conv => whnf
    refine ⟨i + 1, by omega, ?_⟩
    rw [owes_step, ← List.append_assoc]
  · have h := of_decide_eq_false h
    obtain rfl : i = k := by omega
    conv => whnf
    exact ⟨[1], [], rfl, rfl, rfl⟩

theorem write_nil (b : Bool) (k : Nat) (hb : k < 4294967000) : CallsF Tryd.prog 55 [.bp 0 0, .bool b, iv k] [some (.box [.snil, iv 0])] (.tup []) [wB (owes b k) 1, wD (owes b k)] := by
  refine m55 1 ?_
  conv => whnf
  refine CallsF.call [0] [] (wbitn_spec b) rfl rfl rfl rfl rfl (.inl rfl) ?_
  conv => whnf
  refine LoopA.inv (fun j st => ∃ i : Nat, i + j = k ∧ st = ⟨[(0, .bp 0 0), (1, .bool b), (9, iv k), (10, iv i)], [wB (owes b i) 1, wD (owes b i)], 2, 1⟩) k [0, 1, 9, 10] [1] [] (by rfl) ?_ ?_
  · conv => whnf
    exact ⟨0, by omega, rfl⟩
  rintro j st ⟨i, hi, rfl⟩
  conv => whnf
  refine ifB_of (fun h => ?_) (fun h => ?_)
  · have h := of_decide_eq_true h
    conv => whnf
    refine CallsF.call [0, 1] [] (wbit_spec (l := owes b i) (by simp [owes]; omega) (!b)) rfl rfl rfl rfl rfl (.inl rfl) ?_
    conv => whnf
    rw [inc_nat (by omega)]
    refine ⟨(k - (i + 1)), [0, 1, 9, 10], [2], [], by omega, rfl, ?_⟩
    conv => whnf
    refine ⟨i + 1, by omega, ?_⟩
    rw [owes_step]
  · have h := of_decide_eq_false h
    obtain rfl : i = k := by omega
    conv => whnf
    exact ⟨[1], [], rfl, rfl, rfl⟩


end Go.Proofs.TrydN

