/- Layer 6: digits of numbers, sets of contexts: the walk. -/
import Derived.Test.YtamgmfinkgdkjaaDoorN5Q
import Derived.Test.YtamgmfinkgdkjaaDoorF62
namespace Go.Proofs.TrydN
open Go Go.AL Go.Proofs

theorem log_eq {x L : Nat} (h1 : 2 ^ L ≤ x) (h2 : x < 2 ^ (L + 1)) : Nat.log2 x = L := (Nat.log2_eq_iff (by have := Nat.two_pow_pos L; omega)).2 ⟨h1, h2⟩
theorem log_in {x : Nat} (h : x ≠ 0) : 2 ^ Nat.log2 x ≤ x ∧ x < 2 ^ (Nat.log2 x + 1) := (Nat.log2_eq_iff h).1 rfl
theorem log_div {x k : Nat} (h : 2 ^ k ≤ x) : Nat.log2 x = Nat.log2 (x / 2 ^ k) + k := by
  have hp := Nat.two_pow_pos k
  have hy : x / 2 ^ k ≠ 0 := by have := (Nat.le_div_iff_mul_le hp (x := 1) (y := x)).2 (by omega); omega
  obtain ⟨a, b⟩ := log_in hy
  apply log_eq
  · rw [Nat.pow_add]; exact (Nat.le_div_iff_mul_le hp).1 a
  · rw [show Nat.log2 (x / 2 ^ k) + k + 1 = Nat.log2 (x / 2 ^ k) + 1 + k by omega, Nat.pow_add]; exact (Nat.div_lt_iff_lt_mul hp).1 b

/-- How many digits. -/
def lenN (x : Nat) : Nat := if x = 0 then 0 else Nat.log2 x + 1
theorem lenN_div {x k : Nat} (h : 2 ^ k ≤ x) : lenN x = lenN (x / 2 ^ k) + k := by
  have hp := Nat.two_pow_pos k
  have hy : x / 2 ^ k ≠ 0 := by have := (Nat.le_div_iff_mul_le hp (x := 1) (y := x)).2 (by omega); omega
  unfold lenN
  rw [if_neg (by omega), if_neg hy, log_div h]
  omega
def tabD : ByteArray := ⟨#[0, 1, 2, 2, 3, 3, 3, 3, 4, 4, 4, 4, 4, 4, 4, 4, 5, 5, 5, 5, 5, 5, 5, 5, 5, 5, 5, 5, 5, 5, 5, 5, 6, 6, 6, 6, 6, 6, 6, 6, 6, 6, 6, 6, 6, 6, 6, 6, 6, 6, 6, 6, 6, 6, 6, 6, 6, 6, 6, 6, 6, 6, 6, 6, 7, 7, 7, 7, 7, 7, 7, 7, 7, 7, 7, 7, 7, 7, 7, 7, 7, 7, 7, 7, 7, 7, 7, 7, 7, 7, 7, 7, 7, 7, 7, 7, 7, 7, 7, 7, 7, 7, 7, 7, 7, 7, 7, 7, 7, 7, 7, 7, 7, 7, 7, 7, 7, 7, 7, 7, 7, 7, 7, 7, 7, 7, 7, 7, 8, 8, 8, 8, 8, 8, 8, 8, 8, 8, 8, 8, 8, 8, 8, 8, 8, 8, 8, 8, 8, 8, 8, 8, 8, 8, 8, 8, 8, 8, 8, 8, 8, 8, 8, 8, 8, 8, 8, 8, 8, 8, 8, 8, 8, 8, 8, 8, 8, 8, 8, 8, 8, 8, 8, 8, 8, 8, 8, 8, 8, 8, 8, 8, 8, 8, 8, 8, 8, 8, 8, 8, 8, 8, 8, 8, 8, 8, 8, 8, 8, 8, 8, 8, 8, 8, 8, 8, 8, 8, 8, 8, 8, 8, 8, 8, 8, 8, 8, 8, 8, 8, 8, 8, 8, 8, 8, 8, 8, 8, 8, 8, 8, 8, 8, 8, 8, 8, 8, 8, 8, 8, 8, 8, 8, 8, 8, 8]⟩
theorem tab_ok : ∀ y : Fin 256, (tabD.data.getD y 0).toNat = lenN y := by decide +kernel

theorem shrU {x : Int} (k : Nat) (hk : k ≤ 64) : x.fdiv (2 ^ min ((k : Int)).toNat IntKind.u64.bits) = x / 2 ^ k := by
  rw [Int.toNat_natCast, show IntKind.u64.bits = 64 from rfl, Nat.min_eq_left hk]
  exact Int.fdiv_eq_ediv_of_nonneg x (Int.le_of_lt (Int.pow_pos (by omega)))
theorem divU (x k : Nat) : ((x : Nat) : Int) / 2 ^ k = ((x / 2 ^ k : Nat) : Int) := by simp
theorem wrap_u8n {n : Nat} (h : n < 256) : IntKind.wrap .u8 (n : Int) = n := by simp [IntKind.wrap, IntKind.bits, IntKind.signed]; omega

theorem len_fin {y n : Nat} (h : y < 256) (hn : n ≤ 56) : IntKind.wrap .i64 ((n : Int) + IntKind.wrap .i64 (((tabD.data.getD (IntKind.wrap .u8 (y : Int)).toNat 0).toNat : Nat) : Int)) = ((lenN y + n : Nat) : Int) := by
  rw [wrap_u8n h, Int.toNat_natCast]
  have := tab_ok ⟨y, h⟩
  rw [show (tabD.data.getD y 0).toNat = lenN y from this]
  have hl : lenN y ≤ 8 := by
    have : ∀ y : Fin 256, lenN y ≤ 8 := by decide +kernel
    exact this ⟨y, h⟩
  rw [wrap_id (n := ((lenN y : Nat) : Int)) (by omega) (by omega), wrap_id (by omega) (by omega)]
  omega

set_option maxRecDepth 20000 in
theorem len64_spec (x : Nat) (h : x < 2 ^ 64) : CallsF Tryd.prog 96 [.int .u64 x] [] (iv (lenN x)) [] := by
  refine e96 ?_
  conv => whnf
  refine ifB_of (fun h1 => ?_) (fun h1 => ?_)
  · have h1 : 4294967296 ≤ x := by have := of_decide_eq_true h1; omega
    conv => whnf
    rw [show ((x : Nat) : Int).fdiv (2 ^ min (Int.toNat 32) IntKind.u64.bits) = ((x / 2 ^ 32 : Nat) : Int) from (shrU 32 (by omega)).trans (divU _ 32)]
    refine ifB_of (fun h2 => ?_) (fun h2 => ?_)
    · have h2 : 65536 ≤ (x / 2 ^ 32) := by have := of_decide_eq_true h2; omega
      conv => whnf
      rw [show (((x / 2 ^ 32) : Nat) : Int).fdiv (2 ^ min (Int.toNat 16) IntKind.u64.bits) = ((((x / 2 ^ 32)) / 2 ^ 16 : Nat) : Int) from (shrU 16 (by omega)).trans (divU _ 16)]
      refine ifB_of (fun h3 => ?_) (fun h3 => ?_)
      · have h3 : 256 ≤ ((x / 2 ^ 32) / 2 ^ 16) := by have := of_decide_eq_true h3; omega
        conv => whnf
        rw [show ((((x / 2 ^ 32) / 2 ^ 16) : Nat) : Int).fdiv (2 ^ min (Int.toNat 8) IntKind.u64.bits) = (((((x / 2 ^ 32) / 2 ^ 16)) / 2 ^ 8 : Nat) : Int) from (shrU 8 (by omega)).trans (divU _ 8)]
        refine need_of ((decide_eq_true ⟨by rw [wrap_u8n (by omega)]; omega, by rw [wrap_u8n (by omega)]; show (_ : Int) < 256; omega⟩)) ?_
        conv => whnf
        refine ⟨[], [], rfl, congrArg iv ?_, rfl⟩
        refine (len_fin (y := ((x / 2 ^ 32) / 2 ^ 16) / 2 ^ 8) (n := 56) (by omega) (by omega)).trans ?_
        rw [lenN_div (x := x) (k := 32) (by omega), lenN_div (x := (x / 2 ^ 32)) (k := 16) (by omega), lenN_div (x := ((x / 2 ^ 32) / 2 ^ 16)) (k := 8) (by omega)] <;> simp only [Nat.add_assoc]
      · have h3 : ((x / 2 ^ 32) / 2 ^ 16) < 256 := by have := of_decide_eq_false h3; omega
        conv => whnf
        refine need_of ((decide_eq_true ⟨by rw [wrap_u8n (by omega)]; omega, by rw [wrap_u8n (by omega)]; show (_ : Int) < 256; omega⟩)) ?_
        conv => whnf
        refine ⟨[], [], rfl, congrArg iv ?_, rfl⟩
        refine (len_fin (y := ((x / 2 ^ 32) / 2 ^ 16)) (n := 48) (by omega) (by omega)).trans ?_
        rw [lenN_div (x := x) (k := 32) (by omega), lenN_div (x := (x / 2 ^ 32)) (k := 16) (by omega)] <;> simp only [Nat.add_assoc]
    · have h2 : (x / 2 ^ 32) < 65536 := by have := of_decide_eq_false h2; omega
      conv => whnf
      refine ifB_of (fun h3 => ?_) (fun h3 => ?_)
      · have h3 : 256 ≤ (x / 2 ^ 32) := by have := of_decide_eq_true h3; omega
        conv => whnf
        rw [show (((x / 2 ^ 32) : Nat) : Int).fdiv (2 ^ min (Int.toNat 8) IntKind.u64.bits) = ((((x / 2 ^ 32)) / 2 ^ 8 : Nat) : Int) from (shrU 8 (by omega)).trans (divU _ 8)]
        refine need_of ((decide_eq_true ⟨by rw [wrap_u8n (by omega)]; omega, by rw [wrap_u8n (by omega)]; show (_ : Int) < 256; omega⟩)) ?_
        conv => whnf
        refine ⟨[], [], rfl, congrArg iv ?_, rfl⟩
        refine (len_fin (y := (x / 2 ^ 32) / 2 ^ 8) (n := 40) (by omega) (by omega)).trans ?_
        rw [lenN_div (x := x) (k := 32) (by omega), lenN_div (x := (x / 2 ^ 32)) (k := 8) (by omega)] <;> simp only [Nat.add_assoc]
      · have h3 : (x / 2 ^ 32) < 256 := by have := of_decide_eq_false h3; omega
        conv => whnf
        refine need_of ((decide_eq_true ⟨by rw [wrap_u8n (by omega)]; omega, by rw [wrap_u8n (by omega)]; show (_ : Int) < 256; omega⟩)) ?_
        conv => whnf
        refine ⟨[], [], rfl, congrArg iv ?_, rfl⟩
        refine (len_fin (y := (x / 2 ^ 32)) (n := 32) (by omega) (by omega)).trans ?_
        rw [lenN_div (x := x) (k := 32) (by omega)] <;> simp only [Nat.add_assoc]
  · have h1 : x < 4294967296 := by have := of_decide_eq_false h1; omega
    conv => whnf
    refine ifB_of (fun h2 => ?_) (fun h2 => ?_)
    · have h2 : 65536 ≤ x := by have := of_decide_eq_true h2; omega
      conv => whnf
      rw [show ((x : Nat) : Int).fdiv (2 ^ min (Int.toNat 16) IntKind.u64.bits) = (((x) / 2 ^ 16 : Nat) : Int) from (shrU 16 (by omega)).trans (divU _ 16)]
      refine ifB_of (fun h3 => ?_) (fun h3 => ?_)
      · have h3 : 256 ≤ (x / 2 ^ 16) := by have := of_decide_eq_true h3; omega
        conv => whnf
        rw [show (((x / 2 ^ 16) : Nat) : Int).fdiv (2 ^ min (Int.toNat 8) IntKind.u64.bits) = ((((x / 2 ^ 16)) / 2 ^ 8 : Nat) : Int) from (shrU 8 (by omega)).trans (divU _ 8)]
        refine need_of ((decide_eq_true ⟨by rw [wrap_u8n (by omega)]; omega, by rw [wrap_u8n (by omega)]; show (_ : Int) < 256; omega⟩)) ?_
        conv => whnf
        refine ⟨[], [], rfl, congrArg iv ?_, rfl⟩
        refine (len_fin (y := (x / 2 ^ 16) / 2 ^ 8) (n := 24) (by omega) (by omega)).trans ?_
        rw [lenN_div (x := x) (k := 16) (by omega), lenN_div (x := (x / 2 ^ 16)) (k := 8) (by omega)] <;> simp only [Nat.add_assoc]
      · have h3 : (x / 2 ^ 16) < 256 := by have := of_decide_eq_false h3; omega
        conv => whnf
        refine need_of ((decide_eq_true ⟨by rw [wrap_u8n (by omega)]; omega, by rw [wrap_u8n (by omega)]; show (_ : Int) < 256; omega⟩)) ?_
        conv => whnf
        refine ⟨[], [], rfl, congrArg iv ?_, rfl⟩
        refine (len_fin (y := (x / 2 ^ 16)) (n := 16) (by omega) (by omega)).trans ?_
        rw [lenN_div (x := x) (k := 16) (by omega)] <;> simp only [Nat.add_assoc]
    · have h2 : x < 65536 := by have := of_decide_eq_false h2; omega
      conv => whnf
      refine ifB_of (fun h3 => ?_) (fun h3 => ?_)
      · have h3 : 256 ≤ x := by have := of_decide_eq_true h3; omega
        conv => whnf
        rw [show ((x : Nat) : Int).fdiv (2 ^ min (Int.toNat 8) IntKind.u64.bits) = (((x) / 2 ^ 8 : Nat) : Int) from (shrU 8 (by omega)).trans (divU _ 8)]
        refine need_of ((decide_eq_true ⟨by rw [wrap_u8n (by omega)]; omega, by rw [wrap_u8n (by omega)]; show (_ : Int) < 256; omega⟩)) ?_
        conv => whnf
        refine ⟨[], [], rfl, congrArg iv ?_, rfl⟩
        refine (len_fin (y := x / 2 ^ 8) (n := 8) (by omega) (by omega)).trans ?_
        rw [lenN_div (x := x) (k := 8) (by omega)] <;> simp only [Nat.add_assoc]
      · have h3 : x < 256 := by have := of_decide_eq_false h3; omega
        conv => whnf
        refine need_of ((decide_eq_true ⟨by rw [wrap_u8n (by omega)]; omega, by rw [wrap_u8n (by omega)]; show (_ : Int) < 256; omega⟩)) ?_
        conv => whnf
        refine ⟨[], [], rfl, congrArg iv ?_, rfl⟩
        refine (len_fin (y := x) (n := 0) (by omega) (by omega)).trans ?_
        rfl

theorem len_spec (x : Nat) (h : x < 2 ^ 64) : CallsF Tryd.prog 89 [.int .u64 x] [] (iv (lenN x)) [] := by
  refine e89 ?_
  conv => whnf
  refine CallsF.call [] [] (len64_spec x h) rfl rfl rfl rfl rfl (.inl rfl) ?_
  conv => whnf
  exact ⟨[], [], rfl, rfl, rfl⟩

/-- The digits of a number that are coded. -/
def digN (v : Nat) : Nat := Nat.log2 (v + 1)
theorem digN_in {v : Nat} (h : v ≤ 2199023255550) : digN v ≤ 40 := by
  have := (log_in (x := v + 1) (by omega)).1
  apply Classical.byContradiction
  intro hc
  have : 2 ^ 41 ≤ 2 ^ Nat.log2 (v + 1) := Nat.pow_le_pow_right (by omega) (by unfold digN at hc; omega)
  omega
theorem digits_spec {v : Nat} (h : v ≤ 2199023255550) : CallsF Tryd.prog 71 [iv v] [] (iv (digN v)) [] := by
  have hd := digN_in h
  refine e71 ?_
  conv => whnf
  rw [wrap_u64 (n := (v : Int)) (by omega) (by omega), wrap_u64 (n := (v : Int) + 1) (by omega) (by omega)]
  refine CallsF.call [] [] (len_spec (v + 1) (by omega)) rfl rfl rfl rfl rfl (.inl rfl) ?_
  conv => whnf
  refine ⟨[], [], rfl, congrArg iv ?_, rfl⟩
  have : lenN (v + 1) = digN v + 1 := by unfold lenN digN; rw [if_neg (by omega)]
  rw [this, wrap_id (by omega) (by omega)]
  omega

def mayN (v : Int) : Bool := decide (0 ≤ v) && decide (v ≤ 2199023255550)
theorem may_spec (v : Int) : CallsF Tryd.prog 69 [iv v] [] (.bool (mayN v)) [] := by
  refine e69 ?_
  conv => whnf
  by_cases h0 : 0 ≤ v
  · rw [show decide (v ≥ 0) = true from decide_eq_true h0]
    conv => whnf
    exact ⟨[], [], rfl, congrArg AV.bool (by simp [mayN, h0]), rfl⟩
  · rw [show decide (v ≥ 0) = false from decide_eq_false h0]
    conv => whnf
    exact ⟨[], [], rfl, congrArg AV.bool (by simp [mayN, h0]), rfl⟩

def hasK (n : Nat) (c : Int) : Bool := decide (0 ≤ c) && decide (c < n)
theorem has_spec (n : Nat) (c : Int) : CallsF Tryd.prog 88 [iv c, .bp 0 0] [some (.box [iv n])] (.bool (hasK n c)) [some (.box [iv n])] := by
  refine e88 ?_
  conv => whnf
  by_cases h0 : 0 ≤ c
  · rw [show decide (c ≥ 0) = true from decide_eq_true h0]
    conv => whnf
    exact ⟨[], [], rfl, congrArg AV.bool (by simp [hasK, h0]), rfl⟩
  · rw [show decide (c ≥ 0) = false from decide_eq_false h0]
    conv => whnf
    exact ⟨[], [], rfl, congrArg AV.bool (by simp [hasK, h0]), rfl⟩

/-- Is a set right for so many contexts? -/
def rightN (f : List Int) (d g : Int) (n : Nat) : Bool := f.all (hasK n) && decide (0 < f.length) && hasK n d && hasK n g
theorem right_spec (f : List Int) (hf : f.length < 4294967296) (d g : Int) (n : Nat) : CallsF Tryd.prog 70 [.agg [.ri .i64 f, iv d, iv g], iv n] [] (.bool (rightN f d g n)) [] := by
  refine e70 ?_
  conv => whnf
  refine LoopA.inv (fun k st => ∃ i : Nat, i + k = f.length ∧ (f.take i).all (hasK n) = true ∧ st = ⟨[(2, .bp 0 0), (5, .fn 88 [.bp 1 0]), (10, .ri .i64 f), (11, iv f.length), (12, iv i)], [some (.box [.ri .i64 f, iv d, iv g]), some (.box [iv n])], 2, 0⟩) f.length [2, 5, 10, 11, 12] [0, 1] [] (by rfl) ?_ ?_
  · conv => whnf
    exact ⟨0, by omega, by simp, rfl⟩
  rintro k st ⟨i, hi, ha, rfl⟩
  conv => whnf
  refine ifB_of (fun hd => ?_) (fun hd => ?_)
  · have hd : i < f.length := by have := of_decide_eq_true hd; omega
    have hg : f.getD i 0 = f[i] := by simp [List.getD, hd]
    conv => whnf
    refine need_of ((decide_eq_true ⟨by omega, by omega⟩)) ?_
    conv => whnf
    rw [Int.toNat_natCast, hg]
    refine CallsF.call [1] [] (has_spec n f[i]) rfl rfl rfl rfl rfl (.inl rfl) ?_
    conv => whnf
    cases hh : hasK n f[i]
    · conv => whnf
      refine ⟨[], [], rfl, congrArg AV.bool ?_, rfl⟩
      have : f.all (hasK n) = false := by
        rw [List.all_eq_false]
        exact ⟨f[i], List.getElem_mem _, by simp [hh]⟩
      simp [rightN, this]
    · conv => whnf
      rw [inc_nat (by omega)]
      refine ⟨(f.length - (i + 1)), [2, 5, 10, 11, 12], [0, 1], [], by omega, rfl, ?_⟩
      conv => whnf
      refine ⟨i + 1, by omega, ?_, rfl⟩
      rw [List.take_succ_eq_append_getElem hd, List.all_append, ha]
      simp [hh]
  · have hd := of_decide_eq_false hd
    obtain rfl : i = f.length := by omega
    rw [List.take_length] at ha
    conv => whnf
    by_cases h0 : 0 < f.length
    · rw [show decide (((f.length : Nat) : Int) > 0) = true from decide_eq_true (by omega)]
      conv => whnf
      refine CallsF.call [1] [] (has_spec n d) rfl rfl rfl rfl rfl (.inl rfl) ?_
      conv => whnf
      cases hh : hasK n d
      · conv => whnf
        exact ⟨[], [], rfl, congrArg AV.bool (by simp [rightN, hh]), rfl⟩
      · conv => whnf
        refine CallsF.call [1] [] (has_spec n g) rfl rfl rfl rfl rfl (.inl rfl) ?_
        conv => whnf
        exact ⟨[], [], rfl, congrArg AV.bool (by simp [rightN, hh, ha, h0]), rfl⟩
    · rw [show decide (((f.length : Nat) : Int) > 0) = false from decide_eq_false (by omega)]
      conv => whnf
      exact ⟨[], [], rfl, congrArg AV.bool (by simp [rightN, h0]), rfl⟩

/-- The context of a digit. -/
def folN (f : List Int) (i : Nat) : Int := f.getD (min i (f.length - 1)) 0
theorem follow_spec {f : List Int} (h0 : 0 < f.length) (hf : f.length < 4294967296) (d g : Int) {i : Nat} (hi : i < 4294967296) : CallsF Tryd.prog 72 [.agg [.ri .i64 f, iv d, iv g], iv i] [] (iv (folN f i)) [] := by
  refine e72 ?_
  conv => whnf
  have e : (if IntKind.wrap .i64 (((f.length : Nat) : Int) - 1) < (i : Int) then IntKind.wrap .i64 (((f.length : Nat) : Int) - 1) else (i : Int)) = ((min i (f.length - 1) : Nat) : Int) := by
    rw [wrap_id (by omega) (by omega)]; split <;> omega
  rw [e]
  refine need_of ((decide_eq_true ⟨by omega, by omega⟩)) ?_
  conv => whnf
  rw [Int.toNat_natCast]
  exact ⟨[], [], rfl, rfl, rfl⟩

def bitsK (v : Int) : Nat := match mayN v with
  | true => if digN v.toNat < 40 then 2 * digN v.toNat + 1 else 2 * digN v.toNat
  | false => 0
theorem bitsK_spec (v : Int) : CallsF Tryd.prog 34 [iv v] [] (iv (bitsK v)) [] := by
  unfold bitsK
  refine e34 ?_
  conv => whnf
  refine CallsF.call [] [] (may_spec v) rfl rfl rfl rfl rfl (.inl rfl) ?_
  conv => whnf
  cases hm : mayN v
  · conv => whnf
    exact ⟨[], [], rfl, rfl, rfl⟩
  have hm2 : 0 ≤ v ∧ v ≤ 2199023255550 := by simpa [mayN] using hm
  obtain ⟨V, rfl⟩ : ∃ V : Nat, v = V := ⟨v.toNat, by omega⟩
  have hd := digN_in (v := V) (by omega)
  conv => whnf
  refine CallsF.call [] [] (digits_spec (v := V) (by omega)) rfl rfl rfl rfl rfl (.inl rfl) ?_
  conv => whnf
  rw [Int.toNat_natCast]
  refine ifB_of (fun h => ?_) (fun h => ?_)
  · have h := of_decide_eq_true h
    conv => whnf
    rw [wrap_id (n := 2 * ((digN V : Nat) : Int)) (by omega) (by omega), wrap_id (by omega) (by omega)]
    refine ⟨[], [], rfl, congrArg iv ?_, rfl⟩
    simp only; rw [if_pos (by omega)]; omega
  · have h := of_decide_eq_false h
    conv => whnf
    rw [wrap_id (by omega) (by omega)]
    refine ⟨[], [], rfl, congrArg iv ?_, rfl⟩
    simp only; rw [if_neg (by omega)]; omega

end Go.Proofs.TrydN

