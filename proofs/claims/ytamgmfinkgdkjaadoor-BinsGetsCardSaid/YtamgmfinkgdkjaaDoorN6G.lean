/- The document's layer 6: how numbers are coded: the walk. -/
import Derived.Test.YtamgmfinkgdkjaaDoorN6D
import Derived.Test.YtamgmfinkgdkjaaDoorN5Z
import Derived.Test.YtamgmfinkgdkjaaDoorF63
namespace Go.Proofs.TrydN
open Go Go.AL Go.Proofs

theorem rright_spec (f : List Int) (hf : f.length < 4294967296) (d g : Int) (n : Nat) : CallsF Tryd.prog 28 [.agg [.ri .i64 f, iv d, iv g], iv n] [] (.bool (rightN f d g n)) [] := by
  have hall : rightN f d g n = ((d :: g :: f).all (hasK n) && decide (0 < f.length)) := by
    simp only [rightN, List.all_cons]
    cases hasK n d <;> cases hasK n g <;> cases f.all (hasK n) <;> simp
  rw [hall]
  refine e28 ?_
  conv => whnf
  refine need_of ((decide_eq_true ⟨rfl, show (8 + 1) * (2 + f.length) ≤ 2 ^ 46 by omega⟩)) ?_
  conv => whnf
  refine LoopA.inv (fun k st => ∃ i : Nat, i + k = (d :: g :: f).length ∧ ((d :: g :: f).take i).all (hasK n) = true ∧ st = ⟨[(1, iv n), (2, .bp 0 0), (16, .sl 1 0 (2 + f.length)), (17, iv (2 + f.length : Nat)), (18, iv i)], [some (.box [.ri .i64 f, iv d, iv g]), some (.ia .i64 (d :: g :: f))], 2, 0⟩) (d :: g :: f).length [1, 2, 16, 17, 18] [0, 2] [] (by rfl) ?_ ?_
  · conv => whnf
    exact ⟨0, by omega, by simp, rfl⟩
  rintro k st ⟨i, hi, ha, rfl⟩
  have hl : (d :: g :: f).length = 2 + f.length := by simp; omega
  generalize d :: g :: f = L at *
  conv => whnf
  refine ifB_of (fun hd => ?_) (fun hd => ?_)
  · have hd : i < L.length := by have := of_decide_eq_true hd; omega
    have hg : L.getD i 0 = L[i] := by simp [List.getD, hd]
    conv => whnf
    refine need_of ((decide_eq_true ⟨by omega, by omega⟩)) ?_
    conv => whnf
    refine need_of ((decide_eq_true (by omega))) ?_
    conv => whnf
    rw [Nat.zero_add, Int.toNat_natCast, hg]
    by_cases h0 : L[i] < 0
    · rw [show decide (L[i] < 0) = true from decide_eq_true h0]
      conv => whnf
      refine ⟨[], [], rfl, congrArg AV.bool ?_, rfl⟩
      have : L.all (hasK n) = false := by
        rw [List.all_eq_false]
        exact ⟨L[i], List.getElem_mem _, by simp [hasK]; omega⟩
      rw [this]; rfl
    · rw [show decide (L[i] < 0) = false from decide_eq_false h0]
      conv => whnf
      refine ifB_of (fun h1 => ?_) (fun h1 => ?_)
      · have h1 := of_decide_eq_true h1
        conv => whnf
        refine ⟨[], [], rfl, congrArg AV.bool ?_, rfl⟩
        have : L.all (hasK n) = false := by
          rw [List.all_eq_false]
          exact ⟨L[i], List.getElem_mem _, by simp [hasK]; omega⟩
        rw [this]; rfl
      · have h1 := of_decide_eq_false h1
        conv => whnf
        rw [inc_nat (by omega)]
        refine ⟨(L.length - (i + 1)), [1, 2, 16, 17, 18], [0, 1], [], by omega, rfl, ?_⟩
        conv => whnf
        refine ⟨i + 1, by omega, ?_, rfl⟩
        rw [List.take_succ_eq_append_getElem hd, List.all_append, ha]
        simp [hasK]; omega
  · have hd := of_decide_eq_false hd
    obtain rfl : i = L.length := by omega
    rw [List.take_length] at ha
    conv => whnf
    refine ⟨[], [], rfl, congrArg AV.bool ?_, rfl⟩
    rw [ha, Bool.true_and]
    rw [Bool.eq_iff_iff]; simp

theorem rfollow_spec {f : List Int} (h0 : 0 < f.length) (hf : f.length < 4294967296) (d g : Int) {i : Nat} (hi : i < 4294967296) : CallsF Tryd.prog 68 [.agg [.ri .i64 f, iv d, iv g], iv i] [] (iv (folN f i)) [] := by
  refine e68 ?_
  conv => whnf
  refine ifB_of (fun hd => ?_) (fun hd => ?_)
  · have hd := of_decide_eq_true hd
    conv => whnf
    rw [show IntKind.wrap .i64 (((f.length : Nat) : Int) - 1) = ((f.length - 1 : Nat) : Int) from by rw [wrap_id (by omega) (by omega)]; omega]
    refine need_of ((decide_eq_true ⟨by omega, by omega⟩)) ?_
    conv => whnf
    rw [Int.toNat_natCast]
    refine ⟨[], [], rfl, congrArg iv ?_, rfl⟩
    unfold folN; rw [Nat.min_eq_right (by omega)]
  · have hd := of_decide_eq_false hd
    conv => whnf
    refine need_of ((decide_eq_true ⟨by omega, by omega⟩)) ?_
    conv => whnf
    rw [Int.toNat_natCast]
    refine ⟨[], [], rfl, congrArg iv ?_, rfl⟩
    unfold folN; rw [Nat.min_eq_left (by omega)]

def rowS (x : Int × Bool) : List AV := [iv x.1, .bool x.2]
theorem bitsOf_at (v : Nat) : ∀ (n i : Nat) (h : i < (bitsOf (v : Int) n).length), (bitsOf (v : Int) n)[i] = decide (v / 2 ^ (n - 1 - i) % 2 = 1)
  | 0, i, h => by simp [bitsOf] at h
  | n + 1, 0, h => by
    show decide ((v : Int) / 2 ^ n % 2 = 1) = _
    rw [show n + 1 - 1 - 0 = n by omega, show (v : Int) / 2 ^ n = ((v / 2 ^ n : Nat) : Int) by simp]
    generalize v / 2 ^ n = q
    rw [decide_eq_decide]
    omega
  | n + 1, i + 1, h => by
    show (bitsOf (v : Int) n)[i]'(by simpa [bitsOf] using h) = _
    rw [bitsOf_at v n i]
    rw [show n + 1 - 1 - (i + 1) = n - 1 - i by omega]
theorem chB_one (b : Bool) : ((((chB b).toNat : Nat) : Int) == 49) = b := by cases b <;> rfl

set_option maxRecDepth 10000 in
set_option maxHeartbeats 1000000 in
theorem rsteps_ok {f : List Int} (h0 : 0 < f.length) (hf : f.length < 4294967296) (d g : Int) {V : Nat} (hV : V ≤ 2199023255550) : CallsF Tryd.prog 29 [.agg [.ri .i64 f, iv d, iv g], iv V] [] (.tup [.sl 0 0 (stepsN f d V).length, .bool true]) [some (.arr 2 ((stepsN f d V).map rowS))] := by
  have hdg := digN_in hV
  have hlog := log_in (x := V + 1) (by omega)
  refine e29 ?_
  conv => whnf
  rw [show decide ((V : Int) > 2199023255550) = false from decide_eq_false (by omega)]
  conv => whnf
  rw [show ((f.length : Int) == 0) = false from beq_eq_false_iff_ne.2 (by omega)]
  conv => whnf
  have ev1 : IntKind.wrap .i64 (((V : Nat) : Int) + 1) = ((V + 1 : Nat) : Int) := by rw [wrap_id (by omega) (by omega)]; rfl
  rw [ev1]
  refine LoopA.inv (fun k st => ∃ n : Nat, n + k = digN V ∧ st = ⟨[(1, iv V), (2, .bp 0 0), (6, iv n), (7, iv ((V + 1) / 2 ^ n : Nat))], [bxS f d g], 1, 0⟩) (digN V) [1, 2, 6, 7] [0] [] (by rfl) ?_ ?_
  · conv => whnf
    exact ⟨0, by omega, by rw [Nat.pow_zero, Nat.div_one]; rfl⟩
  rintro k st ⟨n, hn, rfl⟩
  have hle : (V + 1) / 2 ^ n ≤ V + 1 := Nat.div_le_self _ _
  have hgt : 1 < (V + 1) / 2 ^ n ↔ n < digN V := by
    constructor
    · intro h
      have h2 := (Nat.le_div_iff_mul_le (Nat.two_pow_pos n)).1 (show 2 ≤ (V + 1) / 2 ^ n by omega)
      rw [← Nat.pow_succ'] at h2
      apply Classical.byContradiction
      intro hc
      have : 2 ^ (Nat.log2 (V + 1) + 1) ≤ 2 ^ (n + 1) := Nat.pow_le_pow_right (by omega) (by unfold digN at hc; omega)
      omega
    · intro h
      have : 2 ^ (n + 1) ≤ 2 ^ Nat.log2 (V + 1) := Nat.pow_le_pow_right (by omega) (by unfold digN at h; omega)
      have h2 := (Nat.le_div_iff_mul_le (Nat.two_pow_pos n) (x := 2) (y := V + 1)).2 (by rw [← Nat.pow_succ']; omega)
      omega
  conv => whnf
  refine ifB_of (fun hd => ?_) (fun hd => ?_)
  · have hd := of_decide_eq_true hd
    have hlt := hgt.1 (by omega)
    conv => whnf
    rw [inc_nat (by omega), show IntKind.wrap .i64 ((((V + 1) / 2 ^ n : Nat) : Int).tdiv 2) = (((V + 1) / 2 ^ (n + 1) : Nat) : Int) from by
      rw [Int.tdiv_eq_ediv_of_nonneg (by omega), wrap_id (by omega) (by omega), Nat.pow_succ, ← Nat.div_div_eq_div_mul]; rfl]
    refine ⟨(k - 1), [1, 2, 6, 7], [0], [], by omega, rfl, ?_⟩
    conv => whnf
    exact ⟨n + 1, by omega, rfl⟩
  · have hd := of_decide_eq_false hd
    have hnl : ¬ n < digN V := fun h => by have := hgt.2 h; omega
    obtain rfl : n = digN V := by omega
    have bs := bits_spec (v := ((V + 1 : Nat) : Int)) (by omega) (by omega) (n := digN V) (by omega)
    conv => whnf
    rw [ev1, wrap_u64 (n := ((V + 1 : Nat) : Int)) (by omega) (by omega)]
    refine CallsF.call [] [] (bs) rfl rfl rfl rfl rfl (.inl rfl) ?_
    conv => whnf
    have hbl := bitsOf_len ((V + 1 : Nat) : Int) (digN V)
    refine LoopA.inv (fun k st => ∃ i : Nat, i + k = digN V ∧ ((i = 0 ∧ st = ⟨[(2, .bp 0 0), (6, iv (digN V)), (8, .str (sB (bitsOf ((V + 1 : Nat) : Int) (digN V)))), (9, .snil), (10, iv 0)], [bxS f d g], 1, 0⟩) ∨ (i ≠ 0 ∧ st = ⟨[(2, .bp 0 0), (6, iv (digN V)), (8, .str (sB (bitsOf ((V + 1 : Nat) : Int) (digN V)))), (9, .sl 1 0 (2 * i)), (10, iv i)], [bxS f d g, some (.arr 2 ((digP f d V (digN V) i).map rowS))], 2, 0⟩))) (digN V) [2, 6, 8, 9, 10] [0] [] (by rfl) ?_ ?_
    · conv => whnf
      exact ⟨0, by omega, .inl ⟨rfl, rfl⟩⟩
    have ch : ∀ i, i < digN V → (((((sB (bitsOf ((V + 1 : Nat) : Int) (digN V))).data.getD i 0).toNat : Nat) : Int) == 49) = decide ((V + 1) / 2 ^ (digN V - 1 - i) % 2 = 1) := fun i hi => by
      rw [sB_at (by omega), bitsOf_at, chB_one]
    rintro k st ⟨i, hi, ⟨hi0, rfl⟩ | ⟨hi0, rfl⟩⟩
    · subst hi0
      conv => whnf
      refine ifB_of (fun hd2 => ?_) (fun hd2 => ?_)
      · have hd2 := of_decide_eq_true hd2
        conv => whnf
        refine need_of ((decide_eq_true ⟨by omega, by rw [sB_size, hbl]; omega⟩)) ?_
        conv => whnf
        rw [show (0 : Int).toNat = 0 from rfl, ch 0 (by omega)]
        refine CallsF.call [] [] (rfollow_spec h0 hf d g (i := 0) (by omega)) rfl rfl rfl rfl rfl (.inl rfl) ?_
        conv => whnf
        refine ⟨.inl ⟨_, rfl⟩, ?_⟩
        conv => whnf
        refine ⟨(digN V - 1), [2, 6, 8, 9, 10], [0, 2], [], by omega, rfl, ?_⟩
        conv => whnf
        refine ⟨1, by omega, .inr ⟨by omega, ?_⟩⟩
        rw [digP_succ]
        rfl
      · have hd2 := of_decide_eq_false hd2
        have hz : digN V = 0 := by omega
        have hst : stepsN f d V = [(folN f 0, true)] := by unfold stepsN; rw [hz]; rfl
        rw [hst]
        conv => whnf
        rw [hz]
        conv => whnf
        refine CallsF.call [] [] (rfollow_spec h0 hf d g (i := 0) (by omega)) rfl rfl rfl rfl rfl (.inl rfl) ?_
        conv => whnf
        exact ⟨[2], [], rfl, rfl, rfl⟩
    · have hdl := digP_len f d V (digN V) i
      conv => whnf
      refine ifB_of (fun hd2 => ?_) (fun hd2 => ?_)
      · have hd2 := of_decide_eq_true hd2
        conv => whnf
        refine need_of ((decide_eq_true ⟨by omega, by rw [sB_size, hbl]; omega⟩)) ?_
        conv => whnf
        rw [Int.toNat_natCast, ch i (by omega)]
        refine CallsF.call [] [] (rfollow_spec h0 hf d g (i := i) (by omega)) rfl rfl rfl rfl rfl (.inl rfl) ?_
        conv => whnf
        refine ⟨.inl ⟨_, rfl⟩, ?_⟩
        conv => whnf
        refine need_of ((by rw [Bool.and_eq_true]; exact ⟨decide_eq_true ⟨by simp [hdl], show (16 + 1) * (2 * i + 2) ≤ 2 ^ 46 by omega⟩, rfl⟩)) ?_
        conv => whnf
        rw [inc_nat (by omega)]
        refine ⟨(digN V - (i + 1)), [2, 6, 8, 9, 10], [0, 3], [], by omega, rfl, ?_⟩
        conv => whnf
        refine ⟨i + 1, by omega, .inr ⟨by omega, ?_⟩⟩
        rw [digP_succ, List.map_append]
        rfl
      · have hd2 := of_decide_eq_false hd2
        obtain rfl : i = digN V := by omega
        conv => whnf
        by_cases h40 : digN V < 40
        · rw [show decide (((digN V : Nat) : Int) < 40) = true from decide_eq_true (by omega)]
          have hst : stepsN f d V = digP f d V (digN V) (digN V) ++ [(folN f (digN V), true)] := by unfold stepsN; rw [if_pos h40]
          rw [hst]
          conv => whnf
          refine CallsF.call [] [] (rfollow_spec h0 hf d g (i := digN V) (by omega)) rfl rfl rfl rfl rfl (.inl rfl) ?_
          conv => whnf
          refine need_of ((by rw [Bool.and_eq_true]; exact ⟨decide_eq_true ⟨by simp [hdl], show (16 + 1) * (2 * digN V + 1) ≤ 2 ^ 46 by omega⟩, rfl⟩)) ?_
          conv => whnf
          refine ⟨[3], [], rfl, ?_, ?_⟩
          · rw [List.length_append, hdl]; rfl
          · rw [List.map_append]; rfl
        · rw [show decide (((digN V : Nat) : Int) < 40) = false from decide_eq_false (by omega)]
          have hst : stepsN f d V = digP f d V (digN V) (digN V) := by unfold stepsN; rw [if_neg h40, List.append_nil]
          rw [hst, hdl]
          conv => whnf
          exact ⟨[1], [], rfl, rfl, rfl⟩

theorem rsteps_no {f : List Int} {v : Int} (h : ¬ (0 ≤ v ∧ v ≤ 2199023255550 ∧ 0 < f.length)) (d g : Int) : CallsF Tryd.prog 29 [.agg [.ri .i64 f, iv d, iv g], iv v] [] (.tup [.snil, .bool false]) [] := by
  refine e29 ?_
  conv => whnf
  by_cases h0 : v < 0
  · rw [show decide (v < 0) = true from decide_eq_true h0]
    conv => whnf
    exact ⟨[], [], rfl, rfl, rfl⟩
  · rw [show decide (v < 0) = false from decide_eq_false h0]
    conv => whnf
    by_cases h1 : v > 2199023255550
    · rw [show decide (v > 2199023255550) = true from decide_eq_true h1]
      conv => whnf
      exact ⟨[], [], rfl, rfl, rfl⟩
    · rw [show decide (v > 2199023255550) = false from decide_eq_false h1]
      conv => whnf
      rw [show ((f.length : Int) == 0) = true from beq_iff_eq.2 (by omega)]
      conv => whnf
      exact ⟨[], [], rfl, rfl, rfl⟩

/-- May a signed number be? -/
def inS (v : Int) : Bool := decide (-2199023255550 ≤ v) && decide (v ≤ 2199023255550)

set_option maxRecDepth 10000 in
theorem rsigned_ok {f : List Int} (h0 : 0 < f.length) (hf : f.length < 4294967296) (d g : Int) {v : Int} (hv : inS v = true) : CallsF Tryd.prog 30 [.agg [.ri .i64 f, iv d, iv g], iv v] [] (.tup [.sl 0 0 (stepsS f d g v).length, .bool true]) [some (.arr 2 ((stepsS f d g v).map rowS))] := by
  have hv2 : -2199023255550 ≤ v ∧ v ≤ 2199023255550 := by simpa [inS] using hv
  have hN : v.natAbs ≤ 2199023255550 := by omega
  have hl := stepsN_len f d hN
  have sp := rsteps_ok h0 hf d g hN
  have tail : ∀ (hm : True), stepsS f d g v = if v = 0 then stepsN f d v.natAbs else stepsN f d v.natAbs ++ [(g, decide (v < 0))] := fun _ => by
    unfold stepsS
    by_cases hz : v = 0
    · rw [if_neg (by simp [hz]), if_pos hz, List.append_nil]
    · rw [if_pos hz, if_neg hz]
  rw [tail trivial]
  refine e30 ?_
  conv => whnf
  by_cases hn : v < 0
  · rw [show decide (v < 0) = true from decide_eq_true hn]
    conv => whnf
    rw [show decide (v ≥ -2199023255550) = true from decide_eq_true hv2.1]
    conv => whnf
    rw [show IntKind.wrap .i64 (0 - v) = (v.natAbs : Int) from by rw [wrap_id (by omega) (by omega)]; omega]
    refine CallsF.call [] [] (sp) rfl rfl rfl rfl rfl (.inl rfl) ?_
    conv => whnf
    rw [show (v != 0) = true by simp; omega, if_neg (by omega)]
    conv => whnf
    refine need_of ((by rw [Bool.and_eq_true]; exact ⟨decide_eq_true ⟨by simp, show (16 + 1) * ((stepsN f d v.natAbs).length + 1) ≤ 2 ^ 46 by omega⟩, rfl⟩)) ?_
    conv => whnf
    rw [show decide (v < 0) = true from decide_eq_true hn]
    refine ⟨[3], [], rfl, ?_, ?_⟩
    · rw [List.length_append]; rfl
    · rw [List.map_append]; rfl
  · rw [show decide (v < 0) = false from decide_eq_false hn]
    conv => whnf
    rw [show v = (v.natAbs : Int) by omega]
    rw [show (((v.natAbs : Nat) : Int)).natAbs = v.natAbs from rfl]
    refine CallsF.call [] [] (sp) rfl rfl rfl rfl rfl (.inl rfl) ?_
    conv => whnf
    by_cases hz : v.natAbs = 0
    · rw [show (((v.natAbs : Nat) : Int) != 0) = false by simp; omega, if_pos (by omega)]
      conv => whnf
      exact ⟨[1], [], rfl, rfl, rfl⟩
    · rw [show (((v.natAbs : Nat) : Int) != 0) = true by simp; omega, if_neg (by omega)]
      conv => whnf
      refine need_of ((by rw [Bool.and_eq_true]; exact ⟨decide_eq_true ⟨by simp, show (16 + 1) * ((stepsN f d v.natAbs).length + 1) ≤ 2 ^ 46 by omega⟩, rfl⟩)) ?_
      conv => whnf
      refine ⟨[3], [], rfl, ?_, ?_⟩
      · rw [List.length_append]; rfl
      · rw [List.map_append]; rfl

theorem rsigned_no {f : List Int} {v : Int} (h : ¬ (inS v = true ∧ 0 < f.length)) (hv : v ≤ 9223372036854775807) (d g : Int) : CallsF Tryd.prog 30 [.agg [.ri .i64 f, iv d, iv g], iv v] [] (.tup [.snil, .bool false]) [] := by
  have hh : ¬ ((-2199023255550 ≤ v ∧ v ≤ 2199023255550) ∧ 0 < f.length) := fun hc => h ⟨by simp [inS]; exact hc.1, hc.2⟩
  refine e30 ?_
  conv => whnf
  by_cases hn : v < 0
  · rw [show decide (v < 0) = true from decide_eq_true hn]
    conv => whnf
    by_cases hm : v ≥ -2199023255550
    · rw [show decide (v ≥ -2199023255550) = true from decide_eq_true hm]
      conv => whnf
      rw [show IntKind.wrap .i64 (0 - v) = -v from by rw [wrap_id (by omega) (by omega)]; omega]
      refine CallsF.call [] [] (rsteps_no (f := f) (v := -v) (by omega) d g) rfl rfl rfl rfl rfl (.inl rfl) ?_
      conv => whnf
      exact ⟨[], [], rfl, rfl, rfl⟩
    · rw [show decide (v ≥ -2199023255550) = false from decide_eq_false hm]
      conv => whnf
      refine CallsF.call [] [] (rsteps_no (f := f) (v := v) (by omega) d g) rfl rfl rfl rfl rfl (.inl rfl) ?_
      conv => whnf
      exact ⟨[], [], rfl, rfl, rfl⟩
  · rw [show decide (v < 0) = false from decide_eq_false hn]
    conv => whnf
    refine CallsF.call [] [] (rsteps_no (f := f) (v := v) (by omega) d g) rfl rfl rfl rfl rfl (.inl rfl) ?_
    conv => whnf
    exact ⟨[], [], rfl, rfl, rfl⟩

theorem rput_nil (e : Enc) : CallsF Tryd.prog 33 [.bp 0 0, .snil] [rE 1 e, pD e.p] (.tup []) [rE 1 e, pD e.p] := by
  refine e33 ?_
  conv => whnf
  refine LoopA.inv (fun _ st => st = ⟨[(0, .bp 0 0), (6, .snil), (7, iv 0), (8, iv 0)], [rE 1 e, pD e.p], 2, 2⟩) 0 [0, 6, 7, 8] [] [] (by rfl) ?_ ?_
  · conv => whnf
    exact rfl
  rintro k st rfl
  conv => whnf
  exact ⟨[], [], rfl, rfl, rfl⟩

set_option maxRecDepth 10000 in
theorem rput_spec (e : Enc) (h : okE e) (hpl : e.p.length < 4294967296) {q : List (Int × Bool)} (hq : e.n + q.length < 67108000) {rows : List (List AV)} (hr : rows = q.map rowS) : CallsF Tryd.prog 33 [.bp 0 0, .ro 2 rows] [rE 1 e, pD e.p] (.tup []) [rE 2 (encF e q), none, pD (encF e q).p] := by
  subst hr
  have hrow : ∀ i, (h : i < q.length) → nth (q.map rowS) ((i : Nat) : Int).toNat = some (rowS q[i]) := fun i h => by
    rw [Int.toNat_natCast, nth_get, List.getElem?_map, List.getElem?_eq_getElem h]; rfl
  refine m33 1 ?_
  conv => whnf
  refine LoopA.inv (fun k st => ∃ i : Nat, i + k = q.length ∧ st = ⟨[(0, .bp 0 0), (6, .ro 2 (q.map rowS)), (7, iv q.length), (8, iv i)], [rE 1 (encF e (q.take i)), pD (encF e (q.take i)).p], 2, 1⟩) q.length [0, 6, 7, 8] [1] [] (by rfl) ?_ ?_
  · conv => whnf
    refine ⟨0, by omega, ?_⟩
    simp only [List.length_map]
    rfl
  rintro k st ⟨i, hi, rfl⟩
  have hok := encF_ok h (q.take i) (by simp; omega)
  conv => whnf
  refine ifB_of (fun hd => ?_) (fun hd => ?_)
  · have hd : i < q.length := by have := of_decide_eq_true hd; omega
    have he2 : encF e (q.take (i + 1)) = (encF e (q.take i)).put q[i].1 q[i].2 := by rw [List.take_succ_eq_append_getElem hd, encF_app]; rfl
    have sp := put5_spec (encF e (q.take i)) hok.1 (by rw [hok.2.1]; exact hpl) q[i].1 q[i].2
    rw [← he2] at sp
    conv => whnf
    rw [aop_idxS_ro (hrow i hd) rfl rfl]
    conv => whnf
    refine CallsF.call [0, 1] [] (sp) rfl rfl rfl rfl rfl (.inl rfl) ?_
    conv => whnf
    rw [inc_nat (by omega)]
    refine ⟨(q.length - (i + 1)), [0, 6, 7, 8], [3], [], by omega, rfl, ?_⟩
    conv => whnf
    exact ⟨i + 1, by omega, rfl⟩
  · have hd := of_decide_eq_false hd
    obtain rfl : i = q.length := by omega
    rw [List.take_length]
    conv => whnf
    exact ⟨[1], [], rfl, rfl, rfl⟩

end Go.Proofs.TrydN

