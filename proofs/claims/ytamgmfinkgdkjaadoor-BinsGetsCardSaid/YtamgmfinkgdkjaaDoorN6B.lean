/- Layer 6: numbers put by contexts: the walk. -/
import Derived.Test.YtamgmfinkgdkjaaDoorN6A
namespace Go.Proofs.TrydN
open Go Go.AL Go.Proofs

/-- Bits put one behind another. -/
def encF (e : Enc) (q : List (Int × Bool)) : Enc := q.foldl (fun e x => e.put x.1 x.2) e
theorem encF_app (e : Enc) (q r : List (Int × Bool)) : encF e (q ++ r) = encF (encF e q) r := by simp [encF]
theorem encF_one (e : Enc) (x : Int × Bool) : encF e [x] = e.put x.1 x.2 := rfl
theorem encF_L (c : Int) (q : List (Int × Bool)) : encF (Enc.new c) q = encL c q := rfl
theorem encF_ok {e : Enc} (h : okE e) (q : List (Int × Bool)) : e.n + q.length < 67108000 → okE (encF e q) ∧ (encF e q).p.length = e.p.length ∧ (encF e q).n ≤ e.n + q.length := by
  refine list_snoc (motive := fun q => e.n + q.length < 67108000 → okE (encF e q) ∧ (encF e q).p.length = e.p.length ∧ (encF e q).n ≤ e.n + q.length) ?_ ?_ q
  · intro _
    exact ⟨h, rfl, by simp [encF]⟩
  · intro q x ih hl
    simp at hl
    obtain ⟨a1, a2, a3⟩ := ih (by omega)
    obtain ⟨b1, b2, b3⟩ := put_keep a1 (by omega) x.1 x.2
    rw [encF_app, encF_one]
    refine ⟨b1, by rw [b2, a2], ?_⟩
    rw [b3]; simp; split <;> omega
theorem encF_bits {e : Enc} (h : e.bits ≠ []) (q : List (Int × Bool)) : (encF e q).bits ≠ [] := by
  refine list_snoc (motive := fun q => (encF e q).bits ≠ []) h (fun q x ih => ?_) q
  rw [encF_app, encF_one]; exact put_bits ih _ _

/-- A number's digits, the first i of n. -/
def digP (f : List Int) (d : Int) (v n i : Nat) : List (Int × Bool) := (List.range i).flatMap fun j => [(folN f j, false), (d, decide ((v + 1) / 2 ^ (n - 1 - j) % 2 = 1))]
theorem digP_succ (f : List Int) (d : Int) (v n i : Nat) : digP f d v n (i + 1) = digP f d v n i ++ [(folN f i, false), (d, decide ((v + 1) / 2 ^ (n - 1 - i) % 2 = 1))] := by
  simp [digP, List.range_succ]
theorem digP_len (f : List Int) (d : Int) (v n i : Nat) : (digP f d v n i).length = 2 * i := by
  induction i with
  | zero => rfl
  | succ i ih => rw [digP_succ, List.length_append, ih]; simp; omega
/-- How a number is coded. -/
def stepsN (f : List Int) (d : Int) (v : Nat) : List (Int × Bool) := digP f d v (digN v) (digN v) ++ (if digN v < 40 then [(folN f (digN v), true)] else [])
theorem stepsN_len (f : List Int) (d : Int) {v : Nat} (h : v ≤ 2199023255550) : (stepsN f d v).length ≤ 80 := by
  have := digN_in h
  unfold stepsN
  rw [List.length_append, digP_len]
  split <;> simp <;> omega

theorem bit_i64 {x k : Nat} (hx : x < 2 ^ 60) (hk : k < 64) : (IntKind.wrap .i64 ((BitVec.ofInt IntKind.i64.bits (((x : Nat) : Int).fdiv (2 ^ min ((k : Nat) : Int).toNat IntKind.i64.bits)) &&& BitVec.ofInt IntKind.i64.bits 1).toNat : Nat) == 1) = decide (x / 2 ^ k % 2 = 1) := by
  have e1 : min ((k : Nat) : Int).toNat IntKind.i64.bits = k := by simp [IntKind.bits]; omega
  have e2 : ((x : Nat) : Int).fdiv (2 ^ k) = ((x / 2 ^ k : Nat) : Int) := by
    rw [Int.fdiv_eq_ediv_of_nonneg _ (Int.le_of_lt (Int.pow_pos (by omega)))]; simp
  rw [e1, e2]
  have hle : x / 2 ^ k ≤ x := Nat.div_le_self _ _
  generalize x / 2 ^ k = q at *
  have e3 : (BitVec.ofInt IntKind.i64.bits (q : Int) &&& BitVec.ofInt IntKind.i64.bits 1).toNat = q % 2 := by
    show (BitVec.ofInt 64 (q : Int) &&& BitVec.ofInt 64 1).toNat = q % 2
    rw [BitVec.toNat_and, BitVec.ofInt_natCast, BitVec.toNat_ofNat, Nat.mod_eq_of_lt (by omega), show (BitVec.ofInt 64 1).toNat = 1 from rfl]
    exact Nat.and_one_is_mod q
  rw [e3, wrap_id (by omega) (by omega), Bool.eq_iff_iff]
  simp; omega

/-- A number put. -/
def Enc.putN (e : Enc) (f : List Int) (d g v : Int) : Enc := match mayN v && rightN f d g e.p.length with
  | true => encF e (stepsN f d v.toNat)
  | false => e

abbrev bxS (f : List Int) (d g : Int) : Option ABlk := some (.box [.ri .i64 f, iv d, iv g])

set_option maxRecDepth 10000 in
set_option maxHeartbeats 1000000 in
theorem bput1_spec (e : Enc) (hb : e.bits ≠ []) (h : okE e) (hn : e.n < 67000000) (hpne : e.p ≠ []) (hpl : e.p.length ≤ 64) {f : List Int} (hf : f.length < 4294967296) (d g v : Int) : CallsF Tryd.prog 31 [.bp 0 0, .agg [.ri .i64 f, iv d, iv g], iv v] (hE1 e) (.bool (mayN v && rightN f d g e.p.length)) (hF1 (e.putN f d g v)) := by
  unfold Enc.putN
  refine m31 3 ?_
  conv => whnf
  refine CallsF.call [] [] (may_spec v) rfl rfl rfl rfl rfl (.inl rfl) ?_
  conv => whnf
  cases hm : mayN v
  · conv => whnf
    exact ⟨[3], [], rfl, rfl, rfl⟩
  have hm2 : 0 ≤ v ∧ v ≤ 2199023255550 := by simpa [mayN] using hm
  obtain ⟨V, rfl⟩ : ∃ V : Nat, v = V := ⟨v.toNat, by omega⟩
  have hdg := digN_in (v := V) (by omega)
  conv => whnf
  refine CallsF.call [0, 1, 2, 3] [] (chances1_spec _ _ _ _ _ _ hpne (by omega)) rfl rfl rfl rfl rfl (.inl rfl) ?_
  conv => whnf
  refine ⟨.inl ⟨_, rfl⟩, ?_⟩
  conv => whnf
  refine CallsF.call [] [] (right_spec f hf d g e.p.length) rfl rfl rfl rfl rfl (.inl rfl) ?_
  conv => whnf
  cases hr : rightN f d g e.p.length
  · conv => whnf
    exact ⟨[3], [], rfl, rfl, rfl⟩
  have hf0 : 0 < f.length := by simp [rightN] at hr; omega
  have ok : ∀ i, i ≤ digN V → okE (encF e (digP f d V (digN V) i)) ∧ (encF e (digP f d V (digN V) i)).n < 67001000 := fun i hi => by
    have := encF_ok h (digP f d V (digN V) i) (by rw [digP_len]; omega)
    rw [digP_len] at this
    exact ⟨this.1, by omega⟩
  conv => whnf
  refine CallsF.call [] [] (digits_spec (v := V) (by omega)) rfl rfl rfl rfl rfl (.inl rfl) ?_
  conv => whnf
  refine LoopA.inv (fun k st => ∃ i : Nat, i + k = digN V ∧ ∃ E : Enc, E = encF e (digP f d V (digN V) i) ∧ (E.bits ≠ [] ∧ st = ⟨[(0, .bp 0 0), (2, iv V), (4, .bp 3 0), (7, iv (digN V)), (22, iv (digN V)), (23, iv i)], [cB E.p E.n E.low E.size E.owed, pD E.p, wB E.bits 4, bxS f d g, wD E.bits], 5, 3⟩)) (digN V) [0, 2, 4, 7, 22, 23] [4, 3] [] (by rfl) ?_ ?_
  · conv => whnf
    exact ⟨0, by omega, e, rfl, hb, rfl⟩
  rintro k st ⟨i, hi, E, hE, hB, rfl⟩
  conv => whnf
  refine ifB_of (fun hd => ?_) (fun hd => ?_)
  · have hd := of_decide_eq_true hd
    have hok := ok i (by omega)
    rw [← hE] at hok
    have hE1 : (E.put (folN f i) false).put d (decide ((V + 1) / 2 ^ (digN V - 1 - i) % 2 = 1)) = encF e (digP f d V (digN V) (i + 1)) := by rw [digP_succ, encF_app, ← hE]; rfl
    have ok1 := put_keep hok.1 (by omega) (folN f i) false
    have eb : IntKind.wrap .i64 (IntKind.wrap .i64 (((digN V : Nat) : Int) - 1) - (i : Int)) = ((digN V - 1 - i : Nat) : Int) := by
      rw [wrap_id (n := ((digN V : Nat) : Int) - 1) (by omega) (by omega), wrap_id (by omega) (by omega)]; omega
    have ev1 : IntKind.wrap .i64 (((V : Nat) : Int) + 1) = ((V + 1 : Nat) : Int) := by rw [wrap_id (by omega) (by omega)]; rfl
    conv => whnf
    refine CallsF.call [] [] (follow_spec hf0 hf d g (i := i) (by omega)) rfl rfl rfl rfl rfl (.inl rfl) ?_
    conv => whnf
    refine CallsF.call [0, 1, 2, 4] [] (put1_spec E hok.1 (folN f i) false) rfl rfl rfl rfl rfl (.inl rfl) ?_
    conv => whnf
    rw [eb, ev1]
    conv => whnf
    rw [bit_i64 (x := V + 1) (k := digN V - 1 - i) (by omega) (by omega)]
    refine CallsF.call [0, 1, 2, 5] [] (put1_spec (E.put (folN f i) false) ok1.1 d (decide ((V + 1) / 2 ^ (digN V - 1 - i) % 2 = 1))) rfl rfl rfl rfl rfl (.inl rfl) ?_
    conv => whnf
    rw [inc_nat (by omega)]
    refine ⟨(digN V - (i + 1)), [0, 2, 4, 7, 22, 23], [3, 6], [], by omega, rfl, ?_⟩
    conv => whnf
    refine ⟨i + 1, by omega, _, hE1, put_bits (put_bits hB _ _) _ _, rfl⟩
  · have hd := of_decide_eq_false hd
    obtain rfl : i = digN V := by omega
    have hok := ok (digN V) (by omega)
    rw [← hE] at hok
    have hst : encF e (stepsN f d V) = if digN V < 40 then E.put (folN f (digN V)) true else E := by
      unfold stepsN
      split
      · rw [encF_app, ← hE]; rfl
      · rw [List.append_nil, hE]
    rw [Int.toNat_natCast, hst]
    by_cases h40 : digN V < 40
    · rw [if_pos h40]
      conv => whnf
      rw [show decide (((digN V : Nat) : Int) < 40) = true from decide_eq_true (by omega)]
      conv => whnf
      refine CallsF.call [] [] (follow_spec hf0 hf d g (i := digN V) (by omega)) rfl rfl rfl rfl rfl (.inl rfl) ?_
      conv => whnf
      refine CallsF.call [0, 1, 2, 4] [] (put1_spec E hok.1 (folN f (digN V)) true) rfl rfl rfl rfl rfl (.inl rfl) ?_
      conv => whnf
      exact ⟨[5], [], rfl, rfl, rfl⟩
    · rw [if_neg h40]
      conv => whnf
      rw [show decide (((digN V : Nat) : Int) < 40) = false from decide_eq_false (by omega)]
      conv => whnf
      exact ⟨[4], [], rfl, rfl, rfl⟩

set_option maxRecDepth 10000 in
set_option maxHeartbeats 1000000 in
theorem bput0_spec (e : Enc) (hb : e.bits = []) (h : okE e) (hn : e.n < 67000000) (hpne : e.p ≠ []) (hpl : e.p.length ≤ 64) {f : List Int} (hf : f.length < 4294967296) (d g v : Int) : CallsF Tryd.prog 31 [.bp 0 0, .agg [.ri .i64 f, iv d, iv g], iv v] (hE0 e) (.bool (mayN v && rightN f d g e.p.length)) (hP0 (e.putN f d g v)) := by
  unfold Enc.putN
  refine m31 3 ?_
  conv => whnf
  refine CallsF.call [] [] (may_spec v) rfl rfl rfl rfl rfl (.inl rfl) ?_
  conv => whnf
  cases hm : mayN v
  · conv => whnf
    exact ⟨[], [], rfl, rfl, (hP0_nil hb).symm⟩
  have hm2 : 0 ≤ v ∧ v ≤ 2199023255550 := by simpa [mayN] using hm
  obtain ⟨V, rfl⟩ : ∃ V : Nat, v = V := ⟨v.toNat, by omega⟩
  have hdg := digN_in (v := V) (by omega)
  conv => whnf
  refine CallsF.call [0, 1, 2] [] (chances0_spec _ _ _ _ _ hpne (by omega)) rfl rfl rfl rfl rfl (.inl rfl) ?_
  conv => whnf
  refine ⟨.inl ⟨_, rfl⟩, ?_⟩
  conv => whnf
  refine CallsF.call [] [] (right_spec f hf d g e.p.length) rfl rfl rfl rfl rfl (.inl rfl) ?_
  conv => whnf
  cases hr : rightN f d g e.p.length
  · conv => whnf
    exact ⟨[], [], rfl, rfl, (hP0_nil hb).symm⟩
  have hf0 : 0 < f.length := by simp [rightN] at hr; omega
  have ok : ∀ i, i ≤ digN V → okE (encF e (digP f d V (digN V) i)) ∧ (encF e (digP f d V (digN V) i)).n < 67001000 := fun i hi => by
    have := encF_ok h (digP f d V (digN V) i) (by rw [digP_len]; omega)
    rw [digP_len] at this
    exact ⟨this.1, by omega⟩
  conv => whnf
  refine CallsF.call [] [] (digits_spec (v := V) (by omega)) rfl rfl rfl rfl rfl (.inl rfl) ?_
  conv => whnf
  refine LoopA.inv (fun k st => ∃ i : Nat, i + k = digN V ∧ ∃ E : Enc, E = encF e (digP f d V (digN V) i) ∧ ((E.bits = [] ∧ st = ⟨[(0, .bp 0 0), (2, iv V), (4, .bp 3 0), (7, iv (digN V)), (22, iv (digN V)), (23, iv i)], [cB E.p E.n E.low E.size E.owed, pD E.p, some (.box [.snil, iv 0]), bxS f d g], 4, 3⟩) ∨ (E.bits ≠ [] ∧ st = ⟨[(0, .bp 0 0), (2, iv V), (4, .bp 3 0), (7, iv (digN V)), (22, iv (digN V)), (23, iv i)], [cB E.p E.n E.low E.size E.owed, pD E.p, wB E.bits 4, bxS f d g, wD E.bits], 5, 3⟩))) (digN V) [0, 2, 4, 7, 22, 23] [3] [] (by rfl) ?_ ?_
  · conv => whnf
    exact ⟨0, by omega, e, rfl, .inl ⟨hb, rfl⟩⟩
  rintro k st ⟨i, hi, E, hE, ⟨hB, rfl⟩ | ⟨hB, rfl⟩⟩
  · conv => whnf
    refine ifB_of (fun hd => ?_) (fun hd => ?_)
    · have hd := of_decide_eq_true hd
      have hok := ok i (by omega)
      rw [← hE] at hok
      have hE1 : (E.put (folN f i) false).put d (decide ((V + 1) / 2 ^ (digN V - 1 - i) % 2 = 1)) = encF e (digP f d V (digN V) (i + 1)) := by rw [digP_succ, encF_app, ← hE]; rfl
      have ok1 := put_keep hok.1 (by omega) (folN f i) false
      have eb : IntKind.wrap .i64 (IntKind.wrap .i64 (((digN V : Nat) : Int) - 1) - (i : Int)) = ((digN V - 1 - i : Nat) : Int) := by
        rw [wrap_id (n := ((digN V : Nat) : Int) - 1) (by omega) (by omega), wrap_id (by omega) (by omega)]; omega
      have ev1 : IntKind.wrap .i64 (((V : Nat) : Int) + 1) = ((V + 1 : Nat) : Int) := by rw [wrap_id (by omega) (by omega)]; rfl
      conv => whnf
      refine CallsF.call [] [] (follow_spec hf0 hf d g (i := i) (by omega)) rfl rfl rfl rfl rfl (.inl rfl) ?_
      conv => whnf
      have sp := put0_spec E hB hok.1 (folN f i) false
      by_cases hb1 : (E.put (folN f i) false).bits = []
      · rw [hP0_nil hb1] at sp
        refine CallsF.call [0, 1, 2] [] (sp) rfl rfl rfl rfl rfl (.inl rfl) ?_
        conv => whnf
        rw [eb, ev1]
        conv => whnf
        rw [bit_i64 (x := V + 1) (k := digN V - 1 - i) (by omega) (by omega)]
        have sq := put0_spec (E.put (folN f i) false) hb1 ok1.1 d (decide ((V + 1) / 2 ^ (digN V - 1 - i) % 2 = 1))
        by_cases hb2 : ((E.put (folN f i) false).put d (decide ((V + 1) / 2 ^ (digN V - 1 - i) % 2 = 1))).bits = []
        · rw [hP0_nil hb2] at sq
          refine CallsF.call [0, 1, 2] [] (sq) rfl rfl rfl rfl rfl (.inl rfl) ?_
          conv => whnf
          rw [inc_nat (by omega)]
          refine ⟨(digN V - (i + 1)), [0, 2, 4, 7, 22, 23], [3], [], by omega, rfl, ?_⟩
          conv => whnf
          exact ⟨i + 1, by omega, _, hE1, .inl ⟨hb2, rfl⟩⟩
        · rw [hP0_app hb2] at sq
          refine CallsF.call [0, 1, 2] [] (sq) rfl rfl rfl rfl rfl (.inl rfl) ?_
          conv => whnf
          rw [inc_nat (by omega)]
          refine ⟨(digN V - (i + 1)), [0, 2, 4, 7, 22, 23], [3, 4], [], by omega, rfl, ?_⟩
          conv => whnf
          exact ⟨i + 1, by omega, _, hE1, .inr ⟨hb2, rfl⟩⟩
      · rw [hP0_app hb1] at sp
        refine CallsF.call [0, 1, 2] [] (sp) rfl rfl rfl rfl rfl (.inl rfl) ?_
        conv => whnf
        rw [eb, ev1]
        conv => whnf
        rw [bit_i64 (x := V + 1) (k := digN V - 1 - i) (by omega) (by omega)]
        refine CallsF.call [0, 1, 2, 4] [] (put1_spec (E.put (folN f i) false) ok1.1 d (decide ((V + 1) / 2 ^ (digN V - 1 - i) % 2 = 1))) rfl rfl rfl rfl rfl (.inl rfl) ?_
        conv => whnf
        rw [inc_nat (by omega)]
        refine ⟨(digN V - (i + 1)), [0, 2, 4, 7, 22, 23], [3, 5], [], by omega, rfl, ?_⟩
        conv => whnf
        exact ⟨i + 1, by omega, _, hE1, .inr ⟨put_bits hb1 _ _, rfl⟩⟩
    · have hd := of_decide_eq_false hd
      obtain rfl : i = digN V := by omega
      have hok := ok (digN V) (by omega)
      rw [← hE] at hok
      have hst : encF e (stepsN f d V) = if digN V < 40 then E.put (folN f (digN V)) true else E := by
        unfold stepsN
        split
        · rw [encF_app, ← hE]; rfl
        · rw [List.append_nil, hE]
      rw [Int.toNat_natCast, hst]
      by_cases h40 : digN V < 40
      · rw [if_pos h40]
        conv => whnf
        rw [show decide (((digN V : Nat) : Int) < 40) = true from decide_eq_true (by omega)]
        conv => whnf
        refine CallsF.call [] [] (follow_spec hf0 hf d g (i := digN V) (by omega)) rfl rfl rfl rfl rfl (.inl rfl) ?_
        conv => whnf
        have sp := put0_spec E hB hok.1 (folN f (digN V)) true
        by_cases hb1 : (E.put (folN f (digN V)) true).bits = []
        · rw [hP0_nil hb1] at sp
          refine CallsF.call [0, 1, 2] [] (sp) rfl rfl rfl rfl rfl (.inl rfl) ?_
          conv => whnf
          exact ⟨[], [], rfl, rfl, (hP0_nil hb1).symm⟩
        · rw [hP0_app hb1] at sp
          refine CallsF.call [0, 1, 2] [] (sp) rfl rfl rfl rfl rfl (.inl rfl) ?_
          conv => whnf
          exact ⟨[4], [], rfl, rfl, (hP0_app hb1).symm⟩
      · rw [if_neg h40]
        conv => whnf
        rw [show decide (((digN V : Nat) : Int) < 40) = false from decide_eq_false (by omega)]
        conv => whnf
        exact ⟨[], [], rfl, rfl, (hP0_nil hB).symm⟩
  · conv => whnf
    refine ifB_of (fun hd => ?_) (fun hd => ?_)
    · have hd := of_decide_eq_true hd
      have hok := ok i (by omega)
      rw [← hE] at hok
      have hE1 : (E.put (folN f i) false).put d (decide ((V + 1) / 2 ^ (digN V - 1 - i) % 2 = 1)) = encF e (digP f d V (digN V) (i + 1)) := by rw [digP_succ, encF_app, ← hE]; rfl
      have ok1 := put_keep hok.1 (by omega) (folN f i) false
      have eb : IntKind.wrap .i64 (IntKind.wrap .i64 (((digN V : Nat) : Int) - 1) - (i : Int)) = ((digN V - 1 - i : Nat) : Int) := by
        rw [wrap_id (n := ((digN V : Nat) : Int) - 1) (by omega) (by omega), wrap_id (by omega) (by omega)]; omega
      have ev1 : IntKind.wrap .i64 (((V : Nat) : Int) + 1) = ((V + 1 : Nat) : Int) := by rw [wrap_id (by omega) (by omega)]; rfl
      conv => whnf
      refine CallsF.call [] [] (follow_spec hf0 hf d g (i := i) (by omega)) rfl rfl rfl rfl rfl (.inl rfl) ?_
      conv => whnf
      refine CallsF.call [0, 1, 2, 4] [] (put1_spec E hok.1 (folN f i) false) rfl rfl rfl rfl rfl (.inl rfl) ?_
      conv => whnf
      rw [eb, ev1]
      conv => whnf
      rw [bit_i64 (x := V + 1) (k := digN V - 1 - i) (by omega) (by omega)]
      refine CallsF.call [0, 1, 2, 5] [] (put1_spec (E.put (folN f i) false) ok1.1 d (decide ((V + 1) / 2 ^ (digN V - 1 - i) % 2 = 1))) rfl rfl rfl rfl rfl (.inl rfl) ?_
      conv => whnf
      rw [inc_nat (by omega)]
      refine ⟨(digN V - (i + 1)), [0, 2, 4, 7, 22, 23], [3, 6], [], by omega, rfl, ?_⟩
      conv => whnf
      refine ⟨i + 1, by omega, _, hE1, .inr ⟨put_bits (put_bits hB _ _) _ _, rfl⟩⟩
    · have hd := of_decide_eq_false hd
      obtain rfl : i = digN V := by omega
      have hok := ok (digN V) (by omega)
      rw [← hE] at hok
      have hst : encF e (stepsN f d V) = if digN V < 40 then E.put (folN f (digN V)) true else E := by
        unfold stepsN
        split
        · rw [encF_app, ← hE]; rfl
        · rw [List.append_nil, hE]
      rw [Int.toNat_natCast, hst]
      by_cases h40 : digN V < 40
      · rw [if_pos h40]
        conv => whnf
        rw [show decide (((digN V : Nat) : Int) < 40) = true from decide_eq_true (by omega)]
        conv => whnf
        refine CallsF.call [] [] (follow_spec hf0 hf d g (i := digN V) (by omega)) rfl rfl rfl rfl rfl (.inl rfl) ?_
        conv => whnf
        refine CallsF.call [0, 1, 2, 4] [] (put1_spec E hok.1 (folN f (digN V)) true) rfl rfl rfl rfl rfl (.inl rfl) ?_
        conv => whnf
        exact ⟨[5], [], rfl, rfl, (hP0_app (put_bits hB _ _)).symm⟩
      · rw [if_neg h40]
        conv => whnf
        rw [show decide (((digN V : Nat) : Int) < 40) = false from decide_eq_false (by omega)]
        conv => whnf
        exact ⟨[4], [], rfl, rfl, (hP0_app hB).symm⟩

end Go.Proofs.TrydN

