/- Layer 6: signed numbers put; what must be answered first: the walk. -/
import Derived.Test.YtamgmfinkgdkjaaDoorN6B
import Derived.Test.YtamgmfinkgdkjaaDoorN6C
namespace Go.Proofs.TrydN
open Go Go.AL Go.Proofs

theorem abs_eq {v : Int} (h : ¬ v < -2199023255550) (h2 : v ≤ 9223372036854775807) : (if IntKind.wrap .i64 (0 - v) > v then IntKind.wrap .i64 (0 - v) else v) = (v.natAbs : Int) := by
  rw [wrap_id (by omega) (by omega)]; split <;> omega

/-- May a signed number be put by a set? -/
def mayS (f : List Int) (d g : Int) (n : Nat) (v : Int) : Bool := !decide (v < -2199023255550) && (mayN v.natAbs && rightN f d g n)
/-- How a signed number is coded. -/
def stepsS (f : List Int) (d g : Int) (v : Int) : List (Int × Bool) := stepsN f d v.natAbs ++ (if v ≠ 0 then [(g, decide (v < 0))] else [])
def Enc.putS (e : Enc) (f : List Int) (d g v : Int) : Enc := match mayS f d g e.p.length v with
  | true => encF e (stepsS f d g v)
  | false => e

theorem putN_ok {e : Enc} (h : okE e) (hn : e.n < 67000000) (f : List Int) (d g v : Int) : okE (e.putN f d g v) ∧ (e.putN f d g v).p.length = e.p.length ∧ (e.putN f d g v).n ≤ e.n + 80 := by
  unfold Enc.putN
  cases hm : mayN v && rightN f d g e.p.length
  · exact ⟨h, rfl, by simp⟩
  · have hm2 : 0 ≤ v ∧ v ≤ 2199023255550 := by simp [mayN] at hm; omega
    have hl := stepsN_len f d (v := v.toNat) (by omega)
    obtain ⟨a1, a2, a3⟩ := encF_ok h (stepsN f d v.toNat) (by omega)
    exact ⟨a1, a2, by simp only; omega⟩
theorem stepsS_len (f : List Int) (d g : Int) {v : Int} (h : v.natAbs ≤ 2199023255550) : (stepsS f d g v).length ≤ 81 := by
  have := stepsN_len f d h
  unfold stepsS
  rw [List.length_append]
  split <;> simp <;> omega
theorem putS_ok {e : Enc} (h : okE e) (hn : e.n < 67000000) (f : List Int) (d g v : Int) : okE (e.putS f d g v) ∧ (e.putS f d g v).p.length = e.p.length ∧ (e.putS f d g v).n ≤ e.n + 81 := by
  unfold Enc.putS
  cases hm : mayS f d g e.p.length v
  · exact ⟨h, rfl, by simp⟩
  · have hm2 : v.natAbs ≤ 2199023255550 := by simp [mayS, mayN] at hm; omega
    have hl := stepsS_len f d g hm2
    obtain ⟨a1, a2, a3⟩ := encF_ok h (stepsS f d g v) (by omega)
    exact ⟨a1, a2, by simp only; omega⟩

set_option maxRecDepth 10000 in
theorem bputs1_spec (e : Enc) (hb : e.bits ≠ []) (h : okE e) (hn : e.n < 66999000) (hpne : e.p ≠ []) (hpl : e.p.length ≤ 64) {f : List Int} (hf : f.length < 4294967296) (d g v : Int) (hv : v ≤ 9223372036854775807) : CallsF Tryd.prog 32 [.bp 0 0, .agg [.ri .i64 f, iv d, iv g], iv v] (hE1 e) (.bool (mayS f d g e.p.length v)) (hF1 (e.putS f d g v)) := by
  have sp := bput1_spec e hb h (by omega) hpne hpl hf d g (v.natAbs : Int)
  obtain ⟨o1, o2, o3⟩ := putN_ok h (by omega) f d g (v.natAbs : Int)
  unfold Enc.putS mayS
  refine m32 3 ?_
  conv => whnf
  by_cases h0 : v < -2199023255550
  · rw [show decide (v < -2199023255550) = true from decide_eq_true h0]
    conv => whnf
    exact ⟨[3], [], rfl, rfl, rfl⟩
  rw [show decide (v < -2199023255550) = false from decide_eq_false h0]
  conv => whnf
  rw [abs_eq h0 hv]
  unfold Enc.putN at sp o1
  cases hm : mayN (v.natAbs : Int) && rightN f d g e.p.length
  · rw [hm] at sp
    refine CallsF.call [0, 1, 2, 3] [] (sp) rfl rfl rfl rfl rfl (.inl rfl) ?_
    conv => whnf
    exact ⟨[5], [], rfl, rfl, rfl⟩
  rw [hm] at sp o1
  simp only [Int.toNat_natCast] at sp o1
  refine CallsF.call [0, 1, 2, 3] [] (sp) rfl rfl rfl rfl rfl (.inl rfl) ?_
  conv => whnf
  by_cases hz : v = 0
  · rw [show (v != 0) = false by simp [hz]]
    have e2 : encF e (stepsS f d g v) = encF e (stepsN f d v.natAbs) := by unfold stepsS; rw [if_neg (by simp [hz]), List.append_nil]
    rw [e2]
    conv => whnf
    exact ⟨[5], [], rfl, rfl, rfl⟩
  · rw [show (v != 0) = true by simp [hz]]
    have e2 : encF e (stepsS f d g v) = (encF e (stepsN f d v.natAbs)).put g (decide (v < 0)) := by unfold stepsS; rw [if_pos (by simp [hz]), encF_app]; rfl
    rw [e2]
    conv => whnf
    refine CallsF.call [0, 1, 2, 5] [] (put1_spec (encF e (stepsN f d v.natAbs)) o1 g (decide (v < 0))) rfl rfl rfl rfl rfl (.inl rfl) ?_
    conv => whnf
    exact ⟨[6], [], rfl, rfl, rfl⟩

set_option maxRecDepth 10000 in
theorem bputs0_spec (e : Enc) (hb : e.bits = []) (h : okE e) (hn : e.n < 66999000) (hpne : e.p ≠ []) (hpl : e.p.length ≤ 64) {f : List Int} (hf : f.length < 4294967296) (d g v : Int) (hv : v ≤ 9223372036854775807) : CallsF Tryd.prog 32 [.bp 0 0, .agg [.ri .i64 f, iv d, iv g], iv v] (hE0 e) (.bool (mayS f d g e.p.length v)) (hP0 (e.putS f d g v)) := by
  have sp := bput0_spec e hb h (by omega) hpne hpl hf d g (v.natAbs : Int)
  obtain ⟨o1, o2, o3⟩ := putN_ok h (by omega) f d g (v.natAbs : Int)
  unfold Enc.putS mayS
  refine m32 3 ?_
  conv => whnf
  by_cases h0 : v < -2199023255550
  · rw [show decide (v < -2199023255550) = true from decide_eq_true h0]
    conv => whnf
    exact ⟨[], [], rfl, rfl, (hP0_nil hb).symm⟩
  rw [show decide (v < -2199023255550) = false from decide_eq_false h0]
  conv => whnf
  rw [abs_eq h0 hv]
  unfold Enc.putN at sp o1
  cases hm : mayN (v.natAbs : Int) && rightN f d g e.p.length
  · rw [hm] at sp
    simp only at sp
    rw [hP0_nil hb] at sp
    refine CallsF.call [0, 1, 2] [] (sp) rfl rfl rfl rfl rfl (.inl rfl) ?_
    conv => whnf
    exact ⟨[], [], rfl, rfl, (hP0_nil hb).symm⟩
  rw [hm] at sp o1
  simp only [Int.toNat_natCast] at sp o1
  by_cases hb1 : (encF e (stepsN f d v.natAbs)).bits = []
  · rw [hP0_nil hb1] at sp
    refine CallsF.call [0, 1, 2] [] (sp) rfl rfl rfl rfl rfl (.inl rfl) ?_
    conv => whnf
    by_cases hz : v = 0
    · rw [show (v != 0) = false by simp [hz]]
      have e2 : encF e (stepsS f d g v) = encF e (stepsN f d v.natAbs) := by unfold stepsS; rw [if_neg (by simp [hz]), List.append_nil]
      rw [e2]
      conv => whnf
      exact ⟨[], [], rfl, rfl, (hP0_nil hb1).symm⟩
    · rw [show (v != 0) = true by simp [hz]]
      have e2 : encF e (stepsS f d g v) = (encF e (stepsN f d v.natAbs)).put g (decide (v < 0)) := by unfold stepsS; rw [if_pos (by simp [hz]), encF_app]; rfl
      rw [e2]
      conv => whnf
      have sq := put0_spec (encF e (stepsN f d v.natAbs)) hb1 o1 g (decide (v < 0))
      by_cases hb2 : ((encF e (stepsN f d v.natAbs)).put g (decide (v < 0))).bits = []
      · rw [hP0_nil hb2] at sq
        refine CallsF.call [0, 1, 2] [] (sq) rfl rfl rfl rfl rfl (.inl rfl) ?_
        conv => whnf
        exact ⟨[], [], rfl, rfl, (hP0_nil hb2).symm⟩
      · rw [hP0_app hb2] at sq
        refine CallsF.call [0, 1, 2] [] (sq) rfl rfl rfl rfl rfl (.inl rfl) ?_
        conv => whnf
        exact ⟨[4], [], rfl, rfl, (hP0_app hb2).symm⟩
  · rw [hP0_app hb1] at sp
    refine CallsF.call [0, 1, 2] [] (sp) rfl rfl rfl rfl rfl (.inl rfl) ?_
    conv => whnf
    by_cases hz : v = 0
    · rw [show (v != 0) = false by simp [hz]]
      have e2 : encF e (stepsS f d g v) = encF e (stepsN f d v.natAbs) := by unfold stepsS; rw [if_neg (by simp [hz]), List.append_nil]
      rw [e2]
      conv => whnf
      exact ⟨[4], [], rfl, rfl, (hP0_app hb1).symm⟩
    · rw [show (v != 0) = true by simp [hz]]
      have e2 : encF e (stepsS f d g v) = (encF e (stepsN f d v.natAbs)).put g (decide (v < 0)) := by unfold stepsS; rw [if_pos (by simp [hz]), encF_app]; rfl
      rw [e2]
      conv => whnf
      refine CallsF.call [0, 1, 2, 4] [] (put1_spec (encF e (stepsN f d v.natAbs)) o1 g (decide (v < 0))) rfl rfl rfl rfl rfl (.inl rfl) ?_
      conv => whnf
      exact ⟨[5], [], rfl, rfl, (hP0_app (put_bits hb1 _ _)).symm⟩

theorem fresh_len (c : Int) : (freshP c).length = ctxN c := by simp [freshP]

/-- Two numbers, put and told. -/
def e6a : Enc := (Enc.new 4).putN [0, 1] 2 3 2
def e6b : Enc := e6a.putS [0, 1] 2 3 (-700)
def d6a : Int × Dec := (Dec.new e6b.bytes 4).numN [0, 1] 2 3
theorem e6_ok : (mayN 2 && rightN [0, 1] 2 3 (Enc.new 4).p.length) = true ∧ e6a.bits ≠ [] ∧ mayS [0, 1] 2 3 e6a.p.length (-700) = true ∧ e6b.bits ≠ [] ∧ (mayN (-1) && rightN [0, 1] 2 3 e6b.p.length) = false ∧ e6b.putN [0, 1] 2 3 (-1) = e6b ∧ e6b.n = 23 ∧ e6b.p.length = 4 ∧ e6b.bytes.length < 100 := by
  refine ⟨by decide +kernel, by decide +kernel, by decide +kernel, by decide +kernel, by decide +kernel, rfl, by decide +kernel, by decide +kernel, by decide +kernel⟩
theorem d6_ok : d6a.1 = 2 ∧ (d6a.2.sgnN [0, 1] 2 3).1 = -700 ∧ d6a.2.p.length = 4 := by
  refine ⟨by decide +kernel, by decide +kernel, by decide +kernel⟩

set_option maxRecDepth 10000 in
theorem first6_spec : CallsF Tryd.prog 27 [] [] (.bool true) [] := by
  obtain ⟨f1, f2, f3, f4, f5, f6, f7, f8, f9⟩ := e6_ok
  obtain ⟨g1, g2, g3⟩ := d6_ok
  have n4 : (Enc.new 4).p.length = 4 := rfl
  have ka := putN_ok (newE_ok 4) (by decide) [0, 1] 2 3 2
  have kan : e6a.n < 1000 := by have := ka.2.2; have : (Enc.new 4).n = 0 := rfl; show ((Enc.new 4).putN [0, 1] 2 3 2).n < 1000; omega
  have kal : e6a.p.length = 4 := ka.2.1
  have oka : okE e6a := ka.1
  have kb := putS_ok oka (by omega) [0, 1] 2 3 (-700)
  have okb : okE e6b := kb.1
  have s1 := bput0_spec (Enc.new 4) rfl (newE_ok 4) (by decide) (by decide) (by decide) (f := [0, 1]) (by decide) 2 3 2
  rw [f1, hP0_app (e := (Enc.new 4).putN [0, 1] 2 3 2) f2] at s1
  have s2 := bputs1_spec e6a f2 oka (by omega) (fun h => by rw [h] at kal; cases kal) (by omega) (f := [0, 1]) (by decide) 2 3 (-700) (by decide)
  rw [f3] at s2
  have s3 := bput1_spec e6b f4 okb (by omega) (fun h => by rw [h] at f8; cases f8) (by omega) (f := [0, 1]) (by decide) 2 3 (-1)
  rw [f5, f6] at s3
  have hkb : okB e6b.bytes := okB_trim (okB_pack _)
  have hcl := asB_bytes e6b.bytes
  have okd := newD_ok hkb (by omega) 4
  have kd := numN_ok okd (by decide) [0, 1] 2 3
  have kdn : d6a.2.n < 1000 := by have := kd.2.2.1; have : (Dec.new e6b.bytes 4).n = 0 := rfl; show ((Dec.new e6b.bytes 4).numN [0, 1] 2 3).2.n < 1000; omega
  have s4 := bget_spec (Dec.new e6b.bytes 4) okd (by decide) (by intro h; cases h) (by decide) (f := [0, 1]) (by decide) 2 3
  have s5 := bgets_spec d6a.2 kd.1 (by omega) (fun h => by rw [h] at g3; cases g3) (by omega) (f := [0, 1]) (by decide) 2 3
  rw [g2] at s5
  replace s4 : CallsF Tryd.prog 37 [.bp 0 0, .agg [.ri .i64 [0, 1], iv 2, iv 3]] (hD (Dec.new e6b.bytes 4)) (iv d6a.1) (hD d6a.2) := s4
  rw [g1] at s4
  replace s1 : CallsF Tryd.prog 31 [.bp 0 0, .agg [.ri .i64 [0, 1], iv 2, iv 3], iv 2] (hE0 (Enc.new 4)) (.bool true) (hE1 e6a) := s1
  replace s2 : CallsF Tryd.prog 32 [.bp 0 0, .agg [.ri .i64 [0, 1], iv 2, iv 3], iv (-700)] (hE1 e6a) (.bool true) (hF1 e6b) := s2
  have b1 := bitsK_spec 2
  have b2 := bitsK_spec 2199023255550
  rw [show bitsK 2 = 3 by decide +kernel] at b1
  rw [show bitsK 2199023255550 = 80 by decide +kernel] at b2
  have by0 := bytes1_spec e6b f4 okb
  have ct := count1_spec e6b.p e6b.n e6b.low e6b.size e6b.owed e6b.bits
  refine e27 ?_
  conv => whnf
  refine CallsA.frz [0] ?_
  conv => whnf
  refine CallsF.call [] [] (newE_spec 4) rfl rfl rfl rfl rfl (.inl rfl) ?_
  conv => whnf
  refine CallsF.call [2, 3, 4] [] (s1) rfl rfl rfl rfl rfl (.inl rfl) ?_
  conv => whnf
  refine CallsF.call [2, 3, 4, 5] [] (s2) rfl rfl rfl rfl rfl (.inl rfl) ?_
  conv => whnf
  refine CallsF.call [2, 3, 4, 6] [] (s3) rfl rfl rfl rfl rfl (.inl rfl) ?_
  conv => whnf
  refine CallsF.call [2, 3, 4, 7] [] (ct) rfl rfl rfl rfl rfl (.inl rfl) ?_
  conv => whnf
  rw [show ((e6b.n : Int) != 23) = false by rw [f7]; rfl]
  conv => whnf
  refine CallsF.callV [2, 3, 4, 7] [] (by0) hcl.cl rfl rfl rfl rfl rfl (.inl rfl) ?_
  conv => whnf
  refine CallsF.call [] [] (newD_spec hcl hkb (by omega) 4) ?_ rfl rfl rfl rfl (.inl rfl) ?_
  · exact mapO_one hcl.cl rfl
  conv => whnf
  refine CallsF.call [8, 9, 10] [] (s4) rfl rfl rfl rfl rfl (.inl rfl) ?_
  conv => whnf
  refine CallsF.call [8, 9, 10] [] (s5) rfl rfl rfl rfl rfl (.inl rfl) ?_
  conv => whnf
  refine CallsF.call [] [] (b1) rfl rfl rfl rfl rfl (.inl rfl) ?_
  conv => whnf
  refine CallsF.call [] [] (b2) rfl rfl rfl rfl rfl (.inl rfl) ?_
  conv => whnf
  exact ⟨[], [], rfl, rfl, rfl⟩

end Go.Proofs.TrydN

