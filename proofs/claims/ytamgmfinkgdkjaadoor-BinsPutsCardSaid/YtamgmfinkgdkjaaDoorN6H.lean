/- Layer 6: BinsPuts: the walk. -/
import Derived.Test.YtamgmfinkgdkjaaDoorN6E
import Derived.Test.YtamgmfinkgdkjaaDoorN6G
import Derived.Test.YtamgmfinkgdkjaaDoorF64
namespace Go.Proofs.TrydN
open Go Go.AL Go.Proofs

theorem inc_natH {n : Nat} (h : n < 9223372036854775807) : IntKind.wrap .i64 ((n : Int) + 1) = ((n + 1 : Nat) : Int) := by rw [wrap_id (by omega) (by omega)]; rfl
theorem str_selfH (s : ByteArray) : (s == s) = true := by
  show (s.data == s.data) = true
  exact beq_self_eq_true _
theorem take_allH (l : List Int) : (l.drop 0).take l.length = l := by rw [List.drop_zero, List.take_length]
theorem rows_allH (q : List (Int × Bool)) : ((q.map rowS).drop 0).take q.length = q.map rowS := by rw [List.drop_zero, List.take_of_length_le (by simp)]
theorem bits_all (q : List (Int × Bool)) : (((q.map rowS).length : Nat) : Int) = q.length := by simp

/-- Numbers put, each without and with its sign. -/
def runP (f : List Int) (d g c : Int) (q : List Int) : Enc := q.foldl (fun e v => (e.putN f d g v).putS f d g v) (Enc.new c)
theorem runP_snoc (f : List Int) (d g c : Int) (q : List Int) (v : Int) : runP f d g c (q ++ [v]) = ((runP f d g c q).putN f d g v).putS f d g v := by simp [runP]
theorem runP_ok (f : List Int) (d g c : Int) (q : List Int) : q.length ≤ 100 → okE (runP f d g c q) ∧ (runP f d g c q).p.length = ctxN c ∧ (runP f d g c q).n ≤ 161 * q.length := by
  refine list_snoc (motive := fun q => q.length ≤ 100 → okE (runP f d g c q) ∧ (runP f d g c q).p.length = ctxN c ∧ (runP f d g c q).n ≤ 161 * q.length) ?_ ?_ q
  · intro _
    exact ⟨newE_ok c, by simp [runP, Enc.new, freshP], by simp [runP, Enc.new]⟩
  · intro q v ih hl
    simp at hl
    obtain ⟨a1, a2, a3⟩ := ih (by omega)
    obtain ⟨b1, b2, b3⟩ := putN_ok a1 (by omega) f d g v
    obtain ⟨c1, c2, c3⟩ := putS_ok b1 (by omega) f d g v
    rw [runP_snoc]
    refine ⟨c1, by rw [c2, b2, a2], ?_⟩
    rw [List.length_append, List.length_singleton]
    omega

theorem right_nought (f : List Int) (d g : Int) : rightN f d g 0 = false := by
  simp [rightN, hasK]
  try omega
theorem bput_nil (f : List Int) (hf : f.length < 4294967296) (d g v : Int) : CallsF Tryd.prog 31 [.pnil, .agg [.ri .i64 f, iv d, iv g], iv v] [] (.bool false) [] := by
  have ec : CallsF Tryd.prog 19 [.pnil] [] .snil [] := by
    refine e19 ?_
    conv => whnf
    exact ⟨[], [], rfl, rfl, rfl⟩
  have rs := right_spec f hf d g 0
  rw [right_nought] at rs
  refine e31 ?_
  conv => whnf
  refine CallsF.call [] [] (may_spec v) rfl rfl rfl rfl rfl (.inl rfl) ?_
  conv => whnf
  cases hm : mayN v
  · conv => whnf
    exact ⟨[], [], rfl, rfl, rfl⟩
  · conv => whnf
    refine CallsF.call [] [] (ec) rfl rfl rfl rfl rfl (.inl rfl) ?_
    conv => whnf
    refine ⟨.inl ⟨_, rfl⟩, ?_⟩
    conv => whnf
    refine CallsF.call [] [] (rs) rfl rfl rfl rfl rfl (.inl rfl) ?_
    conv => whnf
    exact ⟨[], [], rfl, rfl, rfl⟩

/-- Where both encoders and the set stand. -/
def stH (f : List Int) (d g : Int) (M : Bool) (l : List Int) (e : Enc) (i : Nat) (st : St) : Prop :=
  let tm := fun (s x : AV) => [(3, s), (7, AV.bp 0 0), (8, x), (9, AV.bool M), (36, AV.ri .i64 l), (37, iv l.length), (38, iv i)]
  (e.bits = [] ∧ st = ⟨tm (.bp 5 0) (.bp 3 0), hE0 e ++ [rE 4 e, pD e.p, bxS f d g], 6, 0⟩) ∨
  (e.bits ≠ [] ∧ st = ⟨tm (.bp 6 0) (.bp 4 0), hE1 e ++ [rE 5 e, pD e.p, bxS f d g], 7, 0⟩)

set_option maxRecDepth 10000 in
set_option maxHeartbeats 4000000 in
theorem bputs_spec (f : List Int) (hfl : f.length ≤ 9223372036854775807) (d g c : Int) (l : List Int) (hlv : ∀ v ∈ l, -9223372036854775808 ≤ v ∧ v ≤ 9223372036854775807) : CallsF Tryd.prog 7 [.agg [.ri .i64 f, iv d, iv g], iv c, .ri .i64 l] [] (.bool true) [] := by
  refine e7 ?_
  conv => whnf
  refine CallsF.call [] [] (first6_spec) rfl rfl rfl rfl rfl (.inl rfl) ?_
  conv => whnf
  by_cases hf100 : f.length ≤ 100
  rotate_left
  · rw [show decide (((f.length : Nat) : Int) > 100) = true from decide_eq_true (by omega)]
    conv => whnf
    exact ⟨[], [], rfl, rfl, rfl⟩
  have hf : f.length < 4294967296 := by omega
  rw [show decide (((f.length : Nat) : Int) > 100) = false from decide_eq_false (by omega)]
  conv => whnf
  refine CallsF.call [] [] (newE_spec c) rfl rfl rfl rfl rfl (.inl rfl) ?_
  conv => whnf
  refine CallsF.call [] [] (newE5_spec c) rfl rfl rfl rfl rfl (.inl rfl) ?_
  conv => whnf
  refine CallsF.call [] [] (rright_spec f hf d g (freshP c).length) rfl rfl rfl rfl rfl (.inl rfl) ?_
  conv => whnf
  obtain ⟨M, hM⟩ : ∃ M, M = rightN f d g (freshP c).length := ⟨_, rfl⟩
  rw [← hM]
  rw [fresh_len] at hM
  refine LoopA.inv (fun k st => ∃ i : Nat, i + k = l.length ∧ i ≤ 40 ∧ stH f d g M l (runP f d g c (l.take i)) i st) l.length [3, 7, 8, 9, 36, 37, 38] [1, 2, 3, 4, 5, 0] [] (by rfl) ?_ ?_
  · conv => whnf
    exact ⟨0, by omega, by omega, .inl ⟨by simp [runP, Enc.new], rfl⟩⟩
  rintro k st ⟨i, hi, hi4, hst⟩
  have hok := runP_ok f d g c (l.take i) (by simp; omega)
  have hnl : (l.take i).length ≤ 40 := by simp; omega
  have hct := ctxN_in c
  obtain ⟨e, he⟩ : ∃ e, e = runP f d g c (l.take i) := ⟨_, rfl⟩
  rw [← he] at hst hok
  have hpne : e.p ≠ [] := fun h => by have := hok.2.1; rw [h] at this; simp at this; omega
  rcases hst with ⟨hb, rfl⟩ | ⟨hb, rfl⟩
  · conv => whnf
    refine ifB_of (fun hd => ?_) (fun hd => ?_)
    · have hd : i < l.length := by have := of_decide_eq_true hd; omega
      obtain ⟨v, hv⟩ : ∃ v, v = l[i] := ⟨_, rfl⟩
      have hvb : -9223372036854775808 ≤ v ∧ v ≤ 9223372036854775807 := by rw [hv]; exact hlv _ (List.getElem_mem _)
      have hg : l.getD i 0 = v := by rw [hv]; simp [List.getD, hd]
      conv => whnf
      refine need_of ((decide_eq_true ⟨by omega, by omega⟩)) ?_
      conv => whnf
      rw [Int.toNat_natCast, hg]
      by_cases h4 : i < 40
      · rw [show decide (((i : Nat) : Int) ≥ 40) = false from decide_eq_false (by omega)]
        have pn := bput_nil f hf d g v
        have bk := bitsK_spec v
        by_cases hf0 : 0 < f.length
        · by_cases hr1 : 0 ≤ v ∧ v ≤ 2199023255550
          · have sA := rsteps_ok hf0 hf d g (V := v.toNat) (by omega)
            rw [show ((v.toNat : Nat) : Int) = v by omega] at sA
            have sB := rsigned_ok hf0 hf d g (v := v) (by simp [inS]; omega)
            have sZ := rsteps_ok (f := [0]) (by decide) (by decide) 0 0 (V := v.toNat) (by omega)
            rw [show ((v.toNat : Nat) : Int) = v by omega] at sZ
            have hbk : bitsK v = (stepsN [0] 0 v.toNat).length := by rw [steps_bits [0] 0 (V := v.toNat) (by omega), show ((v.toNat : Nat) : Int) = v by omega]
            obtain ⟨qA, hqA⟩ : ∃ q, q = stepsN f d v.toNat := ⟨_, rfl⟩
            obtain ⟨qB, hqB⟩ : ∃ q, q = stepsS f d g v := ⟨_, rfl⟩
            obtain ⟨qZ, hqZ⟩ : ∃ q, q = stepsN [0] 0 v.toNat := ⟨_, rfl⟩
            obtain ⟨B, hB⟩ : ∃ B, B = bitsK v := ⟨_, rfl⟩
            rw [← hqA] at sA
            rw [← hqB] at sB
            rw [← hqZ] at sZ hbk
            rw [← hB] at bk hbk
            cases hMv : M
            · skip
              have p1 := bput0_spec e hb hok.1 (by omega) hpne (by omega) hf d g v
              have e1v : (mayN v && rightN f d g e.p.length) = false := by rw [hok.2.1, ← hM]; simp [hMv, mayN]; try omega
              have e2v : mayS f d g e.p.length v = false := by unfold mayS; rw [hok.2.1, ← hM]; simp [hMv, mayN]; try omega
              rw [e1v] at p1
              have q1 : e.putN f d g v = e := by unfold Enc.putN; rw [e1v]
              rw [q1] at p1
              have q2 : e.putS f d g v = e := by unfold Enc.putS; rw [e2v]
              have hnext : runP f d g c (l.take (i + 1)) = e := by rw [List.take_succ_eq_append_getElem hd, runP_snoc, ← he, ← hv, q1, q2]
              rw [hP0_nil hb] at p1
              have p2 := bputs0_spec e hb hok.1 (by omega) hpne (by omega) hf d g v hvb.2
              rw [e2v, q2] at p2
              rw [hP0_nil hb] at p2
              conv => whnf
              refine CallsF.call [] [] (sA) rfl rfl rfl rfl rfl (.inl rfl) ?_
              conv => whnf
              refine CallsF.call [] [] (sB) rfl rfl rfl rfl rfl (.inl rfl) ?_
              conv => whnf
              refine pt_of [3, 7, 8, 9, 11, 12, 13, 14, 15, 36, 37, 38] [0, 1, 2, 3, 4, 5, 6, 7] [] (by rfl) ?_
              conv => whnf
              refine CallsF.call [0, 1, 2] [] (p1) rfl rfl rfl rfl rfl (.inl rfl) ?_
              conv => whnf
              refine CallsF.call [0, 1, 2] [] (p2) rfl rfl rfl rfl rfl (.inl rfl) ?_
              conv => whnf
              refine CallsF.call [] [] (pn) rfl rfl rfl rfl rfl (.inl rfl) ?_
              conv => whnf
              refine pt_of [3, 7, 8, 9, 11, 12, 14, 36, 37, 38] [0, 1, 2, 3, 4, 5, 6, 7] [] (by rfl) ?_
              conv => whnf
              refine pt_of [3, 7, 8, 9, 11, 36, 37, 38] [0, 1, 2, 3, 4, 5] [] (by rfl) ?_
              conv => whnf
              rw [show decide (v ≥ 0) = true from decide_eq_true (by omega)]
              conv => whnf
              rw [show decide (v ≤ 2199023255550) = true from decide_eq_true (by omega)]
              conv => whnf
              refine CallsA.frz [6] ?_
              conv => whnf
              refine CallsF.call [] [] (sZ) rfl rfl rfl rfl rfl (.inl rfl) ?_
              conv => whnf
              refine CallsF.call [] [] (bk) rfl rfl rfl rfl rfl (.inl rfl) ?_
              conv => whnf
              rw [show (((B : Nat) : Int) != ((qZ.length : Nat) : Int)) = false by rw [hbk]; simp]
              conv => whnf
              refine CallsF.call [0, 1, 2] [] (count0_spec _ _ _ _ _) rfl rfl rfl rfl rfl (.inl rfl) ?_
              conv => whnf
              refine ⟨.inl ⟨_, rfl⟩, ?_⟩
              conv => whnf
              rw [show (((e.n : Nat) : Int) != ((e.n : Nat) : Int)) = false by simp]
              conv => whnf
              rw [inc_natH (by omega)]
              refine ⟨(l.length - (i + 1)), [3, 7, 8, 9, 36, 37, 38], [0, 1, 2, 3, 4, 5], [], by omega, rfl, ?_⟩
              conv => whnf
              refine ⟨i + 1, by omega, by omega, ?_⟩
              rw [hnext]
              exact .inl ⟨hb, rfl⟩
            · skip
              have p1 := bput0_spec e hb hok.1 (by omega) hpne (by omega) hf d g v
              have e1v : (mayN v && rightN f d g e.p.length) = true := by rw [hok.2.1, ← hM]; simp [hMv, mayN]; try omega
              have e2v : mayS f d g e.p.length v = true := by unfold mayS; rw [hok.2.1, ← hM]; simp [hMv, mayN]; try omega
              rw [e1v] at p1
              have q1 : e.putN f d g v = encF e qA := by unfold Enc.putN; rw [e1v, hqA]
              rw [q1] at p1
              have o1 := encF_ok hok.1 qA (by have := stepsN_len f d (v := v.toNat) (by omega); rw [← hqA] at this; omega)
              have l1 := stepsN_len f d (v := v.toNat) (by omega)
              rw [← hqA] at l1
              obtain ⟨e1, he1⟩ : ∃ e1, e1 = encF e qA := ⟨_, rfl⟩
              rw [← he1] at p1 o1 q1
              have hp1 : e1.p ≠ [] := fun h => by have := o1.2.1; rw [h] at this; simp at this; omega
              have e2v : mayS f d g e1.p.length v = true := by rw [o1.2.1]; exact e2v
              have l2 := stepsS_len f d g (v := v) (by omega)
              rw [← hqB] at l2
              have o2 := encF_ok o1.1 qB (by omega)
              obtain ⟨e2, he2⟩ : ∃ e2, e2 = encF e1 qB := ⟨_, rfl⟩
              rw [← he2] at o2
              have q2 : e1.putS f d g v = e2 := by unfold Enc.putS; rw [e2v, he2, hqB]
              have hnext : runP f d g c (l.take (i + 1)) = e2 := by rw [List.take_succ_eq_append_getElem hd, runP_snoc, ← he, ← hv, q1, q2]
              have rp1 := rput_spec e hok.1 (by omega) (q := qA) (by omega) (rows_allH qA)
              rw [← he1] at rp1
              have rp2 := rput_spec e1 o1.1 (by omega) (q := qB) (by omega) (rows_allH qB)
              rw [← he2] at rp2
              by_cases hb1 : e1.bits = []
              · rw [hP0_nil hb1] at p1
                have p2 := bputs0_spec e1 hb1 o1.1 (by omega) hp1 (by omega) hf d g v hvb.2
                rw [e2v, q2] at p2
                by_cases hb2 : e2.bits = []
                · rw [hP0_nil hb2] at p2
                  conv => whnf
                  refine CallsF.call [] [] (sA) rfl rfl rfl rfl rfl (.inl rfl) ?_
                  conv => whnf
                  refine CallsF.call [] [] (sB) rfl rfl rfl rfl rfl (.inl rfl) ?_
                  conv => whnf
                  refine pt_of [3, 7, 8, 9, 11, 12, 13, 14, 15, 36, 37, 38] [0, 1, 2, 3, 4, 5, 6, 7] [] (by rfl) ?_
                  conv => whnf
                  refine CallsF.call [0, 1, 2] [] (p1) rfl rfl rfl rfl rfl (.inl rfl) ?_
                  conv => whnf
                  refine CallsF.call [0, 1, 2] [] (p2) rfl rfl rfl rfl rfl (.inl rfl) ?_
                  conv => whnf
                  refine CallsF.call [] [] (pn) rfl rfl rfl rfl rfl (.inl rfl) ?_
                  conv => whnf
                  refine pt_of [3, 7, 8, 9, 11, 12, 14, 36, 37, 38] [0, 1, 2, 3, 4, 5, 6, 7] [] (by rfl) ?_
                  conv => whnf
                  refine CallsF.call [3, 4] [6] (rp1) rfl rfl rfl rfl rfl (.inr rfl) ?_
                  conv => whnf
                  refine CallsF.call [3, 8] [7] (rp2) rfl rfl rfl rfl rfl (.inr rfl) ?_
                  conv => whnf
                  refine pt_of [3, 7, 8, 9, 11, 36, 37, 38] [0, 1, 2, 3, 9, 5] [] (by rfl) ?_
                  conv => whnf
                  rw [show decide (v ≥ 0) = true from decide_eq_true (by omega)]
                  conv => whnf
                  rw [show decide (v ≤ 2199023255550) = true from decide_eq_true (by omega)]
                  conv => whnf
                  refine CallsA.frz [6] ?_
                  conv => whnf
                  refine CallsF.call [] [] (sZ) rfl rfl rfl rfl rfl (.inl rfl) ?_
                  conv => whnf
                  refine CallsF.call [] [] (bk) rfl rfl rfl rfl rfl (.inl rfl) ?_
                  conv => whnf
                  rw [show (((B : Nat) : Int) != ((qZ.length : Nat) : Int)) = false by rw [hbk]; simp]
                  conv => whnf
                  refine CallsF.call [0, 1, 2] [] (count0_spec _ _ _ _ _) rfl rfl rfl rfl rfl (.inl rfl) ?_
                  conv => whnf
                  refine ⟨.inl ⟨_, rfl⟩, ?_⟩
                  conv => whnf
                  rw [show (((e2.n : Nat) : Int) != ((e2.n : Nat) : Int)) = false by simp]
                  conv => whnf
                  rw [inc_natH (by omega)]
                  refine ⟨(l.length - (i + 1)), [3, 7, 8, 9, 36, 37, 38], [0, 1, 2, 3, 4, 5], [], by omega, rfl, ?_⟩
                  conv => whnf
                  refine ⟨i + 1, by omega, by omega, ?_⟩
                  rw [hnext]
                  exact .inl ⟨hb2, rfl⟩
                · rw [hP0_app hb2] at p2
                  conv => whnf
                  refine CallsF.call [] [] (sA) rfl rfl rfl rfl rfl (.inl rfl) ?_
                  conv => whnf
                  refine CallsF.call [] [] (sB) rfl rfl rfl rfl rfl (.inl rfl) ?_
                  conv => whnf
                  refine pt_of [3, 7, 8, 9, 11, 12, 13, 14, 15, 36, 37, 38] [0, 1, 2, 3, 4, 5, 6, 7] [] (by rfl) ?_
                  conv => whnf
                  refine CallsF.call [0, 1, 2] [] (p1) rfl rfl rfl rfl rfl (.inl rfl) ?_
                  conv => whnf
                  refine CallsF.call [0, 1, 2] [] (p2) rfl rfl rfl rfl rfl (.inl rfl) ?_
                  conv => whnf
                  refine CallsF.call [] [] (pn) rfl rfl rfl rfl rfl (.inl rfl) ?_
                  conv => whnf
                  refine pt_of [3, 7, 8, 9, 11, 12, 14, 36, 37, 38] [0, 1, 2, 8, 3, 4, 5, 6, 7] [] (by rfl) ?_
                  conv => whnf
                  refine CallsF.call [4, 5] [7] (rp1) rfl rfl rfl rfl rfl (.inr rfl) ?_
                  conv => whnf
                  refine CallsF.call [4, 9] [8] (rp2) rfl rfl rfl rfl rfl (.inr rfl) ?_
                  conv => whnf
                  refine pt_of [3, 7, 8, 9, 11, 36, 37, 38] [0, 1, 2, 3, 4, 10, 6] [] (by rfl) ?_
                  conv => whnf
                  rw [show decide (v ≥ 0) = true from decide_eq_true (by omega)]
                  conv => whnf
                  rw [show decide (v ≤ 2199023255550) = true from decide_eq_true (by omega)]
                  conv => whnf
                  refine CallsA.frz [7] ?_
                  conv => whnf
                  refine CallsF.call [] [] (sZ) rfl rfl rfl rfl rfl (.inl rfl) ?_
                  conv => whnf
                  refine CallsF.call [] [] (bk) rfl rfl rfl rfl rfl (.inl rfl) ?_
                  conv => whnf
                  rw [show (((B : Nat) : Int) != ((qZ.length : Nat) : Int)) = false by rw [hbk]; simp]
                  conv => whnf
                  refine CallsF.call [0, 1, 2, 3] [] (count1_spec _ _ _ _ _ _) rfl rfl rfl rfl rfl (.inl rfl) ?_
                  conv => whnf
                  refine ⟨.inl ⟨_, rfl⟩, ?_⟩
                  conv => whnf
                  rw [show (((e2.n : Nat) : Int) != ((e2.n : Nat) : Int)) = false by simp]
                  conv => whnf
                  rw [inc_natH (by omega)]
                  refine ⟨(l.length - (i + 1)), [3, 7, 8, 9, 36, 37, 38], [0, 1, 2, 3, 4, 5, 6], [], by omega, rfl, ?_⟩
                  conv => whnf
                  refine ⟨i + 1, by omega, by omega, ?_⟩
                  rw [hnext]
                  exact .inr ⟨hb2, rfl⟩
              · rw [hP0_app hb1] at p1
                have p2 := bputs1_spec e1 hb1 o1.1 (by omega) hp1 (by omega) hf d g v hvb.2
                rw [e2v, q2] at p2
                have hb2 : e2.bits ≠ [] := by rw [he2]; exact encF_bits hb1 _
                conv => whnf
                refine CallsF.call [] [] (sA) rfl rfl rfl rfl rfl (.inl rfl) ?_
                conv => whnf
                refine CallsF.call [] [] (sB) rfl rfl rfl rfl rfl (.inl rfl) ?_
                conv => whnf
                refine pt_of [3, 7, 8, 9, 11, 12, 13, 14, 15, 36, 37, 38] [0, 1, 2, 3, 4, 5, 6, 7] [] (by rfl) ?_
                conv => whnf
                refine CallsF.call [0, 1, 2] [] (p1) rfl rfl rfl rfl rfl (.inl rfl) ?_
                conv => whnf
                refine CallsF.call [0, 1, 2, 8] [] (p2) rfl rfl rfl rfl rfl (.inl rfl) ?_
                conv => whnf
                refine CallsF.call [] [] (pn) rfl rfl rfl rfl rfl (.inl rfl) ?_
                conv => whnf
                refine pt_of [3, 7, 8, 9, 11, 12, 14, 36, 37, 38] [0, 1, 2, 9, 3, 4, 5, 6, 7] [] (by rfl) ?_
                conv => whnf
                refine CallsF.call [4, 5] [7] (rp1) rfl rfl rfl rfl rfl (.inr rfl) ?_
                conv => whnf
                refine CallsF.call [4, 9] [8] (rp2) rfl rfl rfl rfl rfl (.inr rfl) ?_
                conv => whnf
                refine pt_of [3, 7, 8, 9, 11, 36, 37, 38] [0, 1, 2, 3, 4, 10, 6] [] (by rfl) ?_
                conv => whnf
                rw [show decide (v ≥ 0) = true from decide_eq_true (by omega)]
                conv => whnf
                rw [show decide (v ≤ 2199023255550) = true from decide_eq_true (by omega)]
                conv => whnf
                refine CallsA.frz [7] ?_
                conv => whnf
                refine CallsF.call [] [] (sZ) rfl rfl rfl rfl rfl (.inl rfl) ?_
                conv => whnf
                refine CallsF.call [] [] (bk) rfl rfl rfl rfl rfl (.inl rfl) ?_
                conv => whnf
                rw [show (((B : Nat) : Int) != ((qZ.length : Nat) : Int)) = false by rw [hbk]; simp]
                conv => whnf
                refine CallsF.call [0, 1, 2, 3] [] (count1_spec _ _ _ _ _ _) rfl rfl rfl rfl rfl (.inl rfl) ?_
                conv => whnf
                refine ⟨.inl ⟨_, rfl⟩, ?_⟩
                conv => whnf
                rw [show (((e2.n : Nat) : Int) != ((e2.n : Nat) : Int)) = false by simp]
                conv => whnf
                rw [inc_natH (by omega)]
                refine ⟨(l.length - (i + 1)), [3, 7, 8, 9, 36, 37, 38], [0, 1, 2, 3, 4, 5, 6], [], by omega, rfl, ?_⟩
                conv => whnf
                refine ⟨i + 1, by omega, by omega, ?_⟩
                rw [hnext]
                exact .inr ⟨hb2, rfl⟩
          · by_cases hr2 : -2199023255550 ≤ v ∧ v < 0
            · have sA := rsteps_no (f := f) (v := v) (by omega) d g
              have sB := rsigned_ok hf0 hf d g (v := v) (by simp [inS]; omega)
              have hbk : bitsK v = 0 := by unfold bitsK; rw [show mayN v = false by simp [mayN]; omega]
              rw [hbk] at bk
              obtain ⟨qB, hqB⟩ : ∃ q, q = stepsS f d g v := ⟨_, rfl⟩
              rw [← hqB] at sB
              cases hMv : M
              · skip
                have p1 := bput0_spec e hb hok.1 (by omega) hpne (by omega) hf d g v
                have e1v : (mayN v && rightN f d g e.p.length) = false := by rw [hok.2.1, ← hM]; simp [hMv, mayN]; try omega
                have e2v : mayS f d g e.p.length v = false := by unfold mayS; rw [hok.2.1, ← hM]; simp [hMv, mayN]; try omega
                rw [e1v] at p1
                have q1 : e.putN f d g v = e := by unfold Enc.putN; rw [e1v]
                rw [q1] at p1
                have q2 : e.putS f d g v = e := by unfold Enc.putS; rw [e2v]
                have hnext : runP f d g c (l.take (i + 1)) = e := by rw [List.take_succ_eq_append_getElem hd, runP_snoc, ← he, ← hv, q1, q2]
                rw [hP0_nil hb] at p1
                have p2 := bputs0_spec e hb hok.1 (by omega) hpne (by omega) hf d g v hvb.2
                rw [e2v, q2] at p2
                rw [hP0_nil hb] at p2
                conv => whnf
                refine CallsF.call [] [] (sA) rfl rfl rfl rfl rfl (.inl rfl) ?_
                conv => whnf
                refine CallsF.call [] [] (sB) rfl rfl rfl rfl rfl (.inl rfl) ?_
                conv => whnf
                refine pt_of [3, 7, 8, 9, 11, 12, 13, 14, 15, 36, 37, 38] [0, 1, 2, 3, 4, 5, 6] [] (by rfl) ?_
                conv => whnf
                refine CallsF.call [0, 1, 2] [] (p1) rfl rfl rfl rfl rfl (.inl rfl) ?_
                conv => whnf
                refine CallsF.call [0, 1, 2] [] (p2) rfl rfl rfl rfl rfl (.inl rfl) ?_
                conv => whnf
                refine CallsF.call [] [] (pn) rfl rfl rfl rfl rfl (.inl rfl) ?_
                conv => whnf
                refine pt_of [3, 7, 8, 9, 11, 12, 14, 36, 37, 38] [0, 1, 2, 3, 4, 5, 6] [] (by rfl) ?_
                conv => whnf
                refine pt_of [3, 7, 8, 9, 11, 36, 37, 38] [0, 1, 2, 3, 4, 5] [] (by rfl) ?_
                conv => whnf
                rw [show decide (v ≥ 0) = false from decide_eq_false (by omega)]
                conv => whnf
                refine CallsF.call [] [] (bk) rfl rfl rfl rfl rfl (.inl rfl) ?_
                conv => whnf
                refine CallsF.call [0, 1, 2] [] (count0_spec _ _ _ _ _) rfl rfl rfl rfl rfl (.inl rfl) ?_
                conv => whnf
                refine ⟨.inl ⟨_, rfl⟩, ?_⟩
                conv => whnf
                rw [show (((e.n : Nat) : Int) != ((e.n : Nat) : Int)) = false by simp]
                conv => whnf
                rw [inc_natH (by omega)]
                refine ⟨(l.length - (i + 1)), [3, 7, 8, 9, 36, 37, 38], [0, 1, 2, 3, 4, 5], [], by omega, rfl, ?_⟩
                conv => whnf
                refine ⟨i + 1, by omega, by omega, ?_⟩
                rw [hnext]
                exact .inl ⟨hb, rfl⟩
              · skip
                have p1 := bput0_spec e hb hok.1 (by omega) hpne (by omega) hf d g v
                have e1v : (mayN v && rightN f d g e.p.length) = false := by rw [hok.2.1, ← hM]; simp [hMv, mayN]; try omega
                have e2v : mayS f d g e.p.length v = true := by unfold mayS; rw [hok.2.1, ← hM]; simp [hMv, mayN]; try omega
                rw [e1v] at p1
                have q1 : e.putN f d g v = e := by unfold Enc.putN; rw [e1v]
                rw [q1] at p1
                have l2 := stepsS_len f d g (v := v) (by omega)
                rw [← hqB] at l2
                have o2 := encF_ok hok.1 qB (by omega)
                obtain ⟨e2, he2⟩ : ∃ e2, e2 = encF e qB := ⟨_, rfl⟩
                rw [← he2] at o2
                have q2 : e.putS f d g v = e2 := by unfold Enc.putS; rw [e2v, he2, hqB]
                have hnext : runP f d g c (l.take (i + 1)) = e2 := by rw [List.take_succ_eq_append_getElem hd, runP_snoc, ← he, ← hv, q1, q2]
                have rp2 := rput_spec e hok.1 (by omega) (q := qB) (by omega) (rows_allH qB)
                rw [← he2] at rp2
                rw [hP0_nil hb] at p1
                have p2 := bputs0_spec e hb hok.1 (by omega) hpne (by omega) hf d g v hvb.2
                rw [e2v, q2] at p2
                by_cases hb2 : e2.bits = []
                · rw [hP0_nil hb2] at p2
                  conv => whnf
                  refine CallsF.call [] [] (sA) rfl rfl rfl rfl rfl (.inl rfl) ?_
                  conv => whnf
                  refine CallsF.call [] [] (sB) rfl rfl rfl rfl rfl (.inl rfl) ?_
                  conv => whnf
                  refine pt_of [3, 7, 8, 9, 11, 12, 13, 14, 15, 36, 37, 38] [0, 1, 2, 3, 4, 5, 6] [] (by rfl) ?_
                  conv => whnf
                  refine CallsF.call [0, 1, 2] [] (p1) rfl rfl rfl rfl rfl (.inl rfl) ?_
                  conv => whnf
                  refine CallsF.call [0, 1, 2] [] (p2) rfl rfl rfl rfl rfl (.inl rfl) ?_
                  conv => whnf
                  refine CallsF.call [] [] (pn) rfl rfl rfl rfl rfl (.inl rfl) ?_
                  conv => whnf
                  refine pt_of [3, 7, 8, 9, 11, 12, 14, 36, 37, 38] [0, 1, 2, 3, 4, 5, 6] [] (by rfl) ?_
                  conv => whnf
                  refine CallsF.call [3, 4] [] (rput_nil e) rfl rfl rfl rfl rfl (.inl rfl) ?_
                  conv => whnf
                  refine CallsF.call [3, 4] [6] (rp2) rfl rfl rfl rfl rfl (.inr rfl) ?_
                  conv => whnf
                  refine pt_of [3, 7, 8, 9, 11, 36, 37, 38] [0, 1, 2, 3, 7, 5] [] (by rfl) ?_
                  conv => whnf
                  rw [show decide (v ≥ 0) = false from decide_eq_false (by omega)]
                  conv => whnf
                  refine CallsF.call [] [] (bk) rfl rfl rfl rfl rfl (.inl rfl) ?_
                  conv => whnf
                  refine CallsF.call [0, 1, 2] [] (count0_spec _ _ _ _ _) rfl rfl rfl rfl rfl (.inl rfl) ?_
                  conv => whnf
                  refine ⟨.inl ⟨_, rfl⟩, ?_⟩
                  conv => whnf
                  rw [show (((e2.n : Nat) : Int) != ((e2.n : Nat) : Int)) = false by simp]
                  conv => whnf
                  rw [inc_natH (by omega)]
                  refine ⟨(l.length - (i + 1)), [3, 7, 8, 9, 36, 37, 38], [0, 1, 2, 3, 4, 5], [], by omega, rfl, ?_⟩
                  conv => whnf
                  refine ⟨i + 1, by omega, by omega, ?_⟩
                  rw [hnext]
                  exact .inl ⟨hb2, rfl⟩
                · rw [hP0_app hb2] at p2
                  conv => whnf
                  refine CallsF.call [] [] (sA) rfl rfl rfl rfl rfl (.inl rfl) ?_
                  conv => whnf
                  refine CallsF.call [] [] (sB) rfl rfl rfl rfl rfl (.inl rfl) ?_
                  conv => whnf
                  refine pt_of [3, 7, 8, 9, 11, 12, 13, 14, 15, 36, 37, 38] [0, 1, 2, 3, 4, 5, 6] [] (by rfl) ?_
                  conv => whnf
                  refine CallsF.call [0, 1, 2] [] (p1) rfl rfl rfl rfl rfl (.inl rfl) ?_
                  conv => whnf
                  refine CallsF.call [0, 1, 2] [] (p2) rfl rfl rfl rfl rfl (.inl rfl) ?_
                  conv => whnf
                  refine CallsF.call [] [] (pn) rfl rfl rfl rfl rfl (.inl rfl) ?_
                  conv => whnf
                  refine pt_of [3, 7, 8, 9, 11, 12, 14, 36, 37, 38] [0, 1, 2, 7, 3, 4, 5, 6] [] (by rfl) ?_
                  conv => whnf
                  refine CallsF.call [4, 5] [] (rput_nil e) rfl rfl rfl rfl rfl (.inl rfl) ?_
                  conv => whnf
                  refine CallsF.call [4, 5] [7] (rp2) rfl rfl rfl rfl rfl (.inr rfl) ?_
                  conv => whnf
                  refine pt_of [3, 7, 8, 9, 11, 36, 37, 38] [0, 1, 2, 3, 4, 8, 6] [] (by rfl) ?_
                  conv => whnf
                  rw [show decide (v ≥ 0) = false from decide_eq_false (by omega)]
                  conv => whnf
                  refine CallsF.call [] [] (bk) rfl rfl rfl rfl rfl (.inl rfl) ?_
                  conv => whnf
                  refine CallsF.call [0, 1, 2, 3] [] (count1_spec _ _ _ _ _ _) rfl rfl rfl rfl rfl (.inl rfl) ?_
                  conv => whnf
                  refine ⟨.inl ⟨_, rfl⟩, ?_⟩
                  conv => whnf
                  rw [show (((e2.n : Nat) : Int) != ((e2.n : Nat) : Int)) = false by simp]
                  conv => whnf
                  rw [inc_natH (by omega)]
                  refine ⟨(l.length - (i + 1)), [3, 7, 8, 9, 36, 37, 38], [0, 1, 2, 3, 4, 5, 6], [], by omega, rfl, ?_⟩
                  conv => whnf
                  refine ⟨i + 1, by omega, by omega, ?_⟩
                  rw [hnext]
                  exact .inr ⟨hb2, rfl⟩
            · have sA := rsteps_no (f := f) (v := v) (by omega) d g
              have sB := rsigned_no (f := f) (v := v) (by simp [inS]; omega) hvb.2 d g
              have hbk : bitsK v = 0 := by unfold bitsK; rw [show mayN v = false by simp [mayN]; omega]
              rw [hbk] at bk
              by_cases hneg : v < 0
              · cases hMv : M
                · skip
                  have p1 := bput0_spec e hb hok.1 (by omega) hpne (by omega) hf d g v
                  have e1v : (mayN v && rightN f d g e.p.length) = false := by rw [hok.2.1, ← hM]; simp [hMv, mayN]; try omega
                  have e2v : mayS f d g e.p.length v = false := by unfold mayS; rw [hok.2.1, ← hM]; simp [hMv, mayN]; try omega
                  rw [e1v] at p1
                  have q1 : e.putN f d g v = e := by unfold Enc.putN; rw [e1v]
                  rw [q1] at p1
                  have q2 : e.putS f d g v = e := by unfold Enc.putS; rw [e2v]
                  have hnext : runP f d g c (l.take (i + 1)) = e := by rw [List.take_succ_eq_append_getElem hd, runP_snoc, ← he, ← hv, q1, q2]
                  rw [hP0_nil hb] at p1
                  have p2 := bputs0_spec e hb hok.1 (by omega) hpne (by omega) hf d g v hvb.2
                  rw [e2v, q2] at p2
                  rw [hP0_nil hb] at p2
                  conv => whnf
                  refine CallsF.call [] [] (sA) rfl rfl rfl rfl rfl (.inl rfl) ?_
                  conv => whnf
                  refine CallsF.call [] [] (sB) rfl rfl rfl rfl rfl (.inl rfl) ?_
                  conv => whnf
                  refine pt_of [3, 7, 8, 9, 11, 12, 13, 14, 15, 36, 37, 38] [0, 1, 2, 3, 4, 5] [] (by rfl) ?_
                  conv => whnf
                  refine CallsF.call [0, 1, 2] [] (p1) rfl rfl rfl rfl rfl (.inl rfl) ?_
                  conv => whnf
                  refine CallsF.call [0, 1, 2] [] (p2) rfl rfl rfl rfl rfl (.inl rfl) ?_
                  conv => whnf
                  refine CallsF.call [] [] (pn) rfl rfl rfl rfl rfl (.inl rfl) ?_
                  conv => whnf
                  refine pt_of [3, 7, 8, 9, 11, 12, 14, 36, 37, 38] [0, 1, 2, 3, 4, 5] [] (by rfl) ?_
                  conv => whnf
                  refine pt_of [3, 7, 8, 9, 11, 36, 37, 38] [0, 1, 2, 3, 4, 5] [] (by rfl) ?_
                  conv => whnf
                  rw [show decide (v ≥ 0) = false from decide_eq_false (by omega)]
                  conv => whnf
                  refine CallsF.call [] [] (bk) rfl rfl rfl rfl rfl (.inl rfl) ?_
                  conv => whnf
                  refine CallsF.call [0, 1, 2] [] (count0_spec _ _ _ _ _) rfl rfl rfl rfl rfl (.inl rfl) ?_
                  conv => whnf
                  refine ⟨.inl ⟨_, rfl⟩, ?_⟩
                  conv => whnf
                  rw [show (((e.n : Nat) : Int) != ((e.n : Nat) : Int)) = false by simp]
                  conv => whnf
                  rw [inc_natH (by omega)]
                  refine ⟨(l.length - (i + 1)), [3, 7, 8, 9, 36, 37, 38], [0, 1, 2, 3, 4, 5], [], by omega, rfl, ?_⟩
                  conv => whnf
                  refine ⟨i + 1, by omega, by omega, ?_⟩
                  rw [hnext]
                  exact .inl ⟨hb, rfl⟩
                · skip
                  have p1 := bput0_spec e hb hok.1 (by omega) hpne (by omega) hf d g v
                  have e1v : (mayN v && rightN f d g e.p.length) = false := by rw [hok.2.1, ← hM]; simp [hMv, mayN]; try omega
                  have e2v : mayS f d g e.p.length v = false := by unfold mayS; rw [hok.2.1, ← hM]; simp [hMv, mayN]; try omega
                  rw [e1v] at p1
                  have q1 : e.putN f d g v = e := by unfold Enc.putN; rw [e1v]
                  rw [q1] at p1
                  have q2 : e.putS f d g v = e := by unfold Enc.putS; rw [e2v]
                  have hnext : runP f d g c (l.take (i + 1)) = e := by rw [List.take_succ_eq_append_getElem hd, runP_snoc, ← he, ← hv, q1, q2]
                  rw [hP0_nil hb] at p1
                  have p2 := bputs0_spec e hb hok.1 (by omega) hpne (by omega) hf d g v hvb.2
                  rw [e2v, q2] at p2
                  rw [hP0_nil hb] at p2
                  conv => whnf
                  refine CallsF.call [] [] (sA) rfl rfl rfl rfl rfl (.inl rfl) ?_
                  conv => whnf
                  refine CallsF.call [] [] (sB) rfl rfl rfl rfl rfl (.inl rfl) ?_
                  conv => whnf
                  refine pt_of [3, 7, 8, 9, 11, 12, 13, 14, 15, 36, 37, 38] [0, 1, 2, 3, 4, 5] [] (by rfl) ?_
                  conv => whnf
                  refine CallsF.call [0, 1, 2] [] (p1) rfl rfl rfl rfl rfl (.inl rfl) ?_
                  conv => whnf
                  refine CallsF.call [0, 1, 2] [] (p2) rfl rfl rfl rfl rfl (.inl rfl) ?_
                  conv => whnf
                  refine CallsF.call [] [] (pn) rfl rfl rfl rfl rfl (.inl rfl) ?_
                  conv => whnf
                  refine pt_of [3, 7, 8, 9, 11, 12, 14, 36, 37, 38] [0, 1, 2, 3, 4, 5] [] (by rfl) ?_
                  conv => whnf
                  refine CallsF.call [3, 4] [] (rput_nil e) rfl rfl rfl rfl rfl (.inl rfl) ?_
                  conv => whnf
                  refine CallsF.call [3, 4] [] (rput_nil e) rfl rfl rfl rfl rfl (.inl rfl) ?_
                  conv => whnf
                  refine pt_of [3, 7, 8, 9, 11, 36, 37, 38] [0, 1, 2, 3, 4, 5] [] (by rfl) ?_
                  conv => whnf
                  rw [show decide (v ≥ 0) = false from decide_eq_false (by omega)]
                  conv => whnf
                  refine CallsF.call [] [] (bk) rfl rfl rfl rfl rfl (.inl rfl) ?_
                  conv => whnf
                  refine CallsF.call [0, 1, 2] [] (count0_spec _ _ _ _ _) rfl rfl rfl rfl rfl (.inl rfl) ?_
                  conv => whnf
                  refine ⟨.inl ⟨_, rfl⟩, ?_⟩
                  conv => whnf
                  rw [show (((e.n : Nat) : Int) != ((e.n : Nat) : Int)) = false by simp]
                  conv => whnf
                  rw [inc_natH (by omega)]
                  refine ⟨(l.length - (i + 1)), [3, 7, 8, 9, 36, 37, 38], [0, 1, 2, 3, 4, 5], [], by omega, rfl, ?_⟩
                  conv => whnf
                  refine ⟨i + 1, by omega, by omega, ?_⟩
                  rw [hnext]
                  exact .inl ⟨hb, rfl⟩
              · cases hMv : M
                · skip
                  have p1 := bput0_spec e hb hok.1 (by omega) hpne (by omega) hf d g v
                  have e1v : (mayN v && rightN f d g e.p.length) = false := by rw [hok.2.1, ← hM]; simp [hMv, mayN]; try omega
                  have e2v : mayS f d g e.p.length v = false := by unfold mayS; rw [hok.2.1, ← hM]; simp [hMv, mayN]; try omega
                  rw [e1v] at p1
                  have q1 : e.putN f d g v = e := by unfold Enc.putN; rw [e1v]
                  rw [q1] at p1
                  have q2 : e.putS f d g v = e := by unfold Enc.putS; rw [e2v]
                  have hnext : runP f d g c (l.take (i + 1)) = e := by rw [List.take_succ_eq_append_getElem hd, runP_snoc, ← he, ← hv, q1, q2]
                  rw [hP0_nil hb] at p1
                  have p2 := bputs0_spec e hb hok.1 (by omega) hpne (by omega) hf d g v hvb.2
                  rw [e2v, q2] at p2
                  rw [hP0_nil hb] at p2
                  conv => whnf
                  refine CallsF.call [] [] (sA) rfl rfl rfl rfl rfl (.inl rfl) ?_
                  conv => whnf
                  refine CallsF.call [] [] (sB) rfl rfl rfl rfl rfl (.inl rfl) ?_
                  conv => whnf
                  refine pt_of [3, 7, 8, 9, 11, 12, 13, 14, 15, 36, 37, 38] [0, 1, 2, 3, 4, 5] [] (by rfl) ?_
                  conv => whnf
                  refine CallsF.call [0, 1, 2] [] (p1) rfl rfl rfl rfl rfl (.inl rfl) ?_
                  conv => whnf
                  refine CallsF.call [0, 1, 2] [] (p2) rfl rfl rfl rfl rfl (.inl rfl) ?_
                  conv => whnf
                  refine CallsF.call [] [] (pn) rfl rfl rfl rfl rfl (.inl rfl) ?_
                  conv => whnf
                  refine pt_of [3, 7, 8, 9, 11, 12, 14, 36, 37, 38] [0, 1, 2, 3, 4, 5] [] (by rfl) ?_
                  conv => whnf
                  refine pt_of [3, 7, 8, 9, 11, 36, 37, 38] [0, 1, 2, 3, 4, 5] [] (by rfl) ?_
                  conv => whnf
                  rw [show decide (v ≥ 0) = true from decide_eq_true (by omega)]
                  conv => whnf
                  rw [show decide (v ≤ 2199023255550) = false from decide_eq_false (by omega)]
                  conv => whnf
                  refine CallsF.call [] [] (bk) rfl rfl rfl rfl rfl (.inl rfl) ?_
                  conv => whnf
                  refine CallsF.call [0, 1, 2] [] (count0_spec _ _ _ _ _) rfl rfl rfl rfl rfl (.inl rfl) ?_
                  conv => whnf
                  refine ⟨.inl ⟨_, rfl⟩, ?_⟩
                  conv => whnf
                  rw [show (((e.n : Nat) : Int) != ((e.n : Nat) : Int)) = false by simp]
                  conv => whnf
                  rw [inc_natH (by omega)]
                  refine ⟨(l.length - (i + 1)), [3, 7, 8, 9, 36, 37, 38], [0, 1, 2, 3, 4, 5], [], by omega, rfl, ?_⟩
                  conv => whnf
                  refine ⟨i + 1, by omega, by omega, ?_⟩
                  rw [hnext]
                  exact .inl ⟨hb, rfl⟩
                · skip
                  have p1 := bput0_spec e hb hok.1 (by omega) hpne (by omega) hf d g v
                  have e1v : (mayN v && rightN f d g e.p.length) = false := by rw [hok.2.1, ← hM]; simp [hMv, mayN]; try omega
                  have e2v : mayS f d g e.p.length v = false := by unfold mayS; rw [hok.2.1, ← hM]; simp [hMv, mayN]; try omega
                  rw [e1v] at p1
                  have q1 : e.putN f d g v = e := by unfold Enc.putN; rw [e1v]
                  rw [q1] at p1
                  have q2 : e.putS f d g v = e := by unfold Enc.putS; rw [e2v]
                  have hnext : runP f d g c (l.take (i + 1)) = e := by rw [List.take_succ_eq_append_getElem hd, runP_snoc, ← he, ← hv, q1, q2]
                  rw [hP0_nil hb] at p1
                  have p2 := bputs0_spec e hb hok.1 (by omega) hpne (by omega) hf d g v hvb.2
                  rw [e2v, q2] at p2
                  rw [hP0_nil hb] at p2
                  conv => whnf
                  refine CallsF.call [] [] (sA) rfl rfl rfl rfl rfl (.inl rfl) ?_
                  conv => whnf
                  refine CallsF.call [] [] (sB) rfl rfl rfl rfl rfl (.inl rfl) ?_
                  conv => whnf
                  refine pt_of [3, 7, 8, 9, 11, 12, 13, 14, 15, 36, 37, 38] [0, 1, 2, 3, 4, 5] [] (by rfl) ?_
                  conv => whnf
                  refine CallsF.call [0, 1, 2] [] (p1) rfl rfl rfl rfl rfl (.inl rfl) ?_
                  conv => whnf
                  refine CallsF.call [0, 1, 2] [] (p2) rfl rfl rfl rfl rfl (.inl rfl) ?_
                  conv => whnf
                  refine CallsF.call [] [] (pn) rfl rfl rfl rfl rfl (.inl rfl) ?_
                  conv => whnf
                  refine pt_of [3, 7, 8, 9, 11, 12, 14, 36, 37, 38] [0, 1, 2, 3, 4, 5] [] (by rfl) ?_
                  conv => whnf
                  refine CallsF.call [3, 4] [] (rput_nil e) rfl rfl rfl rfl rfl (.inl rfl) ?_
                  conv => whnf
                  refine CallsF.call [3, 4] [] (rput_nil e) rfl rfl rfl rfl rfl (.inl rfl) ?_
                  conv => whnf
                  refine pt_of [3, 7, 8, 9, 11, 36, 37, 38] [0, 1, 2, 3, 4, 5] [] (by rfl) ?_
                  conv => whnf
                  rw [show decide (v ≥ 0) = true from decide_eq_true (by omega)]
                  conv => whnf
                  rw [show decide (v ≤ 2199023255550) = false from decide_eq_false (by omega)]
                  conv => whnf
                  refine CallsF.call [] [] (bk) rfl rfl rfl rfl rfl (.inl rfl) ?_
                  conv => whnf
                  refine CallsF.call [0, 1, 2] [] (count0_spec _ _ _ _ _) rfl rfl rfl rfl rfl (.inl rfl) ?_
                  conv => whnf
                  refine ⟨.inl ⟨_, rfl⟩, ?_⟩
                  conv => whnf
                  rw [show (((e.n : Nat) : Int) != ((e.n : Nat) : Int)) = false by simp]
                  conv => whnf
                  rw [inc_natH (by omega)]
                  refine ⟨(l.length - (i + 1)), [3, 7, 8, 9, 36, 37, 38], [0, 1, 2, 3, 4, 5], [], by omega, rfl, ?_⟩
                  conv => whnf
                  refine ⟨i + 1, by omega, by omega, ?_⟩
                  rw [hnext]
                  exact .inl ⟨hb, rfl⟩
        · have hMv : M = false := by rw [hM]; simp [rightN, hf0]
          have sA := rsteps_no (f := f) (v := v) (by omega) d g
          have sB := rsigned_no (f := f) (v := v) (by omega) hvb.2 d g
          rw [hMv]
          by_cases hr1 : 0 ≤ v ∧ v ≤ 2199023255550
          · have sZ := rsteps_ok (f := [0]) (by decide) (by decide) 0 0 (V := v.toNat) (by omega)
            rw [show ((v.toNat : Nat) : Int) = v by omega] at sZ
            have hbk : bitsK v = (stepsN [0] 0 v.toNat).length := by rw [steps_bits [0] 0 (V := v.toNat) (by omega), show ((v.toNat : Nat) : Int) = v by omega]
            obtain ⟨qZ, hqZ⟩ : ∃ q, q = stepsN [0] 0 v.toNat := ⟨_, rfl⟩
            obtain ⟨B, hB⟩ : ∃ B, B = bitsK v := ⟨_, rfl⟩
            rw [← hqZ] at sZ hbk
            rw [← hB] at bk hbk
            have p1 := bput0_spec e hb hok.1 (by omega) hpne (by omega) hf d g v
            have e1v : (mayN v && rightN f d g e.p.length) = false := by rw [hok.2.1, ← hM]; simp [hMv, mayN]; try omega
            have e2v : mayS f d g e.p.length v = false := by unfold mayS; rw [hok.2.1, ← hM]; simp [hMv, mayN]; try omega
            rw [e1v] at p1
            have q1 : e.putN f d g v = e := by unfold Enc.putN; rw [e1v]
            rw [q1] at p1
            have q2 : e.putS f d g v = e := by unfold Enc.putS; rw [e2v]
            have hnext : runP f d g c (l.take (i + 1)) = e := by rw [List.take_succ_eq_append_getElem hd, runP_snoc, ← he, ← hv, q1, q2]
            rw [hP0_nil hb] at p1
            have p2 := bputs0_spec e hb hok.1 (by omega) hpne (by omega) hf d g v hvb.2
            rw [e2v, q2] at p2
            rw [hP0_nil hb] at p2
            conv => whnf
            refine CallsF.call [] [] (sA) rfl rfl rfl rfl rfl (.inl rfl) ?_
            conv => whnf
            refine CallsF.call [] [] (sB) rfl rfl rfl rfl rfl (.inl rfl) ?_
            conv => whnf
            refine pt_of [3, 7, 8, 9, 11, 12, 13, 14, 15, 36, 37, 38] [0, 1, 2, 3, 4, 5] [] (by rfl) ?_
            conv => whnf
            refine CallsF.call [0, 1, 2] [] (p1) rfl rfl rfl rfl rfl (.inl rfl) ?_
            conv => whnf
            refine CallsF.call [0, 1, 2] [] (p2) rfl rfl rfl rfl rfl (.inl rfl) ?_
            conv => whnf
            refine CallsF.call [] [] (pn) rfl rfl rfl rfl rfl (.inl rfl) ?_
            conv => whnf
            refine pt_of [3, 7, 8, 9, 11, 12, 14, 36, 37, 38] [0, 1, 2, 3, 4, 5] [] (by rfl) ?_
            conv => whnf
            refine pt_of [3, 7, 8, 9, 11, 36, 37, 38] [0, 1, 2, 3, 4, 5] [] (by rfl) ?_
            conv => whnf
            rw [show decide (v ≥ 0) = true from decide_eq_true (by omega)]
            conv => whnf
            rw [show decide (v ≤ 2199023255550) = true from decide_eq_true (by omega)]
            conv => whnf
            refine CallsA.frz [6] ?_
            conv => whnf
            refine CallsF.call [] [] (sZ) rfl rfl rfl rfl rfl (.inl rfl) ?_
            conv => whnf
            refine CallsF.call [] [] (bk) rfl rfl rfl rfl rfl (.inl rfl) ?_
            conv => whnf
            rw [show (((B : Nat) : Int) != ((qZ.length : Nat) : Int)) = false by rw [hbk]; simp]
            conv => whnf
            refine CallsF.call [0, 1, 2] [] (count0_spec _ _ _ _ _) rfl rfl rfl rfl rfl (.inl rfl) ?_
            conv => whnf
            refine ⟨.inl ⟨_, rfl⟩, ?_⟩
            conv => whnf
            rw [show (((e.n : Nat) : Int) != ((e.n : Nat) : Int)) = false by simp]
            conv => whnf
            rw [inc_natH (by omega)]
            refine ⟨(l.length - (i + 1)), [3, 7, 8, 9, 36, 37, 38], [0, 1, 2, 3, 4, 5], [], by omega, rfl, ?_⟩
            conv => whnf
            refine ⟨i + 1, by omega, by omega, ?_⟩
            rw [hnext]
            exact .inl ⟨hb, rfl⟩
          · have hbk : bitsK v = 0 := by unfold bitsK; rw [show mayN v = false by simp [mayN]; omega]
            rw [hbk] at bk
            by_cases hneg : v < 0
            · skip
              have p1 := bput0_spec e hb hok.1 (by omega) hpne (by omega) hf d g v
              have e1v : (mayN v && rightN f d g e.p.length) = false := by rw [hok.2.1, ← hM]; simp [hMv, mayN]; try omega
              have e2v : mayS f d g e.p.length v = false := by unfold mayS; rw [hok.2.1, ← hM]; simp [hMv, mayN]; try omega
              rw [e1v] at p1
              have q1 : e.putN f d g v = e := by unfold Enc.putN; rw [e1v]
              rw [q1] at p1
              have q2 : e.putS f d g v = e := by unfold Enc.putS; rw [e2v]
              have hnext : runP f d g c (l.take (i + 1)) = e := by rw [List.take_succ_eq_append_getElem hd, runP_snoc, ← he, ← hv, q1, q2]
              rw [hP0_nil hb] at p1
              have p2 := bputs0_spec e hb hok.1 (by omega) hpne (by omega) hf d g v hvb.2
              rw [e2v, q2] at p2
              rw [hP0_nil hb] at p2
              conv => whnf
              refine CallsF.call [] [] (sA) rfl rfl rfl rfl rfl (.inl rfl) ?_
              conv => whnf
              refine CallsF.call [] [] (sB) rfl rfl rfl rfl rfl (.inl rfl) ?_
              conv => whnf
              refine pt_of [3, 7, 8, 9, 11, 12, 13, 14, 15, 36, 37, 38] [0, 1, 2, 3, 4, 5] [] (by rfl) ?_
              conv => whnf
              refine CallsF.call [0, 1, 2] [] (p1) rfl rfl rfl rfl rfl (.inl rfl) ?_
              conv => whnf
              refine CallsF.call [0, 1, 2] [] (p2) rfl rfl rfl rfl rfl (.inl rfl) ?_
              conv => whnf
              refine CallsF.call [] [] (pn) rfl rfl rfl rfl rfl (.inl rfl) ?_
              conv => whnf
              refine pt_of [3, 7, 8, 9, 11, 12, 14, 36, 37, 38] [0, 1, 2, 3, 4, 5] [] (by rfl) ?_
              conv => whnf
              refine pt_of [3, 7, 8, 9, 11, 36, 37, 38] [0, 1, 2, 3, 4, 5] [] (by rfl) ?_
              conv => whnf
              rw [show decide (v ≥ 0) = false from decide_eq_false (by omega)]
              conv => whnf
              refine CallsF.call [] [] (bk) rfl rfl rfl rfl rfl (.inl rfl) ?_
              conv => whnf
              refine CallsF.call [0, 1, 2] [] (count0_spec _ _ _ _ _) rfl rfl rfl rfl rfl (.inl rfl) ?_
              conv => whnf
              refine ⟨.inl ⟨_, rfl⟩, ?_⟩
              conv => whnf
              rw [show (((e.n : Nat) : Int) != ((e.n : Nat) : Int)) = false by simp]
              conv => whnf
              rw [inc_natH (by omega)]
              refine ⟨(l.length - (i + 1)), [3, 7, 8, 9, 36, 37, 38], [0, 1, 2, 3, 4, 5], [], by omega, rfl, ?_⟩
              conv => whnf
              refine ⟨i + 1, by omega, by omega, ?_⟩
              rw [hnext]
              exact .inl ⟨hb, rfl⟩
            · skip
              have p1 := bput0_spec e hb hok.1 (by omega) hpne (by omega) hf d g v
              have e1v : (mayN v && rightN f d g e.p.length) = false := by rw [hok.2.1, ← hM]; simp [hMv, mayN]; try omega
              have e2v : mayS f d g e.p.length v = false := by unfold mayS; rw [hok.2.1, ← hM]; simp [hMv, mayN]; try omega
              rw [e1v] at p1
              have q1 : e.putN f d g v = e := by unfold Enc.putN; rw [e1v]
              rw [q1] at p1
              have q2 : e.putS f d g v = e := by unfold Enc.putS; rw [e2v]
              have hnext : runP f d g c (l.take (i + 1)) = e := by rw [List.take_succ_eq_append_getElem hd, runP_snoc, ← he, ← hv, q1, q2]
              rw [hP0_nil hb] at p1
              have p2 := bputs0_spec e hb hok.1 (by omega) hpne (by omega) hf d g v hvb.2
              rw [e2v, q2] at p2
              rw [hP0_nil hb] at p2
              conv => whnf
              refine CallsF.call [] [] (sA) rfl rfl rfl rfl rfl (.inl rfl) ?_
              conv => whnf
              refine CallsF.call [] [] (sB) rfl rfl rfl rfl rfl (.inl rfl) ?_
              conv => whnf
              refine pt_of [3, 7, 8, 9, 11, 12, 13, 14, 15, 36, 37, 38] [0, 1, 2, 3, 4, 5] [] (by rfl) ?_
              conv => whnf
              refine CallsF.call [0, 1, 2] [] (p1) rfl rfl rfl rfl rfl (.inl rfl) ?_
              conv => whnf
              refine CallsF.call [0, 1, 2] [] (p2) rfl rfl rfl rfl rfl (.inl rfl) ?_
              conv => whnf
              refine CallsF.call [] [] (pn) rfl rfl rfl rfl rfl (.inl rfl) ?_
              conv => whnf
              refine pt_of [3, 7, 8, 9, 11, 12, 14, 36, 37, 38] [0, 1, 2, 3, 4, 5] [] (by rfl) ?_
              conv => whnf
              refine pt_of [3, 7, 8, 9, 11, 36, 37, 38] [0, 1, 2, 3, 4, 5] [] (by rfl) ?_
              conv => whnf
              rw [show decide (v ≥ 0) = true from decide_eq_true (by omega)]
              conv => whnf
              rw [show decide (v ≤ 2199023255550) = false from decide_eq_false (by omega)]
              conv => whnf
              refine CallsF.call [] [] (bk) rfl rfl rfl rfl rfl (.inl rfl) ?_
              conv => whnf
              refine CallsF.call [0, 1, 2] [] (count0_spec _ _ _ _ _) rfl rfl rfl rfl rfl (.inl rfl) ?_
              conv => whnf
              refine ⟨.inl ⟨_, rfl⟩, ?_⟩
              conv => whnf
              rw [show (((e.n : Nat) : Int) != ((e.n : Nat) : Int)) = false by simp]
              conv => whnf
              rw [inc_natH (by omega)]
              refine ⟨(l.length - (i + 1)), [3, 7, 8, 9, 36, 37, 38], [0, 1, 2, 3, 4, 5], [], by omega, rfl, ?_⟩
              conv => whnf
              refine ⟨i + 1, by omega, by omega, ?_⟩
              rw [hnext]
              exact .inl ⟨hb, rfl⟩
      · rw [show decide (((i : Nat) : Int) ≥ 40) = true from decide_eq_true (by omega)]
        conv => whnf
        refine CallsF.call [0, 1, 2] [] (bytes0R_spec e hb hok.1) rfl rfl rfl rfl rfl (.inl rfl) ?_
        conv => whnf
        refine CallsF.call [3, 4] [] (rbytes_spec e hok.1) rfl rfl rfl rfl rfl (.inl rfl) ?_
        conv => whnf
        refine ⟨.inl ⟨_, rfl⟩, ?_⟩
        conv => whnf
        rw [str_selfH (strOfNums e.bytes)]
        conv => whnf
        refine CallsF.call [0, 1, 2] [] (chances0_spec _ _ _ _ _ hpne (by omega)) rfl rfl rfl rfl rfl (.inl rfl) ?_
        conv => whnf
        refine ⟨.inl ⟨_, rfl⟩, ?_⟩
        conv => whnf
        refine CallsF.call [] [4] (same_spec e.p ((e.p.drop 0).take e.p.length) (by omega)) rfl rfl rfl rfl rfl (.inr rfl) ?_
        conv => whnf
        rw [decide_eq_true (take_allH e.p).symm]
        exact ⟨[], [], rfl, rfl, rfl⟩
    · have hd := of_decide_eq_false hd
      conv => whnf
      refine CallsF.call [0, 1, 2] [] (bytes0R_spec e hb hok.1) rfl rfl rfl rfl rfl (.inl rfl) ?_
      conv => whnf
      refine CallsF.call [3, 4] [] (rbytes_spec e hok.1) rfl rfl rfl rfl rfl (.inl rfl) ?_
      conv => whnf
      refine ⟨.inl ⟨_, rfl⟩, ?_⟩
      conv => whnf
      rw [str_selfH (strOfNums e.bytes)]
      conv => whnf
      refine CallsF.call [0, 1, 2] [] (chances0_spec _ _ _ _ _ hpne (by omega)) rfl rfl rfl rfl rfl (.inl rfl) ?_
      conv => whnf
      refine ⟨.inl ⟨_, rfl⟩, ?_⟩
      conv => whnf
      refine CallsF.call [] [4] (same_spec e.p ((e.p.drop 0).take e.p.length) (by omega)) rfl rfl rfl rfl rfl (.inr rfl) ?_
      conv => whnf
      rw [decide_eq_true (take_allH e.p).symm]
      exact ⟨[], [], rfl, rfl, rfl⟩
  · conv => whnf
    refine ifB_of (fun hd => ?_) (fun hd => ?_)
    · have hd : i < l.length := by have := of_decide_eq_true hd; omega
      obtain ⟨v, hv⟩ : ∃ v, v = l[i] := ⟨_, rfl⟩
      have hvb : -9223372036854775808 ≤ v ∧ v ≤ 9223372036854775807 := by rw [hv]; exact hlv _ (List.getElem_mem _)
      have hg : l.getD i 0 = v := by rw [hv]; simp [List.getD, hd]
      conv => whnf
      refine need_of ((decide_eq_true ⟨by omega, by omega⟩)) ?_
      conv => whnf
      rw [Int.toNat_natCast, hg]
      by_cases h4 : i < 40
      · rw [show decide (((i : Nat) : Int) ≥ 40) = false from decide_eq_false (by omega)]
        have pn := bput_nil f hf d g v
        have bk := bitsK_spec v
        by_cases hf0 : 0 < f.length
        · by_cases hr1 : 0 ≤ v ∧ v ≤ 2199023255550
          · have sA := rsteps_ok hf0 hf d g (V := v.toNat) (by omega)
            rw [show ((v.toNat : Nat) : Int) = v by omega] at sA
            have sB := rsigned_ok hf0 hf d g (v := v) (by simp [inS]; omega)
            have sZ := rsteps_ok (f := [0]) (by decide) (by decide) 0 0 (V := v.toNat) (by omega)
            rw [show ((v.toNat : Nat) : Int) = v by omega] at sZ
            have hbk : bitsK v = (stepsN [0] 0 v.toNat).length := by rw [steps_bits [0] 0 (V := v.toNat) (by omega), show ((v.toNat : Nat) : Int) = v by omega]
            obtain ⟨qA, hqA⟩ : ∃ q, q = stepsN f d v.toNat := ⟨_, rfl⟩
            obtain ⟨qB, hqB⟩ : ∃ q, q = stepsS f d g v := ⟨_, rfl⟩
            obtain ⟨qZ, hqZ⟩ : ∃ q, q = stepsN [0] 0 v.toNat := ⟨_, rfl⟩
            obtain ⟨B, hB⟩ : ∃ B, B = bitsK v := ⟨_, rfl⟩
            rw [← hqA] at sA
            rw [← hqB] at sB
            rw [← hqZ] at sZ hbk
            rw [← hB] at bk hbk
            cases hMv : M
            · skip
              have p1 := bput1_spec e hb hok.1 (by omega) hpne (by omega) hf d g v
              have e1v : (mayN v && rightN f d g e.p.length) = false := by rw [hok.2.1, ← hM]; simp [hMv, mayN]; try omega
              have e2v : mayS f d g e.p.length v = false := by unfold mayS; rw [hok.2.1, ← hM]; simp [hMv, mayN]; try omega
              rw [e1v] at p1
              have q1 : e.putN f d g v = e := by unfold Enc.putN; rw [e1v]
              rw [q1] at p1
              have q2 : e.putS f d g v = e := by unfold Enc.putS; rw [e2v]
              have hnext : runP f d g c (l.take (i + 1)) = e := by rw [List.take_succ_eq_append_getElem hd, runP_snoc, ← he, ← hv, q1, q2]
              have p2 := bputs1_spec e hb hok.1 (by omega) hpne (by omega) hf d g v hvb.2
              rw [e2v, q2] at p2
              conv => whnf
              refine CallsF.call [] [] (sA) rfl rfl rfl rfl rfl (.inl rfl) ?_
              conv => whnf
              refine CallsF.call [] [] (sB) rfl rfl rfl rfl rfl (.inl rfl) ?_
              conv => whnf
              refine pt_of [3, 7, 8, 9, 11, 12, 13, 14, 15, 36, 37, 38] [0, 1, 2, 3, 4, 5, 6, 7, 8] [] (by rfl) ?_
              conv => whnf
              refine CallsF.call [0, 1, 2, 3] [] (p1) rfl rfl rfl rfl rfl (.inl rfl) ?_
              conv => whnf
              refine CallsF.call [0, 1, 2, 9] [] (p2) rfl rfl rfl rfl rfl (.inl rfl) ?_
              conv => whnf
              refine CallsF.call [] [] (pn) rfl rfl rfl rfl rfl (.inl rfl) ?_
              conv => whnf
              refine pt_of [3, 7, 8, 9, 11, 12, 14, 36, 37, 38] [0, 1, 2, 10, 4, 5, 6, 7, 8] [] (by rfl) ?_
              conv => whnf
              refine pt_of [3, 7, 8, 9, 11, 36, 37, 38] [0, 1, 2, 3, 4, 5, 6] [] (by rfl) ?_
              conv => whnf
              rw [show decide (v ≥ 0) = true from decide_eq_true (by omega)]
              conv => whnf
              rw [show decide (v ≤ 2199023255550) = true from decide_eq_true (by omega)]
              conv => whnf
              refine CallsA.frz [7] ?_
              conv => whnf
              refine CallsF.call [] [] (sZ) rfl rfl rfl rfl rfl (.inl rfl) ?_
              conv => whnf
              refine CallsF.call [] [] (bk) rfl rfl rfl rfl rfl (.inl rfl) ?_
              conv => whnf
              rw [show (((B : Nat) : Int) != ((qZ.length : Nat) : Int)) = false by rw [hbk]; simp]
              conv => whnf
              refine CallsF.call [0, 1, 2, 3] [] (count1_spec _ _ _ _ _ _) rfl rfl rfl rfl rfl (.inl rfl) ?_
              conv => whnf
              refine ⟨.inl ⟨_, rfl⟩, ?_⟩
              conv => whnf
              rw [show (((e.n : Nat) : Int) != ((e.n : Nat) : Int)) = false by simp]
              conv => whnf
              rw [inc_natH (by omega)]
              refine ⟨(l.length - (i + 1)), [3, 7, 8, 9, 36, 37, 38], [0, 1, 2, 3, 4, 5, 6], [], by omega, rfl, ?_⟩
              conv => whnf
              refine ⟨i + 1, by omega, by omega, ?_⟩
              rw [hnext]
              exact .inr ⟨hb, rfl⟩
            · skip
              have p1 := bput1_spec e hb hok.1 (by omega) hpne (by omega) hf d g v
              have e1v : (mayN v && rightN f d g e.p.length) = true := by rw [hok.2.1, ← hM]; simp [hMv, mayN]; try omega
              have e2v : mayS f d g e.p.length v = true := by unfold mayS; rw [hok.2.1, ← hM]; simp [hMv, mayN]; try omega
              rw [e1v] at p1
              have q1 : e.putN f d g v = encF e qA := by unfold Enc.putN; rw [e1v, hqA]
              rw [q1] at p1
              have o1 := encF_ok hok.1 qA (by have := stepsN_len f d (v := v.toNat) (by omega); rw [← hqA] at this; omega)
              have l1 := stepsN_len f d (v := v.toNat) (by omega)
              rw [← hqA] at l1
              obtain ⟨e1, he1⟩ : ∃ e1, e1 = encF e qA := ⟨_, rfl⟩
              rw [← he1] at p1 o1 q1
              have hp1 : e1.p ≠ [] := fun h => by have := o1.2.1; rw [h] at this; simp at this; omega
              have e2v : mayS f d g e1.p.length v = true := by rw [o1.2.1]; exact e2v
              have l2 := stepsS_len f d g (v := v) (by omega)
              rw [← hqB] at l2
              have o2 := encF_ok o1.1 qB (by omega)
              obtain ⟨e2, he2⟩ : ∃ e2, e2 = encF e1 qB := ⟨_, rfl⟩
              rw [← he2] at o2
              have q2 : e1.putS f d g v = e2 := by unfold Enc.putS; rw [e2v, he2, hqB]
              have hnext : runP f d g c (l.take (i + 1)) = e2 := by rw [List.take_succ_eq_append_getElem hd, runP_snoc, ← he, ← hv, q1, q2]
              have rp1 := rput_spec e hok.1 (by omega) (q := qA) (by omega) (rows_allH qA)
              rw [← he1] at rp1
              have rp2 := rput_spec e1 o1.1 (by omega) (q := qB) (by omega) (rows_allH qB)
              rw [← he2] at rp2
              have hb1 : e1.bits ≠ [] := by rw [he1]; exact encF_bits hb _
              have p2 := bputs1_spec e1 hb1 o1.1 (by omega) hp1 (by omega) hf d g v hvb.2
              rw [e2v, q2] at p2
              have hb2 : e2.bits ≠ [] := by rw [he2]; exact encF_bits hb1 _
              conv => whnf
              refine CallsF.call [] [] (sA) rfl rfl rfl rfl rfl (.inl rfl) ?_
              conv => whnf
              refine CallsF.call [] [] (sB) rfl rfl rfl rfl rfl (.inl rfl) ?_
              conv => whnf
              refine pt_of [3, 7, 8, 9, 11, 12, 13, 14, 15, 36, 37, 38] [0, 1, 2, 3, 4, 5, 6, 7, 8] [] (by rfl) ?_
              conv => whnf
              refine CallsF.call [0, 1, 2, 3] [] (p1) rfl rfl rfl rfl rfl (.inl rfl) ?_
              conv => whnf
              refine CallsF.call [0, 1, 2, 9] [] (p2) rfl rfl rfl rfl rfl (.inl rfl) ?_
              conv => whnf
              refine CallsF.call [] [] (pn) rfl rfl rfl rfl rfl (.inl rfl) ?_
              conv => whnf
              refine pt_of [3, 7, 8, 9, 11, 12, 14, 36, 37, 38] [0, 1, 2, 10, 4, 5, 6, 7, 8] [] (by rfl) ?_
              conv => whnf
              refine CallsF.call [4, 5] [7] (rp1) rfl rfl rfl rfl rfl (.inr rfl) ?_
              conv => whnf
              refine CallsF.call [4, 9] [8] (rp2) rfl rfl rfl rfl rfl (.inr rfl) ?_
              conv => whnf
              refine pt_of [3, 7, 8, 9, 11, 36, 37, 38] [0, 1, 2, 3, 4, 10, 6] [] (by rfl) ?_
              conv => whnf
              rw [show decide (v ≥ 0) = true from decide_eq_true (by omega)]
              conv => whnf
              rw [show decide (v ≤ 2199023255550) = true from decide_eq_true (by omega)]
              conv => whnf
              refine CallsA.frz [7] ?_
              conv => whnf
              refine CallsF.call [] [] (sZ) rfl rfl rfl rfl rfl (.inl rfl) ?_
              conv => whnf
              refine CallsF.call [] [] (bk) rfl rfl rfl rfl rfl (.inl rfl) ?_
              conv => whnf
              rw [show (((B : Nat) : Int) != ((qZ.length : Nat) : Int)) = false by rw [hbk]; simp]
              conv => whnf
              refine CallsF.call [0, 1, 2, 3] [] (count1_spec _ _ _ _ _ _) rfl rfl rfl rfl rfl (.inl rfl) ?_
              conv => whnf
              refine ⟨.inl ⟨_, rfl⟩, ?_⟩
              conv => whnf
              rw [show (((e2.n : Nat) : Int) != ((e2.n : Nat) : Int)) = false by simp]
              conv => whnf
              rw [inc_natH (by omega)]
              refine ⟨(l.length - (i + 1)), [3, 7, 8, 9, 36, 37, 38], [0, 1, 2, 3, 4, 5, 6], [], by omega, rfl, ?_⟩
              conv => whnf
              refine ⟨i + 1, by omega, by omega, ?_⟩
              rw [hnext]
              exact .inr ⟨hb2, rfl⟩
          · by_cases hr2 : -2199023255550 ≤ v ∧ v < 0
            · have sA := rsteps_no (f := f) (v := v) (by omega) d g
              have sB := rsigned_ok hf0 hf d g (v := v) (by simp [inS]; omega)
              have hbk : bitsK v = 0 := by unfold bitsK; rw [show mayN v = false by simp [mayN]; omega]
              rw [hbk] at bk
              obtain ⟨qB, hqB⟩ : ∃ q, q = stepsS f d g v := ⟨_, rfl⟩
              rw [← hqB] at sB
              cases hMv : M
              · skip
                have p1 := bput1_spec e hb hok.1 (by omega) hpne (by omega) hf d g v
                have e1v : (mayN v && rightN f d g e.p.length) = false := by rw [hok.2.1, ← hM]; simp [hMv, mayN]; try omega
                have e2v : mayS f d g e.p.length v = false := by unfold mayS; rw [hok.2.1, ← hM]; simp [hMv, mayN]; try omega
                rw [e1v] at p1
                have q1 : e.putN f d g v = e := by unfold Enc.putN; rw [e1v]
                rw [q1] at p1
                have q2 : e.putS f d g v = e := by unfold Enc.putS; rw [e2v]
                have hnext : runP f d g c (l.take (i + 1)) = e := by rw [List.take_succ_eq_append_getElem hd, runP_snoc, ← he, ← hv, q1, q2]
                have p2 := bputs1_spec e hb hok.1 (by omega) hpne (by omega) hf d g v hvb.2
                rw [e2v, q2] at p2
                conv => whnf
                refine CallsF.call [] [] (sA) rfl rfl rfl rfl rfl (.inl rfl) ?_
                conv => whnf
                refine CallsF.call [] [] (sB) rfl rfl rfl rfl rfl (.inl rfl) ?_
                conv => whnf
                refine pt_of [3, 7, 8, 9, 11, 12, 13, 14, 15, 36, 37, 38] [0, 1, 2, 3, 4, 5, 6, 7] [] (by rfl) ?_
                conv => whnf
                refine CallsF.call [0, 1, 2, 3] [] (p1) rfl rfl rfl rfl rfl (.inl rfl) ?_
                conv => whnf
                refine CallsF.call [0, 1, 2, 8] [] (p2) rfl rfl rfl rfl rfl (.inl rfl) ?_
                conv => whnf
                refine CallsF.call [] [] (pn) rfl rfl rfl rfl rfl (.inl rfl) ?_
                conv => whnf
                refine pt_of [3, 7, 8, 9, 11, 12, 14, 36, 37, 38] [0, 1, 2, 9, 4, 5, 6, 7] [] (by rfl) ?_
                conv => whnf
                refine pt_of [3, 7, 8, 9, 11, 36, 37, 38] [0, 1, 2, 3, 4, 5, 6] [] (by rfl) ?_
                conv => whnf
                rw [show decide (v ≥ 0) = false from decide_eq_false (by omega)]
                conv => whnf
                refine CallsF.call [] [] (bk) rfl rfl rfl rfl rfl (.inl rfl) ?_
                conv => whnf
                refine CallsF.call [0, 1, 2, 3] [] (count1_spec _ _ _ _ _ _) rfl rfl rfl rfl rfl (.inl rfl) ?_
                conv => whnf
                refine ⟨.inl ⟨_, rfl⟩, ?_⟩
                conv => whnf
                rw [show (((e.n : Nat) : Int) != ((e.n : Nat) : Int)) = false by simp]
                conv => whnf
                rw [inc_natH (by omega)]
                refine ⟨(l.length - (i + 1)), [3, 7, 8, 9, 36, 37, 38], [0, 1, 2, 3, 4, 5, 6], [], by omega, rfl, ?_⟩
                conv => whnf
                refine ⟨i + 1, by omega, by omega, ?_⟩
                rw [hnext]
                exact .inr ⟨hb, rfl⟩
              · skip
                have p1 := bput1_spec e hb hok.1 (by omega) hpne (by omega) hf d g v
                have e1v : (mayN v && rightN f d g e.p.length) = false := by rw [hok.2.1, ← hM]; simp [hMv, mayN]; try omega
                have e2v : mayS f d g e.p.length v = true := by unfold mayS; rw [hok.2.1, ← hM]; simp [hMv, mayN]; try omega
                rw [e1v] at p1
                have q1 : e.putN f d g v = e := by unfold Enc.putN; rw [e1v]
                rw [q1] at p1
                have l2 := stepsS_len f d g (v := v) (by omega)
                rw [← hqB] at l2
                have o2 := encF_ok hok.1 qB (by omega)
                obtain ⟨e2, he2⟩ : ∃ e2, e2 = encF e qB := ⟨_, rfl⟩
                rw [← he2] at o2
                have q2 : e.putS f d g v = e2 := by unfold Enc.putS; rw [e2v, he2, hqB]
                have hnext : runP f d g c (l.take (i + 1)) = e2 := by rw [List.take_succ_eq_append_getElem hd, runP_snoc, ← he, ← hv, q1, q2]
                have rp2 := rput_spec e hok.1 (by omega) (q := qB) (by omega) (rows_allH qB)
                rw [← he2] at rp2
                have p2 := bputs1_spec e hb hok.1 (by omega) hpne (by omega) hf d g v hvb.2
                rw [e2v, q2] at p2
                have hb2 : e2.bits ≠ [] := by rw [he2]; exact encF_bits hb _
                conv => whnf
                refine CallsF.call [] [] (sA) rfl rfl rfl rfl rfl (.inl rfl) ?_
                conv => whnf
                refine CallsF.call [] [] (sB) rfl rfl rfl rfl rfl (.inl rfl) ?_
                conv => whnf
                refine pt_of [3, 7, 8, 9, 11, 12, 13, 14, 15, 36, 37, 38] [0, 1, 2, 3, 4, 5, 6, 7] [] (by rfl) ?_
                conv => whnf
                refine CallsF.call [0, 1, 2, 3] [] (p1) rfl rfl rfl rfl rfl (.inl rfl) ?_
                conv => whnf
                refine CallsF.call [0, 1, 2, 8] [] (p2) rfl rfl rfl rfl rfl (.inl rfl) ?_
                conv => whnf
                refine CallsF.call [] [] (pn) rfl rfl rfl rfl rfl (.inl rfl) ?_
                conv => whnf
                refine pt_of [3, 7, 8, 9, 11, 12, 14, 36, 37, 38] [0, 1, 2, 9, 4, 5, 6, 7] [] (by rfl) ?_
                conv => whnf
                refine CallsF.call [4, 5] [] (rput_nil e) rfl rfl rfl rfl rfl (.inl rfl) ?_
                conv => whnf
                refine CallsF.call [4, 5] [7] (rp2) rfl rfl rfl rfl rfl (.inr rfl) ?_
                conv => whnf
                refine pt_of [3, 7, 8, 9, 11, 36, 37, 38] [0, 1, 2, 3, 4, 8, 6] [] (by rfl) ?_
                conv => whnf
                rw [show decide (v ≥ 0) = false from decide_eq_false (by omega)]
                conv => whnf
                refine CallsF.call [] [] (bk) rfl rfl rfl rfl rfl (.inl rfl) ?_
                conv => whnf
                refine CallsF.call [0, 1, 2, 3] [] (count1_spec _ _ _ _ _ _) rfl rfl rfl rfl rfl (.inl rfl) ?_
                conv => whnf
                refine ⟨.inl ⟨_, rfl⟩, ?_⟩
                conv => whnf
                rw [show (((e2.n : Nat) : Int) != ((e2.n : Nat) : Int)) = false by simp]
                conv => whnf
                rw [inc_natH (by omega)]
                refine ⟨(l.length - (i + 1)), [3, 7, 8, 9, 36, 37, 38], [0, 1, 2, 3, 4, 5, 6], [], by omega, rfl, ?_⟩
                conv => whnf
                refine ⟨i + 1, by omega, by omega, ?_⟩
                rw [hnext]
                exact .inr ⟨hb2, rfl⟩
            · have sA := rsteps_no (f := f) (v := v) (by omega) d g
              have sB := rsigned_no (f := f) (v := v) (by simp [inS]; omega) hvb.2 d g
              have hbk : bitsK v = 0 := by unfold bitsK; rw [show mayN v = false by simp [mayN]; omega]
              rw [hbk] at bk
              by_cases hneg : v < 0
              · cases hMv : M
                · skip
                  have p1 := bput1_spec e hb hok.1 (by omega) hpne (by omega) hf d g v
                  have e1v : (mayN v && rightN f d g e.p.length) = false := by rw [hok.2.1, ← hM]; simp [hMv, mayN]; try omega
                  have e2v : mayS f d g e.p.length v = false := by unfold mayS; rw [hok.2.1, ← hM]; simp [hMv, mayN]; try omega
                  rw [e1v] at p1
                  have q1 : e.putN f d g v = e := by unfold Enc.putN; rw [e1v]
                  rw [q1] at p1
                  have q2 : e.putS f d g v = e := by unfold Enc.putS; rw [e2v]
                  have hnext : runP f d g c (l.take (i + 1)) = e := by rw [List.take_succ_eq_append_getElem hd, runP_snoc, ← he, ← hv, q1, q2]
                  have p2 := bputs1_spec e hb hok.1 (by omega) hpne (by omega) hf d g v hvb.2
                  rw [e2v, q2] at p2
                  conv => whnf
                  refine CallsF.call [] [] (sA) rfl rfl rfl rfl rfl (.inl rfl) ?_
                  conv => whnf
                  refine CallsF.call [] [] (sB) rfl rfl rfl rfl rfl (.inl rfl) ?_
                  conv => whnf
                  refine pt_of [3, 7, 8, 9, 11, 12, 13, 14, 15, 36, 37, 38] [0, 1, 2, 3, 4, 5, 6] [] (by rfl) ?_
                  conv => whnf
                  refine CallsF.call [0, 1, 2, 3] [] (p1) rfl rfl rfl rfl rfl (.inl rfl) ?_
                  conv => whnf
                  refine CallsF.call [0, 1, 2, 7] [] (p2) rfl rfl rfl rfl rfl (.inl rfl) ?_
                  conv => whnf
                  refine CallsF.call [] [] (pn) rfl rfl rfl rfl rfl (.inl rfl) ?_
                  conv => whnf
                  refine pt_of [3, 7, 8, 9, 11, 12, 14, 36, 37, 38] [0, 1, 2, 8, 4, 5, 6] [] (by rfl) ?_
                  conv => whnf
                  refine pt_of [3, 7, 8, 9, 11, 36, 37, 38] [0, 1, 2, 3, 4, 5, 6] [] (by rfl) ?_
                  conv => whnf
                  rw [show decide (v ≥ 0) = false from decide_eq_false (by omega)]
                  conv => whnf
                  refine CallsF.call [] [] (bk) rfl rfl rfl rfl rfl (.inl rfl) ?_
                  conv => whnf
                  refine CallsF.call [0, 1, 2, 3] [] (count1_spec _ _ _ _ _ _) rfl rfl rfl rfl rfl (.inl rfl) ?_
                  conv => whnf
                  refine ⟨.inl ⟨_, rfl⟩, ?_⟩
                  conv => whnf
                  rw [show (((e.n : Nat) : Int) != ((e.n : Nat) : Int)) = false by simp]
                  conv => whnf
                  rw [inc_natH (by omega)]
                  refine ⟨(l.length - (i + 1)), [3, 7, 8, 9, 36, 37, 38], [0, 1, 2, 3, 4, 5, 6], [], by omega, rfl, ?_⟩
                  conv => whnf
                  refine ⟨i + 1, by omega, by omega, ?_⟩
                  rw [hnext]
                  exact .inr ⟨hb, rfl⟩
                · skip
                  have p1 := bput1_spec e hb hok.1 (by omega) hpne (by omega) hf d g v
                  have e1v : (mayN v && rightN f d g e.p.length) = false := by rw [hok.2.1, ← hM]; simp [hMv, mayN]; try omega
                  have e2v : mayS f d g e.p.length v = false := by unfold mayS; rw [hok.2.1, ← hM]; simp [hMv, mayN]; try omega
                  rw [e1v] at p1
                  have q1 : e.putN f d g v = e := by unfold Enc.putN; rw [e1v]
                  rw [q1] at p1
                  have q2 : e.putS f d g v = e := by unfold Enc.putS; rw [e2v]
                  have hnext : runP f d g c (l.take (i + 1)) = e := by rw [List.take_succ_eq_append_getElem hd, runP_snoc, ← he, ← hv, q1, q2]
                  have p2 := bputs1_spec e hb hok.1 (by omega) hpne (by omega) hf d g v hvb.2
                  rw [e2v, q2] at p2
                  conv => whnf
                  refine CallsF.call [] [] (sA) rfl rfl rfl rfl rfl (.inl rfl) ?_
                  conv => whnf
                  refine CallsF.call [] [] (sB) rfl rfl rfl rfl rfl (.inl rfl) ?_
                  conv => whnf
                  refine pt_of [3, 7, 8, 9, 11, 12, 13, 14, 15, 36, 37, 38] [0, 1, 2, 3, 4, 5, 6] [] (by rfl) ?_
                  conv => whnf
                  refine CallsF.call [0, 1, 2, 3] [] (p1) rfl rfl rfl rfl rfl (.inl rfl) ?_
                  conv => whnf
                  refine CallsF.call [0, 1, 2, 7] [] (p2) rfl rfl rfl rfl rfl (.inl rfl) ?_
                  conv => whnf
                  refine CallsF.call [] [] (pn) rfl rfl rfl rfl rfl (.inl rfl) ?_
                  conv => whnf
                  refine pt_of [3, 7, 8, 9, 11, 12, 14, 36, 37, 38] [0, 1, 2, 8, 4, 5, 6] [] (by rfl) ?_
                  conv => whnf
                  refine CallsF.call [4, 5] [] (rput_nil e) rfl rfl rfl rfl rfl (.inl rfl) ?_
                  conv => whnf
                  refine CallsF.call [4, 5] [] (rput_nil e) rfl rfl rfl rfl rfl (.inl rfl) ?_
                  conv => whnf
                  refine pt_of [3, 7, 8, 9, 11, 36, 37, 38] [0, 1, 2, 3, 4, 5, 6] [] (by rfl) ?_
                  conv => whnf
                  rw [show decide (v ≥ 0) = false from decide_eq_false (by omega)]
                  conv => whnf
                  refine CallsF.call [] [] (bk) rfl rfl rfl rfl rfl (.inl rfl) ?_
                  conv => whnf
                  refine CallsF.call [0, 1, 2, 3] [] (count1_spec _ _ _ _ _ _) rfl rfl rfl rfl rfl (.inl rfl) ?_
                  conv => whnf
                  refine ⟨.inl ⟨_, rfl⟩, ?_⟩
                  conv => whnf
                  rw [show (((e.n : Nat) : Int) != ((e.n : Nat) : Int)) = false by simp]
                  conv => whnf
                  rw [inc_natH (by omega)]
                  refine ⟨(l.length - (i + 1)), [3, 7, 8, 9, 36, 37, 38], [0, 1, 2, 3, 4, 5, 6], [], by omega, rfl, ?_⟩
                  conv => whnf
                  refine ⟨i + 1, by omega, by omega, ?_⟩
                  rw [hnext]
                  exact .inr ⟨hb, rfl⟩
              · cases hMv : M
                · skip
                  have p1 := bput1_spec e hb hok.1 (by omega) hpne (by omega) hf d g v
                  have e1v : (mayN v && rightN f d g e.p.length) = false := by rw [hok.2.1, ← hM]; simp [hMv, mayN]; try omega
                  have e2v : mayS f d g e.p.length v = false := by unfold mayS; rw [hok.2.1, ← hM]; simp [hMv, mayN]; try omega
                  rw [e1v] at p1
                  have q1 : e.putN f d g v = e := by unfold Enc.putN; rw [e1v]
                  rw [q1] at p1
                  have q2 : e.putS f d g v = e := by unfold Enc.putS; rw [e2v]
                  have hnext : runP f d g c (l.take (i + 1)) = e := by rw [List.take_succ_eq_append_getElem hd, runP_snoc, ← he, ← hv, q1, q2]
                  have p2 := bputs1_spec e hb hok.1 (by omega) hpne (by omega) hf d g v hvb.2
                  rw [e2v, q2] at p2
                  conv => whnf
                  refine CallsF.call [] [] (sA) rfl rfl rfl rfl rfl (.inl rfl) ?_
                  conv => whnf
                  refine CallsF.call [] [] (sB) rfl rfl rfl rfl rfl (.inl rfl) ?_
                  conv => whnf
                  refine pt_of [3, 7, 8, 9, 11, 12, 13, 14, 15, 36, 37, 38] [0, 1, 2, 3, 4, 5, 6] [] (by rfl) ?_
                  conv => whnf
                  refine CallsF.call [0, 1, 2, 3] [] (p1) rfl rfl rfl rfl rfl (.inl rfl) ?_
                  conv => whnf
                  refine CallsF.call [0, 1, 2, 7] [] (p2) rfl rfl rfl rfl rfl (.inl rfl) ?_
                  conv => whnf
                  refine CallsF.call [] [] (pn) rfl rfl rfl rfl rfl (.inl rfl) ?_
                  conv => whnf
                  refine pt_of [3, 7, 8, 9, 11, 12, 14, 36, 37, 38] [0, 1, 2, 8, 4, 5, 6] [] (by rfl) ?_
                  conv => whnf
                  refine pt_of [3, 7, 8, 9, 11, 36, 37, 38] [0, 1, 2, 3, 4, 5, 6] [] (by rfl) ?_
                  conv => whnf
                  rw [show decide (v ≥ 0) = true from decide_eq_true (by omega)]
                  conv => whnf
                  rw [show decide (v ≤ 2199023255550) = false from decide_eq_false (by omega)]
                  conv => whnf
                  refine CallsF.call [] [] (bk) rfl rfl rfl rfl rfl (.inl rfl) ?_
                  conv => whnf
                  refine CallsF.call [0, 1, 2, 3] [] (count1_spec _ _ _ _ _ _) rfl rfl rfl rfl rfl (.inl rfl) ?_
                  conv => whnf
                  refine ⟨.inl ⟨_, rfl⟩, ?_⟩
                  conv => whnf
                  rw [show (((e.n : Nat) : Int) != ((e.n : Nat) : Int)) = false by simp]
                  conv => whnf
                  rw [inc_natH (by omega)]
                  refine ⟨(l.length - (i + 1)), [3, 7, 8, 9, 36, 37, 38], [0, 1, 2, 3, 4, 5, 6], [], by omega, rfl, ?_⟩
                  conv => whnf
                  refine ⟨i + 1, by omega, by omega, ?_⟩
                  rw [hnext]
                  exact .inr ⟨hb, rfl⟩
                · skip
                  have p1 := bput1_spec e hb hok.1 (by omega) hpne (by omega) hf d g v
                  have e1v : (mayN v && rightN f d g e.p.length) = false := by rw [hok.2.1, ← hM]; simp [hMv, mayN]; try omega
                  have e2v : mayS f d g e.p.length v = false := by unfold mayS; rw [hok.2.1, ← hM]; simp [hMv, mayN]; try omega
                  rw [e1v] at p1
                  have q1 : e.putN f d g v = e := by unfold Enc.putN; rw [e1v]
                  rw [q1] at p1
                  have q2 : e.putS f d g v = e := by unfold Enc.putS; rw [e2v]
                  have hnext : runP f d g c (l.take (i + 1)) = e := by rw [List.take_succ_eq_append_getElem hd, runP_snoc, ← he, ← hv, q1, q2]
                  have p2 := bputs1_spec e hb hok.1 (by omega) hpne (by omega) hf d g v hvb.2
                  rw [e2v, q2] at p2
                  conv => whnf
                  refine CallsF.call [] [] (sA) rfl rfl rfl rfl rfl (.inl rfl) ?_
                  conv => whnf
                  refine CallsF.call [] [] (sB) rfl rfl rfl rfl rfl (.inl rfl) ?_
                  conv => whnf
                  refine pt_of [3, 7, 8, 9, 11, 12, 13, 14, 15, 36, 37, 38] [0, 1, 2, 3, 4, 5, 6] [] (by rfl) ?_
                  conv => whnf
                  refine CallsF.call [0, 1, 2, 3] [] (p1) rfl rfl rfl rfl rfl (.inl rfl) ?_
                  conv => whnf
                  refine CallsF.call [0, 1, 2, 7] [] (p2) rfl rfl rfl rfl rfl (.inl rfl) ?_
                  conv => whnf
                  refine CallsF.call [] [] (pn) rfl rfl rfl rfl rfl (.inl rfl) ?_
                  conv => whnf
                  refine pt_of [3, 7, 8, 9, 11, 12, 14, 36, 37, 38] [0, 1, 2, 8, 4, 5, 6] [] (by rfl) ?_
                  conv => whnf
                  refine CallsF.call [4, 5] [] (rput_nil e) rfl rfl rfl rfl rfl (.inl rfl) ?_
                  conv => whnf
                  refine CallsF.call [4, 5] [] (rput_nil e) rfl rfl rfl rfl rfl (.inl rfl) ?_
                  conv => whnf
                  refine pt_of [3, 7, 8, 9, 11, 36, 37, 38] [0, 1, 2, 3, 4, 5, 6] [] (by rfl) ?_
                  conv => whnf
                  rw [show decide (v ≥ 0) = true from decide_eq_true (by omega)]
                  conv => whnf
                  rw [show decide (v ≤ 2199023255550) = false from decide_eq_false (by omega)]
                  conv => whnf
                  refine CallsF.call [] [] (bk) rfl rfl rfl rfl rfl (.inl rfl) ?_
                  conv => whnf
                  refine CallsF.call [0, 1, 2, 3] [] (count1_spec _ _ _ _ _ _) rfl rfl rfl rfl rfl (.inl rfl) ?_
                  conv => whnf
                  refine ⟨.inl ⟨_, rfl⟩, ?_⟩
                  conv => whnf
                  rw [show (((e.n : Nat) : Int) != ((e.n : Nat) : Int)) = false by simp]
                  conv => whnf
                  rw [inc_natH (by omega)]
                  refine ⟨(l.length - (i + 1)), [3, 7, 8, 9, 36, 37, 38], [0, 1, 2, 3, 4, 5, 6], [], by omega, rfl, ?_⟩
                  conv => whnf
                  refine ⟨i + 1, by omega, by omega, ?_⟩
                  rw [hnext]
                  exact .inr ⟨hb, rfl⟩
        · have hMv : M = false := by rw [hM]; simp [rightN, hf0]
          have sA := rsteps_no (f := f) (v := v) (by omega) d g
          have sB := rsigned_no (f := f) (v := v) (by omega) hvb.2 d g
          rw [hMv]
          by_cases hr1 : 0 ≤ v ∧ v ≤ 2199023255550
          · have sZ := rsteps_ok (f := [0]) (by decide) (by decide) 0 0 (V := v.toNat) (by omega)
            rw [show ((v.toNat : Nat) : Int) = v by omega] at sZ
            have hbk : bitsK v = (stepsN [0] 0 v.toNat).length := by rw [steps_bits [0] 0 (V := v.toNat) (by omega), show ((v.toNat : Nat) : Int) = v by omega]
            obtain ⟨qZ, hqZ⟩ : ∃ q, q = stepsN [0] 0 v.toNat := ⟨_, rfl⟩
            obtain ⟨B, hB⟩ : ∃ B, B = bitsK v := ⟨_, rfl⟩
            rw [← hqZ] at sZ hbk
            rw [← hB] at bk hbk
            have p1 := bput1_spec e hb hok.1 (by omega) hpne (by omega) hf d g v
            have e1v : (mayN v && rightN f d g e.p.length) = false := by rw [hok.2.1, ← hM]; simp [hMv, mayN]; try omega
            have e2v : mayS f d g e.p.length v = false := by unfold mayS; rw [hok.2.1, ← hM]; simp [hMv, mayN]; try omega
            rw [e1v] at p1
            have q1 : e.putN f d g v = e := by unfold Enc.putN; rw [e1v]
            rw [q1] at p1
            have q2 : e.putS f d g v = e := by unfold Enc.putS; rw [e2v]
            have hnext : runP f d g c (l.take (i + 1)) = e := by rw [List.take_succ_eq_append_getElem hd, runP_snoc, ← he, ← hv, q1, q2]
            have p2 := bputs1_spec e hb hok.1 (by omega) hpne (by omega) hf d g v hvb.2
            rw [e2v, q2] at p2
            conv => whnf
            refine CallsF.call [] [] (sA) rfl rfl rfl rfl rfl (.inl rfl) ?_
            conv => whnf
            refine CallsF.call [] [] (sB) rfl rfl rfl rfl rfl (.inl rfl) ?_
            conv => whnf
            refine pt_of [3, 7, 8, 9, 11, 12, 13, 14, 15, 36, 37, 38] [0, 1, 2, 3, 4, 5, 6] [] (by rfl) ?_
            conv => whnf
            refine CallsF.call [0, 1, 2, 3] [] (p1) rfl rfl rfl rfl rfl (.inl rfl) ?_
            conv => whnf
            refine CallsF.call [0, 1, 2, 7] [] (p2) rfl rfl rfl rfl rfl (.inl rfl) ?_
            conv => whnf
            refine CallsF.call [] [] (pn) rfl rfl rfl rfl rfl (.inl rfl) ?_
            conv => whnf
            refine pt_of [3, 7, 8, 9, 11, 12, 14, 36, 37, 38] [0, 1, 2, 8, 4, 5, 6] [] (by rfl) ?_
            conv => whnf
            refine pt_of [3, 7, 8, 9, 11, 36, 37, 38] [0, 1, 2, 3, 4, 5, 6] [] (by rfl) ?_
            conv => whnf
            rw [show decide (v ≥ 0) = true from decide_eq_true (by omega)]
            conv => whnf
            rw [show decide (v ≤ 2199023255550) = true from decide_eq_true (by omega)]
            conv => whnf
            refine CallsA.frz [7] ?_
            conv => whnf
            refine CallsF.call [] [] (sZ) rfl rfl rfl rfl rfl (.inl rfl) ?_
            conv => whnf
            refine CallsF.call [] [] (bk) rfl rfl rfl rfl rfl (.inl rfl) ?_
            conv => whnf
            rw [show (((B : Nat) : Int) != ((qZ.length : Nat) : Int)) = false by rw [hbk]; simp]
            conv => whnf
            refine CallsF.call [0, 1, 2, 3] [] (count1_spec _ _ _ _ _ _) rfl rfl rfl rfl rfl (.inl rfl) ?_
            conv => whnf
            refine ⟨.inl ⟨_, rfl⟩, ?_⟩
            conv => whnf
            rw [show (((e.n : Nat) : Int) != ((e.n : Nat) : Int)) = false by simp]
            conv => whnf
            rw [inc_natH (by omega)]
            refine ⟨(l.length - (i + 1)), [3, 7, 8, 9, 36, 37, 38], [0, 1, 2, 3, 4, 5, 6], [], by omega, rfl, ?_⟩
            conv => whnf
            refine ⟨i + 1, by omega, by omega, ?_⟩
            rw [hnext]
            exact .inr ⟨hb, rfl⟩
          · have hbk : bitsK v = 0 := by unfold bitsK; rw [show mayN v = false by simp [mayN]; omega]
            rw [hbk] at bk
            by_cases hneg : v < 0
            · skip
              have p1 := bput1_spec e hb hok.1 (by omega) hpne (by omega) hf d g v
              have e1v : (mayN v && rightN f d g e.p.length) = false := by rw [hok.2.1, ← hM]; simp [hMv, mayN]; try omega
              have e2v : mayS f d g e.p.length v = false := by unfold mayS; rw [hok.2.1, ← hM]; simp [hMv, mayN]; try omega
              rw [e1v] at p1
              have q1 : e.putN f d g v = e := by unfold Enc.putN; rw [e1v]
              rw [q1] at p1
              have q2 : e.putS f d g v = e := by unfold Enc.putS; rw [e2v]
              have hnext : runP f d g c (l.take (i + 1)) = e := by rw [List.take_succ_eq_append_getElem hd, runP_snoc, ← he, ← hv, q1, q2]
              have p2 := bputs1_spec e hb hok.1 (by omega) hpne (by omega) hf d g v hvb.2
              rw [e2v, q2] at p2
              conv => whnf
              refine CallsF.call [] [] (sA) rfl rfl rfl rfl rfl (.inl rfl) ?_
              conv => whnf
              refine CallsF.call [] [] (sB) rfl rfl rfl rfl rfl (.inl rfl) ?_
              conv => whnf
              refine pt_of [3, 7, 8, 9, 11, 12, 13, 14, 15, 36, 37, 38] [0, 1, 2, 3, 4, 5, 6] [] (by rfl) ?_
              conv => whnf
              refine CallsF.call [0, 1, 2, 3] [] (p1) rfl rfl rfl rfl rfl (.inl rfl) ?_
              conv => whnf
              refine CallsF.call [0, 1, 2, 7] [] (p2) rfl rfl rfl rfl rfl (.inl rfl) ?_
              conv => whnf
              refine CallsF.call [] [] (pn) rfl rfl rfl rfl rfl (.inl rfl) ?_
              conv => whnf
              refine pt_of [3, 7, 8, 9, 11, 12, 14, 36, 37, 38] [0, 1, 2, 8, 4, 5, 6] [] (by rfl) ?_
              conv => whnf
              refine pt_of [3, 7, 8, 9, 11, 36, 37, 38] [0, 1, 2, 3, 4, 5, 6] [] (by rfl) ?_
              conv => whnf
              rw [show decide (v ≥ 0) = false from decide_eq_false (by omega)]
              conv => whnf
              refine CallsF.call [] [] (bk) rfl rfl rfl rfl rfl (.inl rfl) ?_
              conv => whnf
              refine CallsF.call [0, 1, 2, 3] [] (count1_spec _ _ _ _ _ _) rfl rfl rfl rfl rfl (.inl rfl) ?_
              conv => whnf
              refine ⟨.inl ⟨_, rfl⟩, ?_⟩
              conv => whnf
              rw [show (((e.n : Nat) : Int) != ((e.n : Nat) : Int)) = false by simp]
              conv => whnf
              rw [inc_natH (by omega)]
              refine ⟨(l.length - (i + 1)), [3, 7, 8, 9, 36, 37, 38], [0, 1, 2, 3, 4, 5, 6], [], by omega, rfl, ?_⟩
              conv => whnf
              refine ⟨i + 1, by omega, by omega, ?_⟩
              rw [hnext]
              exact .inr ⟨hb, rfl⟩
            · skip
              have p1 := bput1_spec e hb hok.1 (by omega) hpne (by omega) hf d g v
              have e1v : (mayN v && rightN f d g e.p.length) = false := by rw [hok.2.1, ← hM]; simp [hMv, mayN]; try omega
              have e2v : mayS f d g e.p.length v = false := by unfold mayS; rw [hok.2.1, ← hM]; simp [hMv, mayN]; try omega
              rw [e1v] at p1
              have q1 : e.putN f d g v = e := by unfold Enc.putN; rw [e1v]
              rw [q1] at p1
              have q2 : e.putS f d g v = e := by unfold Enc.putS; rw [e2v]
              have hnext : runP f d g c (l.take (i + 1)) = e := by rw [List.take_succ_eq_append_getElem hd, runP_snoc, ← he, ← hv, q1, q2]
              have p2 := bputs1_spec e hb hok.1 (by omega) hpne (by omega) hf d g v hvb.2
              rw [e2v, q2] at p2
              conv => whnf
              refine CallsF.call [] [] (sA) rfl rfl rfl rfl rfl (.inl rfl) ?_
              conv => whnf
              refine CallsF.call [] [] (sB) rfl rfl rfl rfl rfl (.inl rfl) ?_
              conv => whnf
              refine pt_of [3, 7, 8, 9, 11, 12, 13, 14, 15, 36, 37, 38] [0, 1, 2, 3, 4, 5, 6] [] (by rfl) ?_
              conv => whnf
              refine CallsF.call [0, 1, 2, 3] [] (p1) rfl rfl rfl rfl rfl (.inl rfl) ?_
              conv => whnf
              refine CallsF.call [0, 1, 2, 7] [] (p2) rfl rfl rfl rfl rfl (.inl rfl) ?_
              conv => whnf
              refine CallsF.call [] [] (pn) rfl rfl rfl rfl rfl (.inl rfl) ?_
              conv => whnf
              refine pt_of [3, 7, 8, 9, 11, 12, 14, 36, 37, 38] [0, 1, 2, 8, 4, 5, 6] [] (by rfl) ?_
              conv => whnf
              refine pt_of [3, 7, 8, 9, 11, 36, 37, 38] [0, 1, 2, 3, 4, 5, 6] [] (by rfl) ?_
              conv => whnf
              rw [show decide (v ≥ 0) = true from decide_eq_true (by omega)]
              conv => whnf
              rw [show decide (v ≤ 2199023255550) = false from decide_eq_false (by omega)]
              conv => whnf
              refine CallsF.call [] [] (bk) rfl rfl rfl rfl rfl (.inl rfl) ?_
              conv => whnf
              refine CallsF.call [0, 1, 2, 3] [] (count1_spec _ _ _ _ _ _) rfl rfl rfl rfl rfl (.inl rfl) ?_
              conv => whnf
              refine ⟨.inl ⟨_, rfl⟩, ?_⟩
              conv => whnf
              rw [show (((e.n : Nat) : Int) != ((e.n : Nat) : Int)) = false by simp]
              conv => whnf
              rw [inc_natH (by omega)]
              refine ⟨(l.length - (i + 1)), [3, 7, 8, 9, 36, 37, 38], [0, 1, 2, 3, 4, 5, 6], [], by omega, rfl, ?_⟩
              conv => whnf
              refine ⟨i + 1, by omega, by omega, ?_⟩
              rw [hnext]
              exact .inr ⟨hb, rfl⟩
      · rw [show decide (((i : Nat) : Int) ≥ 40) = true from decide_eq_true (by omega)]
        conv => whnf
        refine CallsF.call [0, 1, 2, 3] [] (bytes1R_spec e hb hok.1) rfl rfl rfl rfl rfl (.inl rfl) ?_
        conv => whnf
        refine CallsF.call [4, 5] [] (rbytes_spec e hok.1) rfl rfl rfl rfl rfl (.inl rfl) ?_
        conv => whnf
        refine ⟨.inl ⟨_, rfl⟩, ?_⟩
        conv => whnf
        rw [str_selfH (strOfNums e.bytes)]
        conv => whnf
        refine CallsF.call [0, 1, 2, 3] [] (chances1_spec _ _ _ _ _ _ hpne (by omega)) rfl rfl rfl rfl rfl (.inl rfl) ?_
        conv => whnf
        refine ⟨.inl ⟨_, rfl⟩, ?_⟩
        conv => whnf
        refine CallsF.call [] [5] (same_spec e.p ((e.p.drop 0).take e.p.length) (by omega)) rfl rfl rfl rfl rfl (.inr rfl) ?_
        conv => whnf
        rw [decide_eq_true (take_allH e.p).symm]
        exact ⟨[], [], rfl, rfl, rfl⟩
    · have hd := of_decide_eq_false hd
      conv => whnf
      refine CallsF.call [0, 1, 2, 3] [] (bytes1R_spec e hb hok.1) rfl rfl rfl rfl rfl (.inl rfl) ?_
      conv => whnf
      refine CallsF.call [4, 5] [] (rbytes_spec e hok.1) rfl rfl rfl rfl rfl (.inl rfl) ?_
      conv => whnf
      refine ⟨.inl ⟨_, rfl⟩, ?_⟩
      conv => whnf
      rw [str_selfH (strOfNums e.bytes)]
      conv => whnf
      refine CallsF.call [0, 1, 2, 3] [] (chances1_spec _ _ _ _ _ _ hpne (by omega)) rfl rfl rfl rfl rfl (.inl rfl) ?_
      conv => whnf
      refine ⟨.inl ⟨_, rfl⟩, ?_⟩
      conv => whnf
      refine CallsF.call [] [5] (same_spec e.p ((e.p.drop 0).take e.p.length) (by omega)) rfl rfl rfl rfl rfl (.inr rfl) ?_
      conv => whnf
      rw [decide_eq_true (take_allH e.p).symm]
      exact ⟨[], [], rfl, rfl, rfl⟩

end Go.Proofs.TrydN

