/- Layer 6: BinsBack: the walk. -/
import Derived.Test.YtamgmfinkgdkjaaDoorN6E
namespace Go.Proofs.TrydN
open Go Go.AL Go.Proofs

theorem inc_natB {n : Nat} (h : n < 9223372036854775807) : IntKind.wrap .i64 ((n : Int) + 1) = ((n + 1 : Nat) : Int) := by rw [wrap_id (by omega) (by omega)]; rfl
/-- The numbers that were put. -/
def takenB (a : Int) (l : List Int) (i : Nat) : List Int := (l.take (min i 60)).filter fun v => mayS [0, 1, 2] a 5 6 v
theorem takenB_has {a : Int} {l : List Int} {i : Nat} : ∀ x ∈ takenB a l i, mayS [0, 1, 2] a 5 6 x = true := fun _ hx => (List.mem_filter.1 hx).2
theorem takenB_len (a : Int) (l : List Int) (i : Nat) : (takenB a l i).length ≤ 60 := by
  unfold takenB
  have h1 := List.length_filter_le (fun v => mayS [0, 1, 2] a 5 6 v) (l.take (min i 60))
  have h2 := List.length_take_le (min i 60) l
  omega
theorem takenB_stay {a : Int} {l : List Int} {i : Nat} (h : 60 ≤ i) : takenB a l (i + 1) = takenB a l i := by
  unfold takenB; rw [Nat.min_eq_right (by omega), Nat.min_eq_right h]
theorem takenB_no {a : Int} {l : List Int} {i : Nat} (h : i < l.length) (hh : mayS [0, 1, 2] a 5 6 l[i] = false) : takenB a l (i + 1) = takenB a l i := by
  by_cases hi : i < 60
  · unfold takenB
    rw [Nat.min_eq_left (by omega), Nat.min_eq_left (by omega), List.take_succ_eq_append_getElem h, List.filter_append]
    simp [hh]
  · exact takenB_stay (by omega)
theorem takenB_yes {a : Int} {l : List Int} {i : Nat} (h : i < l.length) (hi : i < 60) (hh : mayS [0, 1, 2] a 5 6 l[i] = true) : takenB a l (i + 1) = takenB a l i ++ [l[i]] := by
  unfold takenB
  rw [Nat.min_eq_left (by omega), Nat.min_eq_left (by omega), List.take_succ_eq_append_getElem h, List.filter_append]
  simp [hh]

/-- All bits. -/
def bitsQ (a : Int) (q : List Int) : List (Int × Bool) := q.flatMap (stepsS [0, 1, 2] a 5)
theorem bitsQ_snoc (a : Int) (q : List Int) (v : Int) : bitsQ a (q ++ [v]) = bitsQ a q ++ stepsS [0, 1, 2] a 5 v := by simp [bitsQ]
theorem enc_next (a : Int) (q : List Int) (v : Int) : encF (encL 6 (bitsQ a q)) (stepsS [0, 1, 2] a 5 v) = encL 6 (bitsQ a (q ++ [v])) :=
  (encF_app (Enc.new 6) (bitsQ a q) _).symm.trans (by rw [← bitsQ_snoc]; rfl)
theorem mayS_abs {f : List Int} {d g : Int} {n : Nat} {v : Int} (h : mayS f d g n v = true) : v.natAbs ≤ 2199023255550 ∧ rightN f d g n = true := by
  simp [mayS, mayN] at h
  exact ⟨by omega, h.2.2⟩
theorem bitsQ_len {a : Int} : ∀ {q : List Int}, (∀ x ∈ q, mayS [0, 1, 2] a 5 6 x = true) → (bitsQ a q).length ≤ 81 * q.length
  | [], _ => by simp [bitsQ]
  | x :: q, h => by
    have h1 := stepsS_len [0, 1, 2] a 5 (mayS_abs (h x (by simp))).1
    have h2 := bitsQ_len (q := q) fun y hy => h y (by simp [hy])
    show (stepsS [0, 1, 2] a 5 x ++ bitsQ a q).length ≤ _
    rw [List.length_append, List.length_cons]; omega
theorem bitsQ_has {a : Int} {q : List Int} (h : ∀ x ∈ q, mayS [0, 1, 2] a 5 6 x = true) : ∀ x ∈ bitsQ a q, hasN 6 x.1 = true := by
  intro x hx
  unfold bitsQ at hx
  rw [List.mem_flatMap] at hx
  obtain ⟨v, hv, hx⟩ := hx
  rw [hasN_K]
  exact steps_has (mayS_abs (h v hv)).2 v x hx
theorem right6 {x : Int} (h0 : 0 ≤ x) (h1 : x ≤ 5) : rightN [0, 1, 2] x 5 6 = true := by
  simp [rightN, hasK]; omega

/-- One number behind another is told. -/
theorem told_one {a : Int} {D : Dec} {q : List Int} (hq : ∀ x ∈ q, mayS [0, 1, 2] a 5 6 x = true) (ht : Tells D (bitsQ a q)) {j : Nat} (hj : j < q.length) (hp : (decF D (bitsQ a (q.take j))).p.length = 6) :
    (decF D (bitsQ a (q.take j))).sgnN [0, 1, 2] a 5 = (q[j], decF D (bitsQ a (q.take (j + 1)))) := by
  have e : bitsQ a q = bitsQ a (q.take j) ++ (stepsS [0, 1, 2] a 5 q[j] ++ bitsQ a (q.drop (j + 1))) := by
    have : q = q.take j ++ (q[j] :: q.drop (j + 1)) := by rw [← List.drop_eq_getElem_cons hj, List.take_append_drop]
    conv => lhs; rw [this]
    unfold bitsQ
    rw [List.flatMap_append, List.flatMap_cons]
  have hm := mayS_abs (hq q[j] (List.getElem_mem _))
  rw [e, tells_app, tells_app] at ht
  have := sgn_told (D := decF D (bitsQ a (q.take j))) (by rw [hp]; exact hm.2) hm.1 ht.2.1
  rw [this, List.take_succ_eq_append_getElem hj, bitsQ_snoc, decF_app]

/-- Where an encoder, the set and what was put stand. -/
def stB (a : Int) (l : List Int) (q : List Int) (i : Nat) (st : St) : Prop :=
  let tm := fun (s p : AV) => [(5, s), (6, AV.bp 0 0), (7, p), (21, AV.ri .i64 l), (22, iv l.length), (23, iv i)]
  (q = [] ∧ (encL 6 (bitsQ a q)).bits = [] ∧ st = ⟨tm (.bp 3 0) .snil, hE0 (encL 6 (bitsQ a q)) ++ [bxS [0, 1, 2] a 5], 4, 0⟩) ∨
  (q ≠ [] ∧ (encL 6 (bitsQ a q)).bits = [] ∧ st = ⟨tm (.bp 3 0) (.sl 4 0 q.length), hE0 (encL 6 (bitsQ a q)) ++ [bxS [0, 1, 2] a 5, some (.ia .i64 q)], 5, 0⟩) ∨
  (q ≠ [] ∧ (encL 6 (bitsQ a q)).bits ≠ [] ∧ st = ⟨tm (.bp 4 0) (.sl 5 0 q.length), hE1 (encL 6 (bitsQ a q)) ++ [bxS [0, 1, 2] a 5, some (.ia .i64 q)], 6, 0⟩)

set_option maxRecDepth 10000 in
set_option maxHeartbeats 2000000 in
theorem bback_spec (x : Int) (hx0 : 0 ≤ x) (hx1 : x ≤ 255) (l : List Int) (hlv : ∀ v ∈ l, -9223372036854775808 ≤ v ∧ v ≤ 9223372036854775807) (_hl : l.length ≤ 9223372036854775807) : CallsF Tryd.prog 10 [.ri .i64 l, .int .u8 x] [] (.bool true) [] := by
  obtain ⟨a, ha⟩ : ∃ a : Int, a = x % 6 := ⟨_, rfl⟩
  have hr := right6 (x := a) (by omega) (by omega)
  refine e10 ?_
  conv => whnf
  refine CallsF.call [] [] (first6_spec) rfl rfl rfl rfl rfl (.inl rfl) ?_
  conv => whnf
  have ew : IntKind.wrap .i64 (x.tmod 6) = a := by
    rw [Int.tmod_eq_emod_of_nonneg hx0, wrap_id (by omega) (by omega), ha]
  rw [ew]
  refine CallsA.frz [0] ?_
  conv => whnf
  refine CallsF.call [] [] (newE_spec 6) rfl rfl rfl rfl rfl (.inl rfl) ?_
  conv => whnf
  refine LoopA.inv (fun k st => ∃ i : Nat, i + k = l.length ∧ stB a l (takenB a l i) i st) l.length [5, 6, 7, 21, 22, 23] [2, 3, 4, 1] [] (by rfl) ?_ ?_
  · conv => whnf
    refine ⟨0, by omega, .inl ⟨by simp [takenB], by simp [takenB, bitsQ, encL, Enc.new], ?_⟩⟩
    rw [show takenB a l 0 = [] by simp [takenB]]
    rfl
  rintro k st ⟨i, hi, hst⟩
  obtain ⟨q, hq⟩ : ∃ q, takenB a l i = q := ⟨_, rfl⟩
  have hql : q.length ≤ 60 := by rw [← hq]; exact takenB_len a l i
  have hqm : ∀ x ∈ q, mayS [0, 1, 2] a 5 6 x = true := by rw [← hq]; exact takenB_has
  have hbq := bitsQ_len hqm
  have hok := encL_ok 6 (bitsQ a q) (by omega)
  have hp6 : (encL 6 (bitsQ a q)).p.length = 6 := hok.2.1
  have hpne : (encL 6 (bitsQ a q)).p ≠ [] := fun h => by rw [h] at hp6; cases hp6
  rw [hq] at hst
  rcases hst with ⟨hq0, hb, rfl⟩ | ⟨hq0, hb, rfl⟩ | ⟨hq0, hb, rfl⟩
  · conv => whnf
    refine ifB_of (fun hd => ?_) (fun hd => ?_)
    · have hd : i < l.length := by have := of_decide_eq_true hd; omega
      have hg : l.getD i 0 = l[i] := by simp [List.getD, hd]
      conv => whnf
      refine need_of ((decide_eq_true ⟨by omega, by omega⟩)) ?_
      conv => whnf
      rw [Int.toNat_natCast, hg]
      by_cases h4 : i < 60
      · rw [show decide (((i : Nat) : Int) < 60) = true from decide_eq_true (by omega)]
        have sp := bputs0_spec (encL 6 (bitsQ a q)) hb hok.1 (by omega) hpne (by omega) (f := [0, 1, 2]) (by decide) a 5 l[i] (hlv _ (List.getElem_mem _)).2
        unfold Enc.putS at sp
        rw [hp6] at sp
        conv => whnf
        cases hh : mayS [0, 1, 2] a 5 6 l[i]
        · rw [hh] at sp
          simp only at sp
          rw [hP0_nil hb] at sp
          refine CallsF.call [0, 1, 2] [] (sp) rfl rfl rfl rfl rfl (.inl rfl) ?_
          conv => whnf
          rw [inc_natB (by omega)]
          refine ⟨(l.length - (i + 1)), [5, 6, 7, 21, 22, 23], [0, 1, 2, 3], [], by omega, rfl, ?_⟩
          conv => whnf
          refine ⟨i + 1, by omega, ?_⟩
          rw [takenB_no hd hh, hq]
          exact .inl ⟨hq0, hb, rfl⟩
        · rw [hh] at sp
          simp only at sp
          rw [enc_next a q l[i]] at sp
          subst hq0
          by_cases hb2 : (encL 6 (bitsQ a ([] ++ [l[i]]))).bits = []
          · rw [hP0_nil hb2] at sp
            refine CallsF.call [0, 1, 2] [] (sp) rfl rfl rfl rfl rfl (.inl rfl) ?_
            conv => whnf
            rw [inc_natB (by omega)]
            refine ⟨(l.length - (i + 1)), [5, 6, 7, 21, 22, 23], [0, 1, 2, 3, 5], [], by omega, rfl, ?_⟩
            conv => whnf
            refine ⟨i + 1, by omega, ?_⟩
            rw [takenB_yes hd h4 hh, hq]
            exact .inr (.inl ⟨by simp, hb2, rfl⟩)
          · rw [hP0_app hb2] at sp
            refine CallsF.call [0, 1, 2] [] (sp) rfl rfl rfl rfl rfl (.inl rfl) ?_
            conv => whnf
            rw [inc_natB (by omega)]
            refine ⟨(l.length - (i + 1)), [5, 6, 7, 21, 22, 23], [0, 1, 2, 4, 3, 6], [], by omega, rfl, ?_⟩
            conv => whnf
            refine ⟨i + 1, by omega, ?_⟩
            rw [takenB_yes hd h4 hh, hq]
            exact .inr (.inr ⟨by simp, hb2, rfl⟩)
      · rw [show decide (((i : Nat) : Int) < 60) = false from decide_eq_false (by omega)]
        conv => whnf
        rw [inc_natB (by omega)]
        refine ⟨(l.length - (i + 1)), [5, 6, 7, 21, 22, 23], [0, 1, 2, 3], [], by omega, rfl, ?_⟩
        conv => whnf
        refine ⟨i + 1, by omega, ?_⟩
        rw [takenB_stay (by omega), hq]
        exact .inl ⟨hq0, hb, rfl⟩
    · have hd := of_decide_eq_false hd
      obtain rfl : i = l.length := by omega
      have hbl : (encL 6 (bitsQ a q)).bytes.length < 4294967290 := by
        have h1 := trim_len (pack (encL 6 (bitsQ a q)).all)
        have h2 := hok.1.len
        have h3 := hok.2.2
        rw [pack_len, all_len] at h1
        unfold Enc.m at h1
        show (trim (pack (encL 6 (bitsQ a q)).all)).length < _
        omega
      have hkb : okB (encL 6 (bitsQ a q)).bytes := okB_trim (okB_pack _)
      have hcl := asB_bytes (encL 6 (bitsQ a q)).bytes
      have told := told_all (bs := (encL 6 (bitsQ a q)).bytes) (fun i => rd_trim (encL 6 (bitsQ a q)).all i) (c := 6) (q := bitsQ a q) (by omega) (bitsQ_has hqm) (fits_all hok.1)
      have tl := tells_of (bitsQ a q) (Dec.new (encL 6 (bitsQ a q)).bytes 6) fun j h => (told j (by omega)).2 h
      have hD0 : ∀ r : List (Int × Bool), r.length < 67108000 → _ := fun r hr => decL_ok hkb hbl 6 r hr
      have hen := encL_n 6 (bitsQ a q) (by omega) (bitsQ_has hqm)
      have nd := newD_spec hcl hkb hbl 6
      have by0 := bytes0_spec (encL 6 (bitsQ a q)) hb hok.1
      obtain ⟨D0, hDe⟩ : ∃ D0, D0 = Dec.new (encL 6 (bitsQ a q)).bytes 6 := ⟨_, rfl⟩
      replace nd : CallsF Tryd.prog 21 [bytesV (encL 6 (bitsQ a q)).bytes, iv 6] [] (.bp 0 0) (hD D0) := by rw [hDe]; exact nd
      have hdj : ∀ j, okD (decF D0 (bitsQ a (q.take j))) ∧ (decF D0 (bitsQ a (q.take j))).p.length = 6 ∧ (decF D0 (bitsQ a (q.take j))).n = (bitsQ a (q.take j)).length := fun j => by
        have hm : ∀ x ∈ q.take j, mayS [0, 1, 2] a 5 6 x = true := fun x hx => hqm x (List.mem_of_mem_take hx)
        have hl1 := bitsQ_len hm
        have hl2 : (q.take j).length ≤ q.length := by rw [List.length_take]; omega
        have h0 := hD0 (bitsQ a (q.take j)) (by omega)
        rw [hDe, decF_L]
        exact ⟨h0.1, h0.2.1, h0.2.2.2 (bitsQ_has hm)⟩
      rw [← hDe] at tl
      conv => whnf
      refine CallsF.callV [0, 1, 2] [] (by0) hcl.cl rfl rfl rfl rfl rfl (.inl rfl) ?_
      conv => whnf
      refine CallsF.call [] [] (nd) ?_ rfl rfl rfl rfl (.inl rfl) ?_
      · exact mapO_one hcl.cl rfl
      conv => whnf
      refine LoopA.inv (fun k st => ∃ j : Nat, j + k = q.length ∧ st = ⟨[(5, .bp 3 0), (6, .bp 0 0), (10, .bp 4 0), (44, .snil), (45, iv q.length), (46, iv j)], hE0 (encL 6 (bitsQ a q)) ++ [bxS [0, 1, 2] a 5, dB 4 (decF D0 (bitsQ a (q.take j))), pD (decF D0 (bitsQ a (q.take j))).p, rB (decF D0 (bitsQ a (q.take j))).src (decF D0 (bitsQ a (q.take j))).pos (decF D0 (bitsQ a (q.take j))).over], 7, 0⟩) q.length [5, 6, 10, 44, 45, 46] [0, 1, 2, 3, 4, 5, 6] [] (by rfl) ?_ ?_
      · conv => whnf
        exact ⟨0, by omega, by subst hq0; rfl⟩
      rintro k2 st ⟨j, hj, rfl⟩
      conv => whnf
      refine ifB_of (fun hd2 => ?_) (fun hd2 => ?_)
      · have hd2 : j < q.length := by have := of_decide_eq_true hd2; omega
        exact absurd hd2 (by rw [hq0]; simp)
      · have hd2 := of_decide_eq_false hd2
        obtain rfl : j = q.length := by omega
        obtain ⟨k1, k2, k3⟩ := hdj q.length
        rw [List.take_length] at k3 ⊢
        conv => whnf
        refine CallsF.call [4, 5, 6] [] (count2_spec _ _ _ _ _ _ _ _) rfl rfl rfl rfl rfl (.inl rfl) ?_
        conv => whnf
        refine CallsF.call [0, 1, 2] [] (count0_spec _ _ _ _ _) rfl rfl rfl rfl rfl (.inl rfl) ?_
        conv => whnf
        refine ⟨[], [], rfl, congrArg AV.bool ?_, rfl⟩
        rw [k3, hen]
        exact beq_self_eq_true _
  · conv => whnf
    refine ifB_of (fun hd => ?_) (fun hd => ?_)
    · have hd : i < l.length := by have := of_decide_eq_true hd; omega
      have hg : l.getD i 0 = l[i] := by simp [List.getD, hd]
      conv => whnf
      refine need_of ((decide_eq_true ⟨by omega, by omega⟩)) ?_
      conv => whnf
      rw [Int.toNat_natCast, hg]
      by_cases h4 : i < 60
      · rw [show decide (((i : Nat) : Int) < 60) = true from decide_eq_true (by omega)]
        have sp := bputs0_spec (encL 6 (bitsQ a q)) hb hok.1 (by omega) hpne (by omega) (f := [0, 1, 2]) (by decide) a 5 l[i] (hlv _ (List.getElem_mem _)).2
        unfold Enc.putS at sp
        rw [hp6] at sp
        conv => whnf
        cases hh : mayS [0, 1, 2] a 5 6 l[i]
        · rw [hh] at sp
          simp only at sp
          rw [hP0_nil hb] at sp
          refine CallsF.call [0, 1, 2] [] (sp) rfl rfl rfl rfl rfl (.inl rfl) ?_
          conv => whnf
          rw [inc_natB (by omega)]
          refine ⟨(l.length - (i + 1)), [5, 6, 7, 21, 22, 23], [0, 1, 2, 3, 4], [], by omega, rfl, ?_⟩
          conv => whnf
          refine ⟨i + 1, by omega, ?_⟩
          rw [takenB_no hd hh, hq]
          exact .inr (.inl ⟨hq0, hb, rfl⟩)
        · rw [hh] at sp
          simp only at sp
          rw [enc_next a q l[i]] at sp
          by_cases hb2 : (encL 6 (bitsQ a (q ++ [l[i]]))).bits = []
          · rw [hP0_nil hb2] at sp
            refine CallsF.call [0, 1, 2] [] (sp) rfl rfl rfl rfl rfl (.inl rfl) ?_
            conv => whnf
            refine need_of ((decide_eq_true ⟨by simp, show (8 + 1) * (q.length + 1) ≤ 2 ^ 46 by omega⟩)) ?_
            conv => whnf
            rw [inc_natB (by omega)]
            refine ⟨(l.length - (i + 1)), [5, 6, 7, 21, 22, 23], [0, 1, 2, 3, 6], [], by omega, rfl, ?_⟩
            conv => whnf
            refine ⟨i + 1, by omega, ?_⟩
            rw [takenB_yes hd h4 hh, hq]
            refine .inr (.inl ⟨by simp, hb2, ?_⟩)
            rw [List.length_append]
            rfl
          · rw [hP0_app hb2] at sp
            refine CallsF.call [0, 1, 2] [] (sp) rfl rfl rfl rfl rfl (.inl rfl) ?_
            conv => whnf
            refine need_of ((decide_eq_true ⟨by simp, show (8 + 1) * (q.length + 1) ≤ 2 ^ 46 by omega⟩)) ?_
            conv => whnf
            rw [inc_natB (by omega)]
            refine ⟨(l.length - (i + 1)), [5, 6, 7, 21, 22, 23], [0, 1, 2, 5, 3, 7], [], by omega, rfl, ?_⟩
            conv => whnf
            refine ⟨i + 1, by omega, ?_⟩
            rw [takenB_yes hd h4 hh, hq]
            refine .inr (.inr ⟨by simp, hb2, ?_⟩)
            rw [List.length_append]
            rfl
      · rw [show decide (((i : Nat) : Int) < 60) = false from decide_eq_false (by omega)]
        conv => whnf
        rw [inc_natB (by omega)]
        refine ⟨(l.length - (i + 1)), [5, 6, 7, 21, 22, 23], [0, 1, 2, 3, 4], [], by omega, rfl, ?_⟩
        conv => whnf
        refine ⟨i + 1, by omega, ?_⟩
        rw [takenB_stay (by omega), hq]
        exact .inr (.inl ⟨hq0, hb, rfl⟩)
    · have hd := of_decide_eq_false hd
      obtain rfl : i = l.length := by omega
      have hbl : (encL 6 (bitsQ a q)).bytes.length < 4294967290 := by
        have h1 := trim_len (pack (encL 6 (bitsQ a q)).all)
        have h2 := hok.1.len
        have h3 := hok.2.2
        rw [pack_len, all_len] at h1
        unfold Enc.m at h1
        show (trim (pack (encL 6 (bitsQ a q)).all)).length < _
        omega
      have hkb : okB (encL 6 (bitsQ a q)).bytes := okB_trim (okB_pack _)
      have hcl := asB_bytes (encL 6 (bitsQ a q)).bytes
      have told := told_all (bs := (encL 6 (bitsQ a q)).bytes) (fun i => rd_trim (encL 6 (bitsQ a q)).all i) (c := 6) (q := bitsQ a q) (by omega) (bitsQ_has hqm) (fits_all hok.1)
      have tl := tells_of (bitsQ a q) (Dec.new (encL 6 (bitsQ a q)).bytes 6) fun j h => (told j (by omega)).2 h
      have hD0 : ∀ r : List (Int × Bool), r.length < 67108000 → _ := fun r hr => decL_ok hkb hbl 6 r hr
      have hen := encL_n 6 (bitsQ a q) (by omega) (bitsQ_has hqm)
      have nd := newD_spec hcl hkb hbl 6
      have by0 := bytes0_spec (encL 6 (bitsQ a q)) hb hok.1
      obtain ⟨D0, hDe⟩ : ∃ D0, D0 = Dec.new (encL 6 (bitsQ a q)).bytes 6 := ⟨_, rfl⟩
      replace nd : CallsF Tryd.prog 21 [bytesV (encL 6 (bitsQ a q)).bytes, iv 6] [] (.bp 0 0) (hD D0) := by rw [hDe]; exact nd
      have hdj : ∀ j, okD (decF D0 (bitsQ a (q.take j))) ∧ (decF D0 (bitsQ a (q.take j))).p.length = 6 ∧ (decF D0 (bitsQ a (q.take j))).n = (bitsQ a (q.take j)).length := fun j => by
        have hm : ∀ x ∈ q.take j, mayS [0, 1, 2] a 5 6 x = true := fun x hx => hqm x (List.mem_of_mem_take hx)
        have hl1 := bitsQ_len hm
        have hl2 : (q.take j).length ≤ q.length := by rw [List.length_take]; omega
        have h0 := hD0 (bitsQ a (q.take j)) (by omega)
        rw [hDe, decF_L]
        exact ⟨h0.1, h0.2.1, h0.2.2.2 (bitsQ_has hm)⟩
      rw [← hDe] at tl
      conv => whnf
      refine CallsF.callV [0, 1, 2] [] (by0) hcl.cl rfl rfl rfl rfl rfl (.inl rfl) ?_
      conv => whnf
      refine CallsF.call [] [] (nd) ?_ rfl rfl rfl rfl (.inl rfl) ?_
      · exact mapO_one hcl.cl rfl
      conv => whnf
      refine LoopA.inv (fun k st => ∃ j : Nat, j + k = q.length ∧ st = ⟨[(5, .bp 3 0), (6, .bp 0 0), (10, .bp 4 0), (44, .ri .i64 ((q.drop 0).take q.length)), (45, iv q.length), (46, iv j)], hE0 (encL 6 (bitsQ a q)) ++ [bxS [0, 1, 2] a 5, dB 4 (decF D0 (bitsQ a (q.take j))), pD (decF D0 (bitsQ a (q.take j))).p, rB (decF D0 (bitsQ a (q.take j))).src (decF D0 (bitsQ a (q.take j))).pos (decF D0 (bitsQ a (q.take j))).over], 7, 0⟩) q.length [5, 6, 10, 44, 45, 46] [0, 1, 2, 3, 5, 6, 7] [4] (by rfl) ?_ ?_
      · conv => whnf
        exact ⟨0, by omega, rfl⟩
      rintro k2 st ⟨j, hj, rfl⟩
      conv => whnf
      refine ifB_of (fun hd2 => ?_) (fun hd2 => ?_)
      · have hd2 : j < q.length := by have := of_decide_eq_true hd2; omega
        have hqd : (q.drop 0).take q.length = q := by rw [List.drop_zero, List.take_length]
        have hgq : ((q.drop 0).take q.length).getD j 0 = q[j] := by rw [hqd]; simp [List.getD, hd2]
        obtain ⟨k1, k2, k3⟩ := hdj j
        have hl3 := bitsQ_len (q := q.take j) (a := a) fun x hx => hqm x (List.mem_of_mem_take hx)
        have hl4 : (q.take j).length ≤ q.length := by rw [List.length_take]; omega
        have t1 := told_one (D := D0) hqm tl hd2 k2
        have sp := bgets_spec (decF D0 (bitsQ a (q.take j))) k1 (by omega) (fun h => by rw [h] at k2; cases k2) (by omega) (f := [0, 1, 2]) (by decide) a 5
        rw [t1] at sp
        simp only at sp
        conv => whnf
        refine need_of ((decide_eq_true ⟨by omega, by rw [hqd]; omega⟩)) ?_
        conv => whnf
        rw [Int.toNat_natCast, hgq]
        refine CallsF.call [4, 5, 6] [] (sp) rfl rfl rfl rfl rfl (.inl rfl) ?_
        conv => whnf
        rw [show (q[j] != q[j]) = false from by simp]
        conv => whnf
        rw [inc_natB (by omega)]
        refine ⟨(q.length - (j + 1)), [5, 6, 10, 44, 45, 46], [0, 1, 2, 3, 4, 5, 6], [], by omega, rfl, ?_⟩
        conv => whnf
        exact ⟨j + 1, by omega, rfl⟩
      · have hd2 := of_decide_eq_false hd2
        obtain rfl : j = q.length := by omega
        obtain ⟨k1, k2, k3⟩ := hdj q.length
        rw [List.take_length] at k3 ⊢
        conv => whnf
        refine CallsF.call [4, 5, 6] [] (count2_spec _ _ _ _ _ _ _ _) rfl rfl rfl rfl rfl (.inl rfl) ?_
        conv => whnf
        refine CallsF.call [0, 1, 2] [] (count0_spec _ _ _ _ _) rfl rfl rfl rfl rfl (.inl rfl) ?_
        conv => whnf
        refine ⟨[], [], rfl, congrArg AV.bool ?_, rfl⟩
        rw [k3, hen]
        exact beq_self_eq_true _
  · conv => whnf
    refine ifB_of (fun hd => ?_) (fun hd => ?_)
    · have hd : i < l.length := by have := of_decide_eq_true hd; omega
      have hg : l.getD i 0 = l[i] := by simp [List.getD, hd]
      conv => whnf
      refine need_of ((decide_eq_true ⟨by omega, by omega⟩)) ?_
      conv => whnf
      rw [Int.toNat_natCast, hg]
      by_cases h4 : i < 60
      · rw [show decide (((i : Nat) : Int) < 60) = true from decide_eq_true (by omega)]
        have sp := bputs1_spec (encL 6 (bitsQ a q)) hb hok.1 (by omega) hpne (by omega) (f := [0, 1, 2]) (by decide) a 5 l[i] (hlv _ (List.getElem_mem _)).2
        unfold Enc.putS at sp
        rw [hp6] at sp
        conv => whnf
        cases hh : mayS [0, 1, 2] a 5 6 l[i]
        · rw [hh] at sp
          simp only at sp

          refine CallsF.call [0, 1, 2, 3] [] (sp) rfl rfl rfl rfl rfl (.inl rfl) ?_
          conv => whnf
          rw [inc_natB (by omega)]
          refine ⟨(l.length - (i + 1)), [5, 6, 7, 21, 22, 23], [0, 1, 2, 6, 4, 5], [], by omega, rfl, ?_⟩
          conv => whnf
          refine ⟨i + 1, by omega, ?_⟩
          rw [takenB_no hd hh, hq]
          exact .inr (.inr ⟨hq0, hb, rfl⟩)
        · rw [hh] at sp
          simp only at sp
          rw [enc_next a q l[i]] at sp
          have hb2 : (encL 6 (bitsQ a (q ++ [l[i]]))).bits ≠ [] := by rw [← enc_next]; exact encF_bits hb _
          refine CallsF.call [0, 1, 2, 3] [] (sp) rfl rfl rfl rfl rfl (.inl rfl) ?_
          conv => whnf
          refine need_of ((decide_eq_true ⟨by simp, show (8 + 1) * (q.length + 1) ≤ 2 ^ 46 by omega⟩)) ?_
          conv => whnf
          rw [inc_natB (by omega)]
          refine ⟨(l.length - (i + 1)), [5, 6, 7, 21, 22, 23], [0, 1, 2, 6, 4, 8], [], by omega, rfl, ?_⟩
          conv => whnf
          refine ⟨i + 1, by omega, ?_⟩
          rw [takenB_yes hd h4 hh, hq]
          refine .inr (.inr ⟨by simp, hb2, ?_⟩)
          rw [List.length_append]
          rfl
      · rw [show decide (((i : Nat) : Int) < 60) = false from decide_eq_false (by omega)]
        conv => whnf
        rw [inc_natB (by omega)]
        refine ⟨(l.length - (i + 1)), [5, 6, 7, 21, 22, 23], [0, 1, 2, 3, 4, 5], [], by omega, rfl, ?_⟩
        conv => whnf
        refine ⟨i + 1, by omega, ?_⟩
        rw [takenB_stay (by omega), hq]
        exact .inr (.inr ⟨hq0, hb, rfl⟩)
    · have hd := of_decide_eq_false hd
      obtain rfl : i = l.length := by omega
      have hbl : (encL 6 (bitsQ a q)).bytes.length < 4294967290 := by
        have h1 := trim_len (pack (encL 6 (bitsQ a q)).all)
        have h2 := hok.1.len
        have h3 := hok.2.2
        rw [pack_len, all_len] at h1
        unfold Enc.m at h1
        show (trim (pack (encL 6 (bitsQ a q)).all)).length < _
        omega
      have hkb : okB (encL 6 (bitsQ a q)).bytes := okB_trim (okB_pack _)
      have hcl := asB_bytes (encL 6 (bitsQ a q)).bytes
      have told := told_all (bs := (encL 6 (bitsQ a q)).bytes) (fun i => rd_trim (encL 6 (bitsQ a q)).all i) (c := 6) (q := bitsQ a q) (by omega) (bitsQ_has hqm) (fits_all hok.1)
      have tl := tells_of (bitsQ a q) (Dec.new (encL 6 (bitsQ a q)).bytes 6) fun j h => (told j (by omega)).2 h
      have hD0 : ∀ r : List (Int × Bool), r.length < 67108000 → _ := fun r hr => decL_ok hkb hbl 6 r hr
      have hen := encL_n 6 (bitsQ a q) (by omega) (bitsQ_has hqm)
      have nd := newD_spec hcl hkb hbl 6
      have by0 := bytes1_spec (encL 6 (bitsQ a q)) hb hok.1
      obtain ⟨D0, hDe⟩ : ∃ D0, D0 = Dec.new (encL 6 (bitsQ a q)).bytes 6 := ⟨_, rfl⟩
      replace nd : CallsF Tryd.prog 21 [bytesV (encL 6 (bitsQ a q)).bytes, iv 6] [] (.bp 0 0) (hD D0) := by rw [hDe]; exact nd
      have hdj : ∀ j, okD (decF D0 (bitsQ a (q.take j))) ∧ (decF D0 (bitsQ a (q.take j))).p.length = 6 ∧ (decF D0 (bitsQ a (q.take j))).n = (bitsQ a (q.take j)).length := fun j => by
        have hm : ∀ x ∈ q.take j, mayS [0, 1, 2] a 5 6 x = true := fun x hx => hqm x (List.mem_of_mem_take hx)
        have hl1 := bitsQ_len hm
        have hl2 : (q.take j).length ≤ q.length := by rw [List.length_take]; omega
        have h0 := hD0 (bitsQ a (q.take j)) (by omega)
        rw [hDe, decF_L]
        exact ⟨h0.1, h0.2.1, h0.2.2.2 (bitsQ_has hm)⟩
      rw [← hDe] at tl
      conv => whnf
      refine CallsF.callV [0, 1, 2, 3] [] (by0) hcl.cl rfl rfl rfl rfl rfl (.inl rfl) ?_
      conv => whnf
      refine CallsF.call [] [] (nd) ?_ rfl rfl rfl rfl (.inl rfl) ?_
      · exact mapO_one hcl.cl rfl
      conv => whnf
      refine LoopA.inv (fun k st => ∃ j : Nat, j + k = q.length ∧ st = ⟨[(5, .bp 4 0), (6, .bp 0 0), (10, .bp 5 0), (44, .ri .i64 ((q.drop 0).take q.length)), (45, iv q.length), (46, iv j)], hE1 (encL 6 (bitsQ a q)) ++ [bxS [0, 1, 2] a 5, dB 5 (decF D0 (bitsQ a (q.take j))), pD (decF D0 (bitsQ a (q.take j))).p, rB (decF D0 (bitsQ a (q.take j))).src (decF D0 (bitsQ a (q.take j))).pos (decF D0 (bitsQ a (q.take j))).over], 8, 0⟩) q.length [5, 6, 10, 44, 45, 46] [0, 1, 2, 3, 4, 6, 7, 8] [5] (by rfl) ?_ ?_
      · conv => whnf
        exact ⟨0, by omega, rfl⟩
      rintro k2 st ⟨j, hj, rfl⟩
      conv => whnf
      refine ifB_of (fun hd2 => ?_) (fun hd2 => ?_)
      · have hd2 : j < q.length := by have := of_decide_eq_true hd2; omega
        have hqd : (q.drop 0).take q.length = q := by rw [List.drop_zero, List.take_length]
        have hgq : ((q.drop 0).take q.length).getD j 0 = q[j] := by rw [hqd]; simp [List.getD, hd2]
        obtain ⟨k1, k2, k3⟩ := hdj j
        have hl3 := bitsQ_len (q := q.take j) (a := a) fun x hx => hqm x (List.mem_of_mem_take hx)
        have hl4 : (q.take j).length ≤ q.length := by rw [List.length_take]; omega
        have t1 := told_one (D := D0) hqm tl hd2 k2
        have sp := bgets_spec (decF D0 (bitsQ a (q.take j))) k1 (by omega) (fun h => by rw [h] at k2; cases k2) (by omega) (f := [0, 1, 2]) (by decide) a 5
        rw [t1] at sp
        simp only at sp
        conv => whnf
        refine need_of ((decide_eq_true ⟨by omega, by rw [hqd]; omega⟩)) ?_
        conv => whnf
        rw [Int.toNat_natCast, hgq]
        refine CallsF.call [5, 6, 7] [] (sp) rfl rfl rfl rfl rfl (.inl rfl) ?_
        conv => whnf
        rw [show (q[j] != q[j]) = false from by simp]
        conv => whnf
        rw [inc_natB (by omega)]
        refine ⟨(q.length - (j + 1)), [5, 6, 10, 44, 45, 46], [0, 1, 2, 3, 4, 5, 6, 7], [], by omega, rfl, ?_⟩
        conv => whnf
        exact ⟨j + 1, by omega, rfl⟩
      · have hd2 := of_decide_eq_false hd2
        obtain rfl : j = q.length := by omega
        obtain ⟨k1, k2, k3⟩ := hdj q.length
        rw [List.take_length] at k3 ⊢
        conv => whnf
        refine CallsF.call [5, 6, 7] [] (count2_spec _ _ _ _ _ _ _ _) rfl rfl rfl rfl rfl (.inl rfl) ?_
        conv => whnf
        refine CallsF.call [0, 1, 2, 3] [] (count1_spec _ _ _ _ _ _) rfl rfl rfl rfl rfl (.inl rfl) ?_
        conv => whnf
        refine ⟨[], [], rfl, congrArg AV.bool ?_, rfl⟩
        rw [k3, hen]
        exact beq_self_eq_true _

end Go.Proofs.TrydN

