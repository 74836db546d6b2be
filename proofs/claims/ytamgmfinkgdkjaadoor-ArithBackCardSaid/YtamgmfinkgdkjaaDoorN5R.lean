/- Layer 5: ArithBack: the walk. -/
import Derived.Test.YtamgmfinkgdkjaaDoorN5Q
namespace Go.Proofs.TrydN
open Go Go.AL Go.Proofs

theorem inc_natL {n : Nat} (h : n < 9223372036854775807) : IntKind.wrap .i64 ((n : Int) + 1) = ((n + 1 : Nat) : Int) := by rw [wrap_id (by omega) (by omega)]; rfl

def rowB (x : Int × Bool) : List AV := [iv x.1, .bool x.2]
def takenQ (c : Int) (l : List (Int × Bool)) (i : Nat) : List (Int × Bool) := (l.take (min i 400)).filter fun x => hasN c x.1
def wasR (c : Int) (q : List (Int × Bool)) : List (List AV) := (List.range q.length).map fun j => [AV.ri .i64 (encL c (q.take (j + 1))).p]
theorem takenQ_has {c : Int} {l : List (Int × Bool)} {i : Nat} : ∀ x ∈ takenQ c l i, hasN c x.1 = true := fun _ hx => (List.mem_filter.1 hx).2
theorem takenQ_len (c : Int) (l : List (Int × Bool)) (i : Nat) : (takenQ c l i).length ≤ 400 := by
  unfold takenQ
  have h1 := List.length_filter_le (fun x : Int × Bool => hasN c x.1) (l.take (min i 400))
  have h2 := List.length_take_le (min i 400) l
  omega
theorem takenQ_stay {c : Int} {l : List (Int × Bool)} {i : Nat} (h : 400 ≤ i) : takenQ c l (i + 1) = takenQ c l i := by
  unfold takenQ; rw [Nat.min_eq_right (by omega), Nat.min_eq_right h]
theorem takenQ_no {c : Int} {l : List (Int × Bool)} {i : Nat} (h : i < l.length) (hh : hasN c l[i].1 = false) : takenQ c l (i + 1) = takenQ c l i := by
  by_cases hi : i < 400
  · unfold takenQ
    rw [Nat.min_eq_left (by omega), Nat.min_eq_left (by omega), List.take_succ_eq_append_getElem h, List.filter_append]
    simp [hh]
  · exact takenQ_stay (by omega)
theorem takenQ_yes {c : Int} {l : List (Int × Bool)} {i : Nat} (h : i < l.length) (hi : i < 400) (hh : hasN c l[i].1 = true) : takenQ c l (i + 1) = takenQ c l i ++ [l[i]] := by
  unfold takenQ
  rw [Nat.min_eq_left (by omega), Nat.min_eq_left (by omega), List.take_succ_eq_append_getElem h, List.filter_append]
  simp [hh]
theorem wasR_snoc (c : Int) (q : List (Int × Bool)) (x : Int × Bool) : wasR c (q ++ [x]) = wasR c q ++ [[AV.ri .i64 (encL c (q ++ [x])).p]] := by
  unfold wasR
  rw [List.length_append, List.length_singleton, List.range_succ, List.map_append]
  congr 1
  · apply List.map_congr_left
    intro j hj
    rw [List.mem_range] at hj
    rw [List.take_append_of_le_length (by omega)]
  · simp [List.take_of_length_le]

theorem wasR_len (c : Int) (q : List (Int × Bool)) : (wasR c q).length = q.length := by simp [wasR]

/-- Where an encoder, what was put and the chances stand. -/
def stQ (c : Int) (l : List (Int × Bool)) (q : List (Int × Bool)) (i : Nat) (st : St) : Prop :=
  let tm := fun (p w : AV) => [(5, iv c), (6, AV.bp 0 0), (7, p), (8, w), (22, AV.ro 2 (l.map rowB)), (23, iv l.length), (24, iv i)]
  (q = [] ∧ (encL c q).bits = [] ∧ st = ⟨tm .snil .snil, hE0 (encL c q), 3, 0⟩) ∨
  (q ≠ [] ∧ (encL c q).bits = [] ∧ st = ⟨tm (.sl 3 0 q.length) (.sl 4 0 q.length), hE0 (encL c q) ++ [some (.arr 2 (q.map rowB)), some (.arr 1 (wasR c q))], 5, 0⟩) ∨
  (q ≠ [] ∧ (encL c q).bits ≠ [] ∧ st = ⟨tm (.sl 4 0 q.length) (.sl 5 0 q.length), hE1 (encL c q) ++ [some (.arr 2 (q.map rowB)), some (.arr 1 (wasR c q))], 6, 0⟩)

set_option maxRecDepth 10000 in
theorem back_spec (x : Int) (h0 : 0 ≤ x) (_ : x ≤ 255) (l : List (Int × Bool)) (hl : l.length ≤ 9223372036854775807) : CallsF Tryd.prog 5 [.int .u8 x, .ro 2 (l.map rowB)] [] (.bool true) [] := by
  obtain ⟨c, hc⟩ : ∃ c : Int, c = 1 + x % 64 := ⟨_, rfl⟩
  have hcN : ctxN c = c.toNat := by unfold ctxN; omega
  have hrow : ∀ i, (h : i < l.length) → nth (l.map rowB) ((i : Nat) : Int).toNat = some (rowB l[i]) := fun i h => by
    rw [Int.toNat_natCast, nth_get, List.getElem?_map, List.getElem?_eq_getElem h]; rfl
  refine e5 ?_
  conv => whnf
  refine CallsF.call [] [] (first5_spec) rfl rfl rfl rfl rfl (.inl rfl) ?_
  conv => whnf
  have ew : IntKind.wrap .i64 (1 + IntKind.wrap .i64 (x.tmod 64)) = c := by
    rw [Int.tmod_eq_emod_of_nonneg h0, wrap_id (n := x % 64) (by omega) (by omega), wrap_id (by omega) (by omega), hc]
  rw [ew]
  refine CallsF.call [] [] (newE_spec c) rfl rfl rfl rfl rfl (.inl rfl) ?_
  conv => whnf
  refine LoopA.inv (fun k st => ∃ i : Nat, i + k = l.length ∧ stQ c l (takenQ c l i) i st) l.length [5, 6, 7, 8, 22, 23, 24] [0, 1, 2] [] (by rfl) ?_ ?_
  · conv => whnf
    refine ⟨0, by omega, .inl ⟨by simp [takenQ], by simp [takenQ, encL, Enc.new], ?_⟩⟩
    rw [show takenQ c l 0 = [] by simp [takenQ]]
    simp only [List.length_map]
    rfl
  rintro k st ⟨i, hi, hst⟩
  obtain ⟨q, hq⟩ : ∃ q, takenQ c l i = q := ⟨_, rfl⟩
  have hql : q.length ≤ 400 := by rw [← hq]; exact takenQ_len c l i
  have hok := encL_ok c q (by omega)
  rw [hq] at hst
  rcases hst with ⟨hq0, hb, rfl⟩ | ⟨hq0, hb, rfl⟩ | ⟨hq0, hb, rfl⟩
  · conv => whnf
    refine ifB_of (fun hd => ?_) (fun hd => ?_)
    · have hd : i < l.length := by have := of_decide_eq_true hd; omega
      conv => whnf
      rw [aop_idxS_ro (hrow i hd) rfl rfl]
      conv => whnf
      by_cases h4 : i < 400
      · rw [show decide (((i : Nat) : Int) < 400) = true from decide_eq_true (by omega)]
        have sp := put0_spec (encL c q) hb hok.1 l[i].1 l[i].2
        conv => whnf
        cases hh : hasN c l[i].1
        · rw [hasC_N hok.2.1, hh, show (encL c q).put l[i].1 l[i].2 = encL c q by unfold Enc.put; rw [hasC_N hok.2.1, hh], hP0_nil hb] at sp
          refine CallsF.call [0, 1, 2] [] (sp) rfl rfl rfl rfl rfl (.inl rfl) ?_
          conv => whnf
          rw [inc_natL (by omega)]
          refine ⟨(l.length - (i + 1)), [5, 6, 7, 8, 22, 23, 24], [0, 1, 2], [], by omega, rfl, ?_⟩
          conv => whnf
          refine ⟨i + 1, by omega, ?_⟩
          rw [takenQ_no hd hh, hq]
          exact .inl ⟨hq0, hb, rfl⟩
        · rw [hasC_N hok.2.1, hh, ← encL_snoc] at sp
          have hok2 := encL_ok c (q ++ [l[i]]) (by simp; omega)
          have hpne : (encL c (q ++ [l[i]])).p ≠ [] := fun h => by have := hok2.2.1; rw [h] at this; have := ctxN_in c; simp at *; omega
          have hpl : (encL c (q ++ [l[i]])).p.length ≤ 64 := by rw [hok2.2.1]; exact (ctxN_in c).2
          subst hq0
          by_cases hb2 : (encL c ([] ++ [l[i]])).bits = []
          · rw [hP0_nil hb2] at sp
            refine CallsF.call [0, 1, 2] [] (sp) rfl rfl rfl rfl rfl (.inl rfl) ?_
            conv => whnf
            refine CallsF.call [0, 1, 2] [] (chances0_spec _ _ _ _ _ hpne (by omega)) rfl rfl rfl rfl rfl (.inl rfl) ?_
            conv => whnf
            rw [inc_natL (by omega)]
            refine ⟨(l.length - (i + 1)), [5, 6, 7, 8, 22, 23, 24], [0, 1, 2, 5, 7], [], by omega, rfl, ?_⟩
            conv => whnf
            refine ⟨i + 1, by omega, ?_⟩
            rw [takenQ_yes hd h4 hh, hq]
            exact .inr (.inl ⟨by simp, hb2, rfl⟩)
          · rw [hP0_app hb2] at sp
            refine CallsF.call [0, 1, 2] [] (sp) rfl rfl rfl rfl rfl (.inl rfl) ?_
            conv => whnf
            refine CallsF.call [0, 1, 2, 4] [] (chances1_spec _ _ _ _ _ _ hpne (by omega)) rfl rfl rfl rfl rfl (.inl rfl) ?_
            conv => whnf
            rw [inc_natL (by omega)]
            refine ⟨(l.length - (i + 1)), [5, 6, 7, 8, 22, 23, 24], [0, 1, 2, 4, 6, 8], [], by omega, rfl, ?_⟩
            conv => whnf
            refine ⟨i + 1, by omega, ?_⟩
            rw [takenQ_yes hd h4 hh, hq]
            exact .inr (.inr ⟨by simp, hb2, rfl⟩)
      · rw [show decide (((i : Nat) : Int) < 400) = false from decide_eq_false (by omega)]
        conv => whnf
        rw [inc_natL (by omega)]
        refine ⟨(l.length - (i + 1)), [5, 6, 7, 8, 22, 23, 24], [0, 1, 2], [], by omega, rfl, ?_⟩
        conv => whnf
        refine ⟨i + 1, by omega, ?_⟩
        rw [takenQ_stay (by omega), hq]
        exact .inl ⟨hq0, hb, rfl⟩
    · have hd := of_decide_eq_false hd
      obtain rfl : i = l.length := by omega
      have hbl : (encL c q).bytes.length ≤ 2 * q.length + 2 := by
        have h1 := trim_len (pack (encL c q).all)
        have h2 := hok.1.len
        have h3 := hok.2.2
        rw [pack_len, all_len] at h1
        unfold Enc.m at h1
        show (trim (pack (encL c q).all)).length ≤ _
        omega
      have hkb : okB (encL c q).bytes := okB_trim (okB_pack _)
      have hcl := asB_bytes (encL c q).bytes
      conv => whnf
      refine CallsF.callV [0, 1, 2] [] (bytes0_spec (encL c q) hb hok.1) hcl.cl rfl rfl rfl rfl rfl (.inl rfl) ?_
      conv => whnf
      refine CallsF.call [] [] (newD_spec hcl hkb (by omega) c) ?_ rfl rfl rfl rfl (.inl rfl) ?_
      · exact mapO_one hcl.cl rfl
      conv => whnf
      refine LoopA.inv (fun _ st => st = ⟨[(6, .bp 0 0), (7, .snil), (54, iv 0), (55, iv 0)], hE0 (encL c q), 3, 0⟩) 0 [6, 7, 54, 55] [0, 1, 2] [] (by rfl) ?_ ?_
      · conv => whnf
        exact rfl
      rintro k st rfl
      conv => whnf
      refine CallsF.call [0, 1, 2] [] (bytes0R_spec (encL c q) hb hok.1) rfl rfl rfl rfl rfl (.inl rfl) ?_
      conv => whnf
      refine ⟨[], [], rfl, congrArg AV.bool ?_, rfl⟩
      subst hq0
      exact decide_eq_true (by show (((encL c []).bytes.length : Nat) : Int) ≤ 2; simp at hbl; omega)
  · conv => whnf
    refine ifB_of (fun hd => ?_) (fun hd => ?_)
    · have hd : i < l.length := by have := of_decide_eq_true hd; omega
      conv => whnf
      rw [aop_idxS_ro (hrow i hd) rfl rfl]
      conv => whnf
      by_cases h4 : i < 400
      · rw [show decide (((i : Nat) : Int) < 400) = true from decide_eq_true (by omega)]
        have sp := put0_spec (encL c q) hb hok.1 l[i].1 l[i].2
        conv => whnf
        cases hh : hasN c l[i].1
        · rw [hasC_N hok.2.1, hh, show (encL c q).put l[i].1 l[i].2 = encL c q by unfold Enc.put; rw [hasC_N hok.2.1, hh], hP0_nil hb] at sp
          refine CallsF.call [0, 1, 2] [] (sp) rfl rfl rfl rfl rfl (.inl rfl) ?_
          conv => whnf
          rw [inc_natL (by omega)]
          refine ⟨(l.length - (i + 1)), [5, 6, 7, 8, 22, 23, 24], [0, 1, 2, 3, 4], [], by omega, rfl, ?_⟩
          conv => whnf
          refine ⟨i + 1, by omega, ?_⟩
          rw [takenQ_no hd hh, hq]
          exact .inr (.inl ⟨hq0, hb, rfl⟩)
        · rw [hasC_N hok.2.1, hh, ← encL_snoc] at sp
          have hok2 := encL_ok c (q ++ [l[i]]) (by simp; omega)
          have hpne : (encL c (q ++ [l[i]])).p ≠ [] := fun h => by have := hok2.2.1; rw [h] at this; have := ctxN_in c; simp at *; omega
          have hpl : (encL c (q ++ [l[i]])).p.length ≤ 64 := by rw [hok2.2.1]; exact (ctxN_in c).2
          by_cases hb2 : (encL c (q ++ [l[i]])).bits = []
          · rw [hP0_nil hb2] at sp
            refine CallsF.call [0, 1, 2] [] (sp) rfl rfl rfl rfl rfl (.inl rfl) ?_
            conv => whnf
            refine need_of ((by rw [Bool.and_eq_true]; exact ⟨decide_eq_true ⟨by simp, show (16 + 1) * (q.length + 1) ≤ 2 ^ 46 by omega⟩, rfl⟩)) ?_
            conv => whnf
            refine CallsF.call [0, 1, 2] [] (chances0_spec _ _ _ _ _ hpne (by omega)) rfl rfl rfl rfl rfl (.inl rfl) ?_
            conv => whnf
            refine need_of ((by rw [Bool.and_eq_true]; exact ⟨decide_eq_true ⟨by simp [wasR_len], show (24 + 1) * (q.length + 1) ≤ 2 ^ 46 by omega⟩, rfl⟩)) ?_
            conv => whnf
            rw [inc_natL (by omega)]
            refine ⟨(l.length - (i + 1)), [5, 6, 7, 8, 22, 23, 24], [0, 1, 2, 7, 9], [], by omega, rfl, ?_⟩
            conv => whnf
            refine ⟨i + 1, by omega, ?_⟩
            rw [takenQ_yes hd h4 hh, hq]
            refine .inr (.inl ⟨by simp, hb2, ?_⟩)
            rw [wasR_snoc, List.map_append, List.length_append]
            rfl
          · rw [hP0_app hb2] at sp
            refine CallsF.call [0, 1, 2] [] (sp) rfl rfl rfl rfl rfl (.inl rfl) ?_
            conv => whnf
            refine need_of ((by rw [Bool.and_eq_true]; exact ⟨decide_eq_true ⟨by simp, show (16 + 1) * (q.length + 1) ≤ 2 ^ 46 by omega⟩, rfl⟩)) ?_
            conv => whnf
            refine CallsF.call [0, 1, 2, 6] [] (chances1_spec _ _ _ _ _ _ hpne (by omega)) rfl rfl rfl rfl rfl (.inl rfl) ?_
            conv => whnf
            refine need_of ((by rw [Bool.and_eq_true]; exact ⟨decide_eq_true ⟨by simp [wasR_len], show (24 + 1) * (q.length + 1) ≤ 2 ^ 46 by omega⟩, rfl⟩)) ?_
            conv => whnf
            rw [inc_natL (by omega)]
            refine ⟨(l.length - (i + 1)), [5, 6, 7, 8, 22, 23, 24], [0, 1, 2, 6, 8, 10], [], by omega, rfl, ?_⟩
            conv => whnf
            refine ⟨i + 1, by omega, ?_⟩
            rw [takenQ_yes hd h4 hh, hq]
            refine .inr (.inr ⟨by simp, hb2, ?_⟩)
            rw [wasR_snoc, List.map_append, List.length_append]
            rfl
      · rw [show decide (((i : Nat) : Int) < 400) = false from decide_eq_false (by omega)]
        conv => whnf
        rw [inc_natL (by omega)]
        refine ⟨(l.length - (i + 1)), [5, 6, 7, 8, 22, 23, 24], [0, 1, 2, 3, 4], [], by omega, rfl, ?_⟩
        conv => whnf
        refine ⟨i + 1, by omega, ?_⟩
        rw [takenQ_stay (by omega), hq]
        exact .inr (.inl ⟨hq0, hb, rfl⟩)
    · have hd := of_decide_eq_false hd
      obtain rfl : i = l.length := by omega
      have hbl : (encL c q).bytes.length ≤ 2 * q.length + 2 := by
        have h1 := trim_len (pack (encL c q).all)
        have h2 := hok.1.len
        have h3 := hok.2.2
        rw [pack_len, all_len] at h1
        unfold Enc.m at h1
        show (trim (pack (encL c q).all)).length ≤ _
        omega
      have hkb : okB (encL c q).bytes := okB_trim (okB_pack _)
      have hcl := asB_bytes (encL c q).bytes
      have hqh : ∀ x ∈ q, hasN c x.1 = true := by rw [← hq]; exact takenQ_has
      have told := told_all (bs := (encL c q).bytes) (fun i => rd_trim (encL c q).all i) (c := c) (q := q) (by omega) hqh (fits_all hok.1)
      have hR : (((q.map rowB).drop 0).take q.length) = q.map rowB := by rw [List.drop_zero, List.take_of_length_le (by simp)]
      have hW : (((wasR c q).drop 0).take q.length) = wasR c q := by rw [List.drop_zero, List.take_of_length_le (by rw [wasR_len]; omega)]
      conv => whnf
      refine CallsF.callV [0, 1, 2] [] (bytes0_spec (encL c q) hb hok.1) hcl.cl rfl rfl rfl rfl rfl (.inl rfl) ?_
      conv => whnf
      refine CallsF.call [] [] (newD_spec hcl hkb (by omega) c) ?_ rfl rfl rfl rfl (.inl rfl) ?_
      · exact mapO_one hcl.cl rfl
      conv => whnf
      refine LoopA.inv (fun k st => ∃ j : Nat, j + k = q.length ∧ st = ⟨[(6, .bp 0 0), (7, .ro 2 (((q.map rowB).drop 0).take q.length)), (8, .ro 1 (((wasR c q).drop 0).take q.length)), (11, .bp 3 0), (53, .ro 2 (((q.map rowB).drop 0).take q.length)), (54, iv q.length), (55, iv j)], hE0 (encL c q) ++ [dB 3 (decL (encL c q).bytes c (q.take j)), pD (decL (encL c q).bytes c (q.take j)).p, rB (decL (encL c q).bytes c (q.take j)).src (decL (encL c q).bytes c (q.take j)).pos (decL (encL c q).bytes c (q.take j)).over], 6, 0⟩) q.length [6, 7, 8, 11, 53, 54, 55] [0, 1, 2, 5, 6, 7] [3, 4] (by rfl) ?_ ?_
      · conv => whnf
        exact ⟨0, by omega, rfl⟩
      rintro k2 st ⟨j, hj, rfl⟩
      conv => whnf
      refine ifB_of (fun hd2 => ?_) (fun hd2 => ?_)
      · have hd2 : j < q.length := by have := of_decide_eq_true hd2; omega
        have hrq : nth (((q.map rowB).drop 0).take q.length) ((j : Nat) : Int).toNat = some (rowB q[j]) := by
          rw [hR, Int.toNat_natCast, nth_get, List.getElem?_map, List.getElem?_eq_getElem hd2]; rfl
        have hrw : nth (((wasR c q).drop 0).take q.length) ((j : Nat) : Int).toNat = some [AV.ri .i64 (encL c (q.take (j + 1))).p] := by
          rw [hW, Int.toNat_natCast, nth_get, wasR, List.getElem?_map, List.getElem?_range hd2]; rfl
        have tl := (told j (by omega)).2 hd2
        have M := (told (j + 1) (by omega)).1
        have hD := decL_ok hkb (by omega) c (q.take j) (by simp; omega)
        have hD2 := decL_ok hkb (by omega) c (q.take (j + 1)) (by simp; omega)
        have sp := dget_spec (decL (encL c q).bytes c (q.take j)) hD.1 q[j].1
        rw [tl, ← decL_snoc, ← List.take_succ_eq_append_getElem hd2] at sp
        have hct := ctxN_in c
        have hpl := hD2.2.1
        have hne : (decL (encL c q).bytes c (q.take (j + 1))).p ≠ [] := fun h => by rw [h] at hpl; simp at hpl; omega
        conv => whnf
        rw [aop_idxS_ro hrq rfl rfl]
        conv => whnf
        refine CallsF.call [3, 4, 5] [] (sp) rfl rfl rfl rfl rfl (.inl rfl) ?_
        conv => whnf
        refine ⟨.inr (by repeat (first | exact same_nil | refine same_of rfl ?_)), ?_⟩
        conv => whnf
        rw [show (q[j].2 == q[j].2) = true from beq_self_eq_true _]
        conv => whnf
        rw [aop_idxS_ro hrw rfl rfl]
        conv => whnf
        refine CallsF.call [3, 4, 5] [] (chances2_spec _ _ _ _ _ _ _ _ hne (by omega)) rfl rfl rfl rfl rfl (.inl rfl) ?_
        conv => whnf
        refine ⟨.inl ⟨_, rfl⟩, ?_⟩
        conv => whnf
        refine CallsF.call [] [] (same_spec _ (encL c (q.take (j + 1))).p (by omega)) rfl rfl rfl rfl rfl (.inl rfl) ?_
        conv => whnf
        rw [decide_eq_true M.p]
        conv => whnf
        rw [inc_natL (by omega)]
        refine ⟨(q.length - (j + 1)), [6, 7, 8, 11, 53, 54, 55], [0, 1, 2, 3, 4, 5], [], by omega, rfl, ?_⟩
        conv => whnf
        exact ⟨j + 1, by omega, rfl⟩
      · have hd2 := of_decide_eq_false hd2
        obtain rfl : j = q.length := by omega
        rw [hR]
        conv => whnf
        refine CallsF.call [0, 1, 2] [] (bytes0R_spec (encL c q) hb hok.1) rfl rfl rfl rfl rfl (.inl rfl) ?_
        conv => whnf
        refine ⟨[], [], rfl, congrArg AV.bool ?_, rfl⟩
        rw [List.length_map, wrap_id (n := 2 * (q.length : Int)) (by omega) (by omega), wrap_id (by omega) (by omega)]
        exact decide_eq_true (by omega)
  · conv => whnf
    refine ifB_of (fun hd => ?_) (fun hd => ?_)
    · have hd : i < l.length := by have := of_decide_eq_true hd; omega
      conv => whnf
      rw [aop_idxS_ro (hrow i hd) rfl rfl]
      conv => whnf
      by_cases h4 : i < 400
      · rw [show decide (((i : Nat) : Int) < 400) = true from decide_eq_true (by omega)]
        have sp := put1_spec (encL c q) hok.1 l[i].1 l[i].2
        conv => whnf
        cases hh : hasN c l[i].1
        · rw [hasC_N hok.2.1, hh, show (encL c q).put l[i].1 l[i].2 = encL c q by unfold Enc.put; rw [hasC_N hok.2.1, hh]] at sp
          refine CallsF.call [0, 1, 2, 3] [] (sp) rfl rfl rfl rfl rfl (.inl rfl) ?_
          conv => whnf
          rw [inc_natL (by omega)]
          refine ⟨(l.length - (i + 1)), [5, 6, 7, 8, 22, 23, 24], [0, 1, 2, 7, 4, 5], [], by omega, rfl, ?_⟩
          conv => whnf
          refine ⟨i + 1, by omega, ?_⟩
          rw [takenQ_no hd hh, hq]
          exact .inr (.inr ⟨hq0, hb, rfl⟩)
        · rw [hasC_N hok.2.1, hh, ← encL_snoc] at sp
          have hok2 := encL_ok c (q ++ [l[i]]) (by simp; omega)
          have hpne : (encL c (q ++ [l[i]])).p ≠ [] := fun h => by have := hok2.2.1; rw [h] at this; have := ctxN_in c; simp at *; omega
          have hpl : (encL c (q ++ [l[i]])).p.length ≤ 64 := by rw [hok2.2.1]; exact (ctxN_in c).2
          have hb2 : (encL c (q ++ [l[i]])).bits ≠ [] := by rw [encL_snoc]; exact put_bits hb _ _
          refine CallsF.call [0, 1, 2, 3] [] (sp) rfl rfl rfl rfl rfl (.inl rfl) ?_
          conv => whnf
          refine need_of ((by rw [Bool.and_eq_true]; exact ⟨decide_eq_true ⟨by simp, show (16 + 1) * (q.length + 1) ≤ 2 ^ 46 by omega⟩, rfl⟩)) ?_
          conv => whnf
          refine CallsF.call [0, 1, 2, 7] [] (chances1_spec _ _ _ _ _ _ hpne (by omega)) rfl rfl rfl rfl rfl (.inl rfl) ?_
          conv => whnf
          refine need_of ((by rw [Bool.and_eq_true]; exact ⟨decide_eq_true ⟨by simp [wasR_len], show (24 + 1) * (q.length + 1) ≤ 2 ^ 46 by omega⟩, rfl⟩)) ?_
          conv => whnf
          rw [inc_natL (by omega)]
          refine ⟨(l.length - (i + 1)), [5, 6, 7, 8, 22, 23, 24], [0, 1, 2, 7, 9, 11], [], by omega, rfl, ?_⟩
          conv => whnf
          refine ⟨i + 1, by omega, ?_⟩
          rw [takenQ_yes hd h4 hh, hq]
          refine .inr (.inr ⟨by simp, hb2, ?_⟩)
          rw [wasR_snoc, List.map_append, List.length_append]
          rfl
      · rw [show decide (((i : Nat) : Int) < 400) = false from decide_eq_false (by omega)]
        conv => whnf
        rw [inc_natL (by omega)]
        refine ⟨(l.length - (i + 1)), [5, 6, 7, 8, 22, 23, 24], [0, 1, 2, 3, 4, 5], [], by omega, rfl, ?_⟩
        conv => whnf
        refine ⟨i + 1, by omega, ?_⟩
        rw [takenQ_stay (by omega), hq]
        exact .inr (.inr ⟨hq0, hb, rfl⟩)
    · have hd := of_decide_eq_false hd
      obtain rfl : i = l.length := by omega
      have hbl : (encL c q).bytes.length ≤ 2 * q.length + 2 := by
        have h1 := trim_len (pack (encL c q).all)
        have h2 := hok.1.len
        have h3 := hok.2.2
        rw [pack_len, all_len] at h1
        unfold Enc.m at h1
        show (trim (pack (encL c q).all)).length ≤ _
        omega
      have hkb : okB (encL c q).bytes := okB_trim (okB_pack _)
      have hcl := asB_bytes (encL c q).bytes
      have hqh : ∀ x ∈ q, hasN c x.1 = true := by rw [← hq]; exact takenQ_has
      have told := told_all (bs := (encL c q).bytes) (fun i => rd_trim (encL c q).all i) (c := c) (q := q) (by omega) hqh (fits_all hok.1)
      have hR : (((q.map rowB).drop 0).take q.length) = q.map rowB := by rw [List.drop_zero, List.take_of_length_le (by simp)]
      have hW : (((wasR c q).drop 0).take q.length) = wasR c q := by rw [List.drop_zero, List.take_of_length_le (by rw [wasR_len]; omega)]
      conv => whnf
      refine CallsF.callV [0, 1, 2, 3] [] (bytes1_spec (encL c q) hb hok.1) hcl.cl rfl rfl rfl rfl rfl (.inl rfl) ?_
      conv => whnf
      refine CallsF.call [] [] (newD_spec hcl hkb (by omega) c) ?_ rfl rfl rfl rfl (.inl rfl) ?_
      · exact mapO_one hcl.cl rfl
      conv => whnf
      refine LoopA.inv (fun k st => ∃ j : Nat, j + k = q.length ∧ st = ⟨[(6, .bp 0 0), (7, .ro 2 (((q.map rowB).drop 0).take q.length)), (8, .ro 1 (((wasR c q).drop 0).take q.length)), (11, .bp 4 0), (53, .ro 2 (((q.map rowB).drop 0).take q.length)), (54, iv q.length), (55, iv j)], hE1 (encL c q) ++ [dB 4 (decL (encL c q).bytes c (q.take j)), pD (decL (encL c q).bytes c (q.take j)).p, rB (decL (encL c q).bytes c (q.take j)).src (decL (encL c q).bytes c (q.take j)).pos (decL (encL c q).bytes c (q.take j)).over], 7, 0⟩) q.length [6, 7, 8, 11, 53, 54, 55] [0, 1, 2, 3, 6, 7, 8] [4, 5] (by rfl) ?_ ?_
      · conv => whnf
        exact ⟨0, by omega, rfl⟩
      rintro k2 st ⟨j, hj, rfl⟩
      conv => whnf
      refine ifB_of (fun hd2 => ?_) (fun hd2 => ?_)
      · have hd2 : j < q.length := by have := of_decide_eq_true hd2; omega
        have hrq : nth (((q.map rowB).drop 0).take q.length) ((j : Nat) : Int).toNat = some (rowB q[j]) := by
          rw [hR, Int.toNat_natCast, nth_get, List.getElem?_map, List.getElem?_eq_getElem hd2]; rfl
        have hrw : nth (((wasR c q).drop 0).take q.length) ((j : Nat) : Int).toNat = some [AV.ri .i64 (encL c (q.take (j + 1))).p] := by
          rw [hW, Int.toNat_natCast, nth_get, wasR, List.getElem?_map, List.getElem?_range hd2]; rfl
        have tl := (told j (by omega)).2 hd2
        have M := (told (j + 1) (by omega)).1
        have hD := decL_ok hkb (by omega) c (q.take j) (by simp; omega)
        have hD2 := decL_ok hkb (by omega) c (q.take (j + 1)) (by simp; omega)
        have sp := dget_spec (decL (encL c q).bytes c (q.take j)) hD.1 q[j].1
        rw [tl, ← decL_snoc, ← List.take_succ_eq_append_getElem hd2] at sp
        have hct := ctxN_in c
        have hpl := hD2.2.1
        have hne : (decL (encL c q).bytes c (q.take (j + 1))).p ≠ [] := fun h => by rw [h] at hpl; simp at hpl; omega
        conv => whnf
        rw [aop_idxS_ro hrq rfl rfl]
        conv => whnf
        refine CallsF.call [4, 5, 6] [] (sp) rfl rfl rfl rfl rfl (.inl rfl) ?_
        conv => whnf
        refine ⟨.inr (by repeat (first | exact same_nil | refine same_of rfl ?_)), ?_⟩
        conv => whnf
        rw [show (q[j].2 == q[j].2) = true from beq_self_eq_true _]
        conv => whnf
        rw [aop_idxS_ro hrw rfl rfl]
        conv => whnf
        refine CallsF.call [4, 5, 6] [] (chances2_spec _ _ _ _ _ _ _ _ hne (by omega)) rfl rfl rfl rfl rfl (.inl rfl) ?_
        conv => whnf
        refine ⟨.inl ⟨_, rfl⟩, ?_⟩
        conv => whnf
        refine CallsF.call [] [] (same_spec _ (encL c (q.take (j + 1))).p (by omega)) rfl rfl rfl rfl rfl (.inl rfl) ?_
        conv => whnf
        rw [decide_eq_true M.p]
        conv => whnf
        rw [inc_natL (by omega)]
        refine ⟨(q.length - (j + 1)), [6, 7, 8, 11, 53, 54, 55], [0, 1, 2, 3, 4, 5, 6], [], by omega, rfl, ?_⟩
        conv => whnf
        exact ⟨j + 1, by omega, rfl⟩
      · have hd2 := of_decide_eq_false hd2
        obtain rfl : j = q.length := by omega
        rw [hR]
        conv => whnf
        refine CallsF.call [0, 1, 2, 3] [] (bytes1R_spec (encL c q) hb hok.1) rfl rfl rfl rfl rfl (.inl rfl) ?_
        conv => whnf
        refine ⟨[], [], rfl, congrArg AV.bool ?_, rfl⟩
        rw [List.length_map, wrap_id (n := 2 * (q.length : Int)) (by omega) (by omega), wrap_id (by omega) (by omega)]
        exact decide_eq_true (by omega)

end Go.Proofs.TrydN

