/- Layer 26: the law of the runs. -/
import Derived.Test.YtdcpobifckmoaaaN26O
import Derived.Test.YtdcpobifckmoaaaN26P
import Derived.Test.YtdcpobifckmoaaaN26L
namespace Go.Proofs.TryN
open Go Go.AL Go.Proofs

set_option maxRecDepth 20000 in
set_option maxHeartbeats 4000000 in
theorem runs_spec (S : List Int) (hS : ∀ s ∈ S, 0 ≤ s ∧ s ≤ 255) (n : Int) (hn : 0 ≤ n ∧ n ≤ 255) (hSl : S.length ≤ 9223372036854775807) : CallsF Try.prog 3 [.ri .u8 S, .int .u8 n] [] (.bool true) [] := by
  obtain ⟨k, hk, hk60⟩ : ∃ k : Nat, IntKind.wrap .i64 (n.tmod 60) = (k : Int) ∧ k < 60 := by
    have h1 := Int.tmod_nonneg 60 hn.1
    have h2 := Int.tmod_lt_of_pos n (show (0 : Int) < 60 by decide)
    refine ⟨(n.tmod 60).toNat, ?_, by omega⟩
    rw [wrap_id (by omega) (by omega)]; omega
  refine e3 ?_
  conv => whnf
  refine CallsF.call [] [] first_spec rfl rfl rfl rfl rfl (.inl rfl) ?_
  conv => whnf
  rw [hk]
  conv => whnf
  refine need_of ((decide_eq_true ⟨by omega, rfl, by omega⟩)) ?_
  conv => whnf
  refine LoopA.inv (fun m st => ∃ i : Nat, m + i = k ∧ st = ⟨[(0, .ri .u8 S), (5, iv k), (6, .sl 0 0 k), (26, .sl 0 0 k), (27, iv k), (28, iv i)], [some (.ia .i64 (ini k i))], 1, 0⟩) k [0, 5, 6, 26, 27, 28] [0] [] (by rfl) ?_ ?_
  · conv => whnf
    exact ⟨0, rfl, rfl⟩
  rintro m st ⟨i, hm, rfl⟩
  conv => whnf
  refine ifB_of (fun h1 => ?_) (fun h1 => ?_)
  · have h1 : i < k := by have := of_decide_eq_true h1; omega
    conv => whnf
    refine need_of ((decide_eq_true ⟨by omega, by omega⟩)) ?_
    conv => whnf
    refine need_of ((decide_eq_true (by rw [ini_len (by omega)]; omega))) ?_
    conv => whnf
    rw [inc_nat i (by omega)]
    refine ⟨(k - (i + 1)), [0, 5, 6, 26, 27, 28], [0], [], by omega, rfl, ?_⟩
    conv => whnf
    refine ⟨i + 1, by omega, ?_⟩
    rw [← ini_set h1, Nat.zero_add]
    rfl
  have h1 : k = i := by have := of_decide_eq_false h1; omega
  subst h1
  clear hm
  have hP := P4.start k
  generalize ini k k = l0 at *
  conv => whnf
  first | refine pt_of [0, 5, 6] [0] [] (by rfl) ?_ | refine ptw_of [0, 5, 6] [0] [] (by rfl) ?_
  conv => whnf
  refine LoopA.inv (fun m st => ∃ (i : Nat) (l : List Int), m + i = S.length ∧ P4 l k ∧ st = ⟨[(5, iv k), (6, .sl 0 0 k), (36, .ri .u8 S), (37, iv (S.length : Nat)), (38, iv i)], [some (.ia .i64 l)], 1, 0⟩) S.length [5, 6, 36, 37, 38] [0] [] (by rfl) ?_ ?_
  · conv => whnf
    exact ⟨0, _, rfl, hP, rfl⟩
  rintro m st ⟨i, l, hm, hl, rfl⟩
  conv => whnf
  refine ifB_of (fun h1 => ?_) (fun h1 => ?_)
  · have h1 : i < S.length := by have := of_decide_eq_true h1; omega
    conv => whnf
    refine need_of ((decide_eq_true ⟨Int.natCast_nonneg i, by omega⟩)) ?_
    conv => whnf
    have hK : (if 1 > (k : Int) then 1 else (k : Int)) = ((max 1 k : Nat) : Int) := by split <;> omega
    obtain ⟨a, ha⟩ : ∃ a : Nat, i % max 1 k = a := ⟨_, rfl⟩
    have hat : (i : Int).tmod ((max 1 k : Nat) : Int) = (a : Int) := by rw [← ha]; rfl
    have hal : a < max 1 k := by rw [← ha]; exact Nat.mod_lt _ (by omega)
    obtain ⟨s, hs, hs0⟩ : ∃ s : Nat, IntKind.wrap .i64 ((S.getD (i : Int).toNat 0).tmod 4) = (s : Int) ∧ s < 4 := by
      have hh := hS (S.getD (i : Int).toNat 0) (by
        rw [Int.toNat_natCast, List.getD_eq_getElem?_getD, List.getElem?_eq_getElem h1]
        exact List.getElem_mem h1)
      have h1 := Int.tmod_nonneg 4 hh.1
      have h2 := Int.tmod_lt_of_pos (S.getD (i : Int).toNat 0) (show (0 : Int) < 4 by decide)
      refine ⟨((S.getD (i : Int).toNat 0).tmod 4).toNat, ?_, by omega⟩
      rw [wrap_id (by omega) (by omega)]; omega
    have hb : IntKind.wrap .i64 (IntKind.wrap .i64 (IntKind.wrap .i64 ((a : Int).tdiv 4) * 4) + (s : Int)) = ((a / 4 * 4 + s : Nat) : Int) := by
      have e0 : (a : Int).tdiv 4 = ((a / 4 : Nat) : Int) := rfl
      rw [e0, wrap_id (n := ((a / 4 : Nat) : Int)) (by omega) (by omega), wrap_id (n := ((a / 4 : Nat) : Int) * 4) (by omega) (by omega), wrap_id (by omega) (by omega)]
      omega
    rw [hK]
    refine need_of ((decide_eq_true (by omega))) ?_
    conv => whnf
    rw [hat]
    conv => whnf
    rw [hK]
    refine need_of ((decide_eq_true (by omega))) ?_
    conv => whnf
    rw [hat, hs]
    rw [hb]
    clear hb hs hat hK
    obtain ⟨b, hbe⟩ : ∃ b : Nat, a / 4 * 4 + s = b := ⟨_, rfl⟩
    rw [hbe]
    have hdiv : a / 4 = b / 4 := by omega
    conv => whnf
    refine ifB_of (fun h2 => ?_) (fun h2 => ?_)
    rotate_left
    · conv => whnf
      rw [inc_nat i (by omega)]
      refine ⟨(S.length - (i + 1)), [5, 6, 36, 37, 38], [0], [], by omega, rfl, ?_⟩
      conv => whnf
      exact ⟨i + 1, l, by omega, hl, rfl⟩
    conv => whnf
    refine ifB_of (fun h3 => ?_) (fun h3 => ?_)
    rotate_left
    · conv => whnf
      rw [inc_nat i (by omega)]
      refine ⟨(S.length - (i + 1)), [5, 6, 36, 37, 38], [0], [], by omega, rfl, ?_⟩
      conv => whnf
      exact ⟨i + 1, l, by omega, hl, rfl⟩
    conv => whnf
    refine ifB_of (fun h4 => ?_) (fun h4 => ?_)
    rotate_left
    · conv => whnf
      rw [inc_nat i (by omega)]
      refine ⟨(S.length - (i + 1)), [5, 6, 36, 37, 38], [0], [], by omega, rfl, ?_⟩
      conv => whnf
      exact ⟨i + 1, l, by omega, hl, rfl⟩
    have h3 : a < k := by have := of_decide_eq_true h3; omega
    have h4 : b < k := by have := of_decide_eq_true h4; omega
    have hP2 := hl.swap h3 h4 hdiv
    have hlen := hl.len
    conv => whnf
    repeat (refine need_of (decide_eq_true (by first | omega | (simp only [List.length_set]; omega))) ?_; conv => whnf)
    have hsw : (l.set (0 + (a : Int).toNat) (l.getD (0 + (b : Int).toNat) 0)).set (0 + (b : Int).toNat) (l.getD (0 + (a : Int).toNat) 0) = swp l a b := by
      simp only [Nat.zero_add, Int.toNat_natCast, swp]
    rw [hsw]
    conv => whnf
    rw [inc_nat i (by omega)]
    refine ⟨(S.length - (i + 1)), [5, 6, 36, 37, 38], [0], [], by omega, rfl, ?_⟩
    conv => whnf
    exact ⟨i + 1, swp l a b, by omega, hP2, rfl⟩
  clear h1 hm hP hS hSl
  conv => whnf
  first | refine pt_of [5, 6] [0] [] (by rfl) ?_ | refine ptw_of [5, 6] [0] [] (by rfl) ?_
  conv => whnf
  refine CallsF.call [] [] new_spec rfl rfl rfl rfl rfl (.inl rfl) ?_
  conv => whnf
  refine LoopA.inv (fun m st => ∃ (j : Nat) (next : Int) (W : List (Int × Int)), m + j = k ∧ Inv l j next W ∧ ((next = 0 ∧ W = [] ∧ st = ⟨[(5, iv k), (12, .bp 1 0), (13, iv 0), (85, .sl 0 0 k), (86, iv k), (87, iv j)], [some (.ia .i64 l), some (.box [iv 0, .snil])], 2, 0⟩) ∨ st = ⟨[(5, iv k), (12, .bp 1 0), (13, iv next), (85, .sl 0 0 k), (86, iv k), (87, iv j)], [some (.ia .i64 l), some (.box [iv next, .sl 2 0 W.length]), some (.arr 10 (irows W))], 3, 0⟩)) k [5, 12, 13, 85, 86, 87] [0, 1] [] (by rfl) ?_ ?_
  · conv => whnf
    exact ⟨0, 0, [], rfl, Inv.start l, .inl ⟨rfl, rfl, rfl⟩⟩
  have hlen := hl.len
  rintro m st ⟨j, next, W, hm, I, ⟨rfl, rfl, rfl⟩ | rfl⟩
  · conv => whnf
    refine ifB_of (fun h1 => ?_) (fun h1 => ?_)
    · have h1 : j < k := by have := of_decide_eq_true h1; omega
      have hlj : j < l.length := by omega
      obtain ⟨p1, p2, p3⟩ := I.put hl hlj
      have hvr := hl.rng j hlj
      have hst := I.step hl (by omega) hlj
      have hW2 := I.w.put (v := l[j]) p1 p2 p3
      have hlo := I.w.lo
      have hv : l.getD (0 + (j : Int).toNat) 0 = l[j] := by
        rw [Nat.zero_add, Int.toNat_natCast, List.getD_eq_getElem?_getD, List.getElem?_eq_getElem hlj]; rfl
      conv => whnf
      refine need_of ((decide_eq_true ⟨Int.natCast_nonneg j, by omega⟩)) ?_
      conv => whnf
      refine need_of ((decide_eq_true (by omega))) ?_
      conv => whnf
      rw [hv]
      generalize l[j] = v at *
      clear hv
      have kp := (show CallsF Try.prog 8 [.bp 0 0, iv v, .agg [iv 1, iv 1, .sl 1 0 1, iv 1, iv 1, .sl 2 0 1, iv 1, iv 1, .sl 3 0 1]] (some (.box [iv 0, .snil]) :: vs3 v) (iv 0) (some (.box [iv 0, .sl 4 0 (putW [] v v).length]) :: vs3 v ++ [some (.arr 10 (irows (putW [] v v)))]) from put0_own 0 hlo v p1 p2)
      obtain ⟨W2, hWe⟩ : ∃ W2, putW [] v v = W2 := ⟨_, rfl⟩
      rw [hWe] at kp hst hW2
      clear hWe p3
      refine CallsF.call [] [] (one_own v) rfl rfl rfl rfl rfl (.inl rfl) ?_
      conv => whnf
      first | refine pt_of [5, 12, 13, 15, 16, 85, 86, 87] [0, 1, 2, 3, 4, 5] [] (by rfl) ?_ | refine ptw_of [5, 12, 13, 15, 16, 85, 86, 87] [0, 1, 2, 3, 4, 5] [] (by rfl) ?_
      conv => whnf
      refine CallsF.call [1, 2, 3, 4] [] kp rfl rfl rfl rfl rfl (.inl rfl) ?_
      conv => whnf
      first | refine pt_of [5, 12, 13, 85, 86, 87] [0, 1, 6] [] (by rfl) ?_ | refine ptw_of [5, 12, 13, 85, 86, 87] [0, 1, 6] [] (by rfl) ?_
      conv => whnf
      have hlen2 := hW2.len_le
      have htl := tk_le (0 : Int) W2
      have kt := take_spec (0 : Int) W2 hlo hlen2
      obtain ⟨I2, items⟩ := hst
      have hrl : (outR W2 (tk (0 : Int) W2)).length = tk (0 : Int) W2 := by unfold outR; rw [List.length_map, List.length_take]; omega
      have hrow : ∀ g : Nat, g < (outR W2 (tk (0 : Int) W2)).length → nth (outR W2 (tk (0 : Int) W2)) (g : Int).toNat = some (frow ((0 : Int) + (g : Int))) := fun g hg => by
        have hi := items g (by omega)
        rw [Int.toNat_natCast, nth_get, outR, List.getElem?_map, List.getElem?_take, if_pos (by omega), hi]; rfl
      obtain ⟨nx, hnx⟩ : ∃ nx, (0 : Int) + (tk (0 : Int) W2 : Int) = nx := ⟨_, rfl⟩
      obtain ⟨W3, hW3⟩ : ∃ W3, W2.drop (tk (0 : Int) W2) = W3 := ⟨_, rfl⟩
      obtain ⟨rows, hrs⟩ : ∃ rows, outR W2 (tk (0 : Int) W2) = rows := ⟨_, rfl⟩
      rw [hnx, hW3] at kt I2
      rw [hrs] at kt hrl hrow
      clear hW3 hrs items
      refine CallsF.call [1, 2] [] kt rfl rfl rfl rfl rfl (.inl rfl) ?_
      conv => whnf
      refine LoopA.inv (fun m2 st => ∃ (g : Nat) (x : Int), m2 + g = rows.length ∧ x = (0 : Int) + (g : Int) ∧ st = ⟨[(5, iv k), (12, .bp 1 0), (13, iv x), (85, .sl 0 0 k), (86, iv k), (87, iv j), (104, .ro 9 rows), (105, iv (rows.length : Nat)), (106, iv g)], [some (.ia .i64 l), some (.box [iv nx, .sl 2 0 W3.length]), some (.arr 10 (irows W3))], 3, 0⟩) rows.length [5, 12, 13, 85, 86, 87, 104, 105, 106] [0, 1, 3] [] (by rfl) ?_ ?_
      · conv => whnf
        exact ⟨0, (0 : Int), rfl, by omega, rfl⟩
      rintro m2 st ⟨g, x, hm2, hx, rfl⟩
      conv => whnf
      refine ifB_of (fun h9 => ?_) (fun h9 => ?_)
      · have h9 : g < rows.length := by have := of_decide_eq_true h9; omega
        have hr := hrow g h9
        rw [← hx] at hr
        conv => whnf
        rw [aop_idxS_ro hr rfl rfl]
        conv => whnf
        refine need_of ((decide_eq_true (Int.natCast_nonneg g))) ?_
        conv => whnf
        refine CallsF.call [] [] (one_spec x) rfl rfl rfl rfl rfl (.inl rfl) ?_
        conv => whnf
        refine ⟨.inl ⟨_, rfl⟩, ?_⟩
        conv => whnf
        refine CallsF.call [] [] (same24_spec x) rfl rfl rfl rfl rfl (.inl rfl) ?_
        conv => whnf
        have e1 : IntKind.wrap .i64 (x + 1) = (0 : Int) + ((g + 1 : Nat) : Int) := by rw [wrap_id (by omega) (by omega)]; omega
        rw [e1, inc_nat g (by omega)]
        refine ⟨(rows.length - (g + 1)), [5, 12, 13, 85, 86, 87, 104, 105, 106], [0, 1, 2], [], by omega, rfl, ?_⟩
        conv => whnf
        exact ⟨g + 1, _, by omega, rfl, rfl⟩
      have h9 : g = rows.length := by have := of_decide_eq_false h9; omega
      obtain rfl : x = nx := by omega
      clear hx h9 hm2
      conv => whnf
      rw [inc_nat j (by omega)]
      refine ⟨(k - (j + 1)), [5, 12, 13, 85, 86, 87], [0, 1, 2], [], by omega, rfl, ?_⟩
      conv => whnf
      exact ⟨j + 1, _, W3, by omega, I2, .inr rfl⟩
    have h1 : j = k := by have := of_decide_eq_false h1; omega
    subst h1
    obtain ⟨hd, hw⟩ := I.done hl
    
    conv => whnf
    first | refine pt_of [5, 12, 13] [1] [] (by rfl) ?_ | refine ptw_of [5, 12, 13] [1] [] (by rfl) ?_
    conv => whnf
    rw [← hd]
    conv => whnf
    refine CallsF.call [0] [] (end0_spec 0) rfl rfl rfl rfl rfl (.inl rfl) ?_
    conv => whnf
    refine CallsF.call [0] [] (next0_spec 0) rfl rfl rfl rfl rfl (.inl rfl) ?_
    conv => whnf
    skip
    exact ⟨[], [], rfl, rfl, rfl⟩
  · conv => whnf
    refine ifB_of (fun h1 => ?_) (fun h1 => ?_)
    · have h1 : j < k := by have := of_decide_eq_true h1; omega
      have hlj : j < l.length := by omega
      obtain ⟨p1, p2, p3⟩ := I.put hl hlj
      have hvr := hl.rng j hlj
      have hst := I.step hl (by omega) hlj
      have hW2 := I.w.put (v := l[j]) p1 p2 p3
      have hlo := I.w.lo
      have hv : l.getD (0 + (j : Int).toNat) 0 = l[j] := by
        rw [Nat.zero_add, Int.toNat_natCast, List.getD_eq_getElem?_getD, List.getElem?_eq_getElem hlj]; rfl
      conv => whnf
      refine need_of ((decide_eq_true ⟨Int.natCast_nonneg j, by omega⟩)) ?_
      conv => whnf
      refine need_of ((decide_eq_true (by omega))) ?_
      conv => whnf
      rw [hv]
      generalize l[j] = v at *
      clear hv
      have kp := put_own next W I.w v p1 p2 p3
      obtain ⟨W2, hWe⟩ : ∃ W2, putW W v v = W2 := ⟨_, rfl⟩
      rw [hWe] at kp hst hW2
      clear hWe p3
      refine CallsF.call [] [] (one_own v) rfl rfl rfl rfl rfl (.inl rfl) ?_
      conv => whnf
      first | refine pt_of [5, 12, 13, 15, 16, 85, 86, 87] [0, 1, 2, 3, 4, 5, 6] [] (by rfl) ?_ | refine ptw_of [5, 12, 13, 15, 16, 85, 86, 87] [0, 1, 2, 3, 4, 5, 6] [] (by rfl) ?_
      conv => whnf
      refine CallsF.call [1, 3, 4, 5, 2] [] kp rfl rfl rfl rfl rfl (.inl rfl) ?_
      conv => whnf
      first | refine pt_of [5, 12, 13, 85, 86, 87] [0, 1, 7] [] (by rfl) ?_ | refine ptw_of [5, 12, 13, 85, 86, 87] [0, 1, 7] [] (by rfl) ?_
      conv => whnf
      have hlen2 := hW2.len_le
      have htl := tk_le next W2
      have kt := take_spec next W2 hlo hlen2
      obtain ⟨I2, items⟩ := hst
      have hrl : (outR W2 (tk next W2)).length = tk next W2 := by unfold outR; rw [List.length_map, List.length_take]; omega
      have hrow : ∀ g : Nat, g < (outR W2 (tk next W2)).length → nth (outR W2 (tk next W2)) (g : Int).toNat = some (frow (next + (g : Int))) := fun g hg => by
        have hi := items g (by omega)
        rw [Int.toNat_natCast, nth_get, outR, List.getElem?_map, List.getElem?_take, if_pos (by omega), hi]; rfl
      obtain ⟨nx, hnx⟩ : ∃ nx, next + (tk next W2 : Int) = nx := ⟨_, rfl⟩
      obtain ⟨W3, hW3⟩ : ∃ W3, W2.drop (tk next W2) = W3 := ⟨_, rfl⟩
      obtain ⟨rows, hrs⟩ : ∃ rows, outR W2 (tk next W2) = rows := ⟨_, rfl⟩
      rw [hnx, hW3] at kt I2
      rw [hrs] at kt hrl hrow
      clear hW3 hrs items
      refine CallsF.call [1, 2] [] kt rfl rfl rfl rfl rfl (.inl rfl) ?_
      conv => whnf
      refine LoopA.inv (fun m2 st => ∃ (g : Nat) (x : Int), m2 + g = rows.length ∧ x = next + (g : Int) ∧ st = ⟨[(5, iv k), (12, .bp 1 0), (13, iv x), (85, .sl 0 0 k), (86, iv k), (87, iv j), (104, .ro 9 rows), (105, iv (rows.length : Nat)), (106, iv g)], [some (.ia .i64 l), some (.box [iv nx, .sl 2 0 W3.length]), some (.arr 10 (irows W3))], 3, 0⟩) rows.length [5, 12, 13, 85, 86, 87, 104, 105, 106] [0, 1, 3] [] (by rfl) ?_ ?_
      · conv => whnf
        exact ⟨0, next, rfl, by omega, rfl⟩
      rintro m2 st ⟨g, x, hm2, hx, rfl⟩
      conv => whnf
      refine ifB_of (fun h9 => ?_) (fun h9 => ?_)
      · have h9 : g < rows.length := by have := of_decide_eq_true h9; omega
        have hr := hrow g h9
        rw [← hx] at hr
        conv => whnf
        rw [aop_idxS_ro hr rfl rfl]
        conv => whnf
        refine need_of ((decide_eq_true (Int.natCast_nonneg g))) ?_
        conv => whnf
        refine CallsF.call [] [] (one_spec x) rfl rfl rfl rfl rfl (.inl rfl) ?_
        conv => whnf
        refine ⟨.inl ⟨_, rfl⟩, ?_⟩
        conv => whnf
        refine CallsF.call [] [] (same24_spec x) rfl rfl rfl rfl rfl (.inl rfl) ?_
        conv => whnf
        have e1 : IntKind.wrap .i64 (x + 1) = next + ((g + 1 : Nat) : Int) := by rw [wrap_id (by omega) (by omega)]; omega
        rw [e1, inc_nat g (by omega)]
        refine ⟨(rows.length - (g + 1)), [5, 12, 13, 85, 86, 87, 104, 105, 106], [0, 1, 2], [], by omega, rfl, ?_⟩
        conv => whnf
        exact ⟨g + 1, _, by omega, rfl, rfl⟩
      have h9 : g = rows.length := by have := of_decide_eq_false h9; omega
      obtain rfl : x = nx := by omega
      clear hx h9 hm2
      conv => whnf
      rw [inc_nat j (by omega)]
      refine ⟨(k - (j + 1)), [5, 12, 13, 85, 86, 87], [0, 1, 2], [], by omega, rfl, ?_⟩
      conv => whnf
      exact ⟨j + 1, _, W3, by omega, I2, .inr rfl⟩
    have h1 : j = k := by have := of_decide_eq_false h1; omega
    subst h1
    obtain ⟨hd, hw⟩ := I.done hl
    subst hd; subst hw
    conv => whnf
    first | refine pt_of [5, 12, 13] [1, 2] [] (by rfl) ?_ | refine ptw_of [5, 12, 13] [1, 2] [] (by rfl) ?_
    conv => whnf
    rw [beq_self_eq_true]
    conv => whnf
    refine CallsF.call [0, 1] [] (end_spec j []) rfl rfl rfl rfl rfl (.inl rfl) ?_
    conv => whnf
    refine CallsF.call [0, 1] [] (next_spec j []) rfl rfl rfl rfl rfl (.inl rfl) ?_
    conv => whnf
    rw [beq_self_eq_true]
    conv => whnf
    exact ⟨[], [], rfl, rfl, rfl⟩

end Go.Proofs.TryN

