/- Layer 17: splits, by the document: the walk. -/
import Derived.Test.YticofpkggbdnpaaN17O
namespace Go.Proofs.TryN
open Go Go.AL Go.Proofs

set_option maxRecDepth 10000 in
theorem rsplit_spec (f : Fld) (i : Int) : CallsF Try.prog 8 [f.av, iv i] [] (iv (splitN f i)) [] := by
  have no : ¬(f.ok = true ∧ 0 ≤ i ∧ i < f.sp.length) → iv 0 = iv (splitN f i) := fun h => by rw [splitN, if_neg h]
  refine e8 ?_
  conv => whnf
  refine CallsF.call [] [] (right16_spec f) rfl rfl rfl rfl rfl (.inl rfl) ?_
  conv => whnf
  cases h1 : f.ok
  · conv => whnf
    exact ⟨[], [], rfl, no (by simp [h1]), rfl⟩
  obtain ⟨k1, k2, k3, k4, _, _⟩ := Fld.ok_in h1
  conv => whnf
  refine ifB_of (fun h2 => ?_) (fun h2 => ?_)
  · have h2 := of_decide_eq_true h2
    conv => whnf
    exact ⟨[], [], rfl, no (by omega), rfl⟩
  have h2 := of_decide_eq_false h2
  conv => whnf
  refine ifB_of (fun h3 => ?_) (fun h3 => ?_)
  · have h3 := of_decide_eq_true h3
    conv => whnf
    exact ⟨[], [], rfl, no (by omega), rfl⟩
  have h3 := of_decide_eq_false h3
  rw [splitN, if_pos ⟨h1, by omega, by omega⟩]
  have m3 : f.a * f.d ≤ 64 * 64 := Int.mul_le_mul (by omega) (by omega) (by omega) (by omega)
  obtain ⟨I, rfl⟩ : ∃ I : Nat, i = (I : Int) := ⟨i.toNat, by omega⟩
  obtain ⟨A, ha⟩ : ∃ A : Nat, f.a = (A : Int) := ⟨f.a.toNat, by omega⟩
  have hmean := mean_rev f ha (by omega) (show I < f.sp.length by omega)
  have hsm : ∀ k, ∀ v ∈ accK f A I k, -16777216 ≤ v ∧ v ≤ 16777216 := fun k v hv => by
    unfold accK at hv
    rw [List.mem_map] at hv
    obtain ⟨q, _, rfl⟩ := hv
    exact spAt_in h1 q
  have di : ((I : Nat) : Int).tmod f.a = ((I % A : Nat) : Int) := by rw [ha, Int.tmod_eq_emod_of_nonneg (by omega)]; rfl
  have ei : IntKind.wrap .i64 (((I : Nat) : Int).tdiv f.a) = ((I / A : Nat) : Int) := by
    have := Nat.div_le_self I A
    have p1 : (0 : Int) ≤ ((I / A : Nat) : Int) := Int.natCast_nonneg _
    rw [ha, Int.tdiv_eq_ediv_of_nonneg (by omega), show ((I : Nat) : Int) / ((A : Nat) : Int) = ((I / A : Nat) : Int) from rfl, wrap_id (by omega) (by omega)]
  obtain ⟨rows, hr⟩ : ∃ rows, f.bs.map Blk.row = rows := ⟨_, rfl⟩
  rw [hr]
  conv => whnf
  refine LoopA.inv (fun n st => ∃ k : Nat, n + k = f.sp.length ∧ ((accK f A I k = [] ∧ st = ⟨[(1, iv (I : Nat)), (2, .bp 0 0), (5, .snil), (25, .ri .i64 f.sp), (26, iv (f.sp.length : Nat)), (27, iv k)], [some (.box [iv f.a, iv f.d, .ri .i64 f.sp, .ro 9 rows])], 1, 0⟩) ∨ (accK f A I k ≠ [] ∧ st = ⟨[(1, iv (I : Nat)), (2, .bp 0 0), (5, .sl 1 0 (accK f A I k).length), (25, .ri .i64 f.sp), (26, iv (f.sp.length : Nat)), (27, iv k)], [some (.box [iv f.a, iv f.d, .ri .i64 f.sp, .ro 9 rows]), some (.ia .i64 (accK f A I k))], 2, 0⟩))) f.sp.length [1, 2, 5, 25, 26, 27] [0] [] (by rfl) ?_ ?_
  · conv => whnf
    exact ⟨0, rfl, .inl ⟨rfl, rfl⟩⟩
  rintro n st ⟨k, hn, ⟨hz, rfl⟩ | ⟨hz, rfl⟩⟩
  · conv => whnf
    refine ifB_of (fun h1 => ?_) (fun h1 => ?_)
    rotate_left
    · have h1 : ¬k < f.sp.length := by have := of_decide_eq_false h1; omega
      obtain rfl : k = f.sp.length := by omega
      rw [hz] at hmean
      conv => whnf
      refine CallsF.call [] [] (CallsF.weak (.cons (.snil .i64) .nil) (rmean_spec [] (by simp) (by simp))) rfl rfl rfl rfl rfl (.inl rfl) ?_
      conv => whnf
      exact ⟨[], [], rfl, congrArg iv hmean, rfl⟩
    · have h1 : k < f.sp.length := by have := of_decide_eq_true h1; omega
      have hg : f.sp.getD (k : Int).toNat 0 = spAt f k := rfl
      have dk : ((k : Nat) : Int).tmod f.a = ((k % A : Nat) : Int) := by rw [ha, Int.tmod_eq_emod_of_nonneg (by omega)]; rfl
      have ek : IntKind.wrap .i64 (((k : Nat) : Int).tdiv f.a) = ((k / A : Nat) : Int) := by
        have := Nat.div_le_self k A
        have p1 : (0 : Int) ≤ ((k / A : Nat) : Int) := Int.natCast_nonneg _
        rw [ha, Int.tdiv_eq_ediv_of_nonneg (by omega), show ((k : Nat) : Int) / ((A : Nat) : Int) = ((k / A : Nat) : Int) from rfl, wrap_id (by omega) (by omega)]
      have p1 : (0 : Int) ≤ ((k / A : Nat) : Int) := Int.natCast_nonneg _
      have p2 : (0 : Int) ≤ ((I / A : Nat) : Int) := Int.natCast_nonneg _
      have b1 := Nat.div_le_self k A
      have b2 := Nat.mod_le k A
      have b3 := Nat.div_le_self I A
      have b4 := Nat.mod_le I A
      have wx : IntKind.wrap .i64 (((I : Nat) : Int).tmod f.a - ((k : Nat) : Int).tmod f.a) = ((I % A : Nat) : Int) - ((k % A : Nat) : Int) := by rw [di, dk, wrap_id (by omega) (by omega)]
      have wy : IntKind.wrap .i64 (IntKind.wrap .i64 (((I : Nat) : Int).tdiv f.a) - IntKind.wrap .i64 (((k : Nat) : Int).tdiv f.a)) = ((I / A : Nat) : Int) - ((k / A : Nat) : Int) := by rw [ei, ek, wrap_id (by omega) (by omega)]
      have qx0 : (IntKind.wrap .i64 (((I : Nat) : Int).tmod f.a - ((k : Nat) : Int).tmod f.a) == 0) = (I % A == k % A) := by rw [wx, Bool.eq_iff_iff]; simp; omega
      have qx1 : (IntKind.wrap .i64 (((I : Nat) : Int).tmod f.a - ((k : Nat) : Int).tmod f.a) == 1) = (I % A == k % A + 1) := by rw [wx, Bool.eq_iff_iff]; simp; omega
      have qy0 : (IntKind.wrap .i64 (IntKind.wrap .i64 (((I : Nat) : Int).tdiv f.a) - IntKind.wrap .i64 (((k : Nat) : Int).tdiv f.a)) == 0) = (I / A == k / A) := by rw [wy, Bool.eq_iff_iff]; simp; omega
      have qy1 : (IntKind.wrap .i64 (IntKind.wrap .i64 (((I : Nat) : Int).tdiv f.a) - IntKind.wrap .i64 (((k : Nat) : Int).tdiv f.a)) == 1) = (I / A == k / A + 1) := by rw [wy, Bool.eq_iff_iff]; simp; omega
      conv => whnf
      refine need_of ((decide_eq_true ⟨by omega, by omega⟩)) ?_
      conv => whnf
      refine need_of ((decide_eq_true (show f.a ≠ 0 by omega))) ?_
      conv => whnf
      refine need_of ((decide_eq_true (show f.a ≠ 0 by omega))) ?_
      conv => whnf
      refine need_of ((decide_eq_true (show f.a ≠ 0 by omega))) ?_
      conv => whnf
      refine need_of ((decide_eq_true (show f.a ≠ 0 by omega))) ?_
      conv => whnf
      by_cases hk : k = I
      · rw [show (((k : Nat) : Int) != ((I : Nat) : Int)) = false by simp [hk]]
        have hs : selK A I k = false := by simp [selK, hk]
        conv => whnf
        refine ⟨(f.sp.length - (k + 1)), [1, 2, 5, 25, 26, 27], [0], [], by omega, rfl, ?_⟩
        conv => whnf
        refine ⟨k + 1, by omega, .inl ⟨by rw [accK_no hs, hz], ?_⟩⟩
        rw [inc_nat (by omega)]
      rw [show (((k : Nat) : Int) != ((I : Nat) : Int)) = true by simp; omega]
      conv => whnf
      rw [qx0]
      cases x0 : (I % A == k % A)
      · conv => whnf
        rw [qx1]
        cases x1 : (I % A == k % A + 1)
        · have hs : selK A I k = false := by simp [selK, x0, x1]
          conv => whnf
          refine ⟨(f.sp.length - (k + 1)), [1, 2, 5, 25, 26, 27], [0], [], by omega, rfl, ?_⟩
          conv => whnf
          refine ⟨k + 1, by omega, .inl ⟨by rw [accK_no hs, hz], ?_⟩⟩
          rw [inc_nat (by omega)]
        · conv => whnf
          rw [qy0]
          cases y0 : (I / A == k / A)
          · conv => whnf
            rw [qy1]
            cases y1 : (I / A == k / A + 1)
            · have hs : selK A I k = false := by simp [selK, y0, y1]
              conv => whnf
              refine ⟨(f.sp.length - (k + 1)), [1, 2, 5, 25, 26, 27], [0], [], by omega, rfl, ?_⟩
              conv => whnf
              refine ⟨k + 1, by omega, .inl ⟨by rw [accK_no hs, hz], ?_⟩⟩
              rw [inc_nat (by omega)]
            · have hs : selK A I k = true := by simp [selK, hk, x0, x1, y0, y1]; try omega
              conv => whnf
              refine ⟨(f.sp.length - (k + 1)), [1, 2, 5, 25, 26, 27], [0, 2], [], by omega, rfl, ?_⟩
              conv => whnf
              refine ⟨k + 1, by omega, .inr ⟨by rw [accK_yes hs]; simp, ?_⟩⟩
              rw [inc_nat (by omega), accK_yes hs, hz]
              rfl
          · have hs : selK A I k = true := by simp [selK, hk, x0, x1, y0]; try omega
            conv => whnf
            refine ⟨(f.sp.length - (k + 1)), [1, 2, 5, 25, 26, 27], [0, 2], [], by omega, rfl, ?_⟩
            conv => whnf
            refine ⟨k + 1, by omega, .inr ⟨by rw [accK_yes hs]; simp, ?_⟩⟩
            rw [inc_nat (by omega), accK_yes hs, hz]
            rfl
      · conv => whnf
        rw [qy0]
        cases y0 : (I / A == k / A)
        · conv => whnf
          rw [qy1]
          cases y1 : (I / A == k / A + 1)
          · have hs : selK A I k = false := by simp [selK, y0, y1]
            conv => whnf
            refine ⟨(f.sp.length - (k + 1)), [1, 2, 5, 25, 26, 27], [0], [], by omega, rfl, ?_⟩
            conv => whnf
            refine ⟨k + 1, by omega, .inl ⟨by rw [accK_no hs, hz], ?_⟩⟩
            rw [inc_nat (by omega)]
          · have hs : selK A I k = true := by simp [selK, hk, x0, y0, y1]; try omega
            conv => whnf
            refine ⟨(f.sp.length - (k + 1)), [1, 2, 5, 25, 26, 27], [0, 2], [], by omega, rfl, ?_⟩
            conv => whnf
            refine ⟨k + 1, by omega, .inr ⟨by rw [accK_yes hs]; simp, ?_⟩⟩
            rw [inc_nat (by omega), accK_yes hs, hz]
            rfl
        · have hs : selK A I k = true := by simp [selK, hk, x0, y0]; try omega
          conv => whnf
          refine ⟨(f.sp.length - (k + 1)), [1, 2, 5, 25, 26, 27], [0, 2], [], by omega, rfl, ?_⟩
          conv => whnf
          refine ⟨k + 1, by omega, .inr ⟨by rw [accK_yes hs]; simp, ?_⟩⟩
          rw [inc_nat (by omega), accK_yes hs, hz]
          rfl
  · conv => whnf
    refine ifB_of (fun h1 => ?_) (fun h1 => ?_)
    rotate_left
    · have h1 : ¬k < f.sp.length := by have := of_decide_eq_false h1; omega
      obtain rfl : k = f.sp.length := by omega
      have hln := accK_len f A I f.sp.length
      have k0 := rmean_spec (((accK f A I f.sp.length).drop 0).take (accK f A I f.sp.length).length) (by simp; omega) (fun v hv => hsm f.sp.length v (by simpa using hv))
      conv => whnf
      refine CallsF.call [] [1] k0 rfl rfl rfl rfl rfl (.inr rfl) ?_
      conv => whnf
      exact ⟨[], [], rfl, congrArg iv (by rw [List.drop_zero, List.take_length]; exact hmean), rfl⟩
    · have h1 : k < f.sp.length := by have := of_decide_eq_true h1; omega
      have hg : f.sp.getD (k : Int).toNat 0 = spAt f k := rfl
      have dk : ((k : Nat) : Int).tmod f.a = ((k % A : Nat) : Int) := by rw [ha, Int.tmod_eq_emod_of_nonneg (by omega)]; rfl
      have ek : IntKind.wrap .i64 (((k : Nat) : Int).tdiv f.a) = ((k / A : Nat) : Int) := by
        have := Nat.div_le_self k A
        have p1 : (0 : Int) ≤ ((k / A : Nat) : Int) := Int.natCast_nonneg _
        rw [ha, Int.tdiv_eq_ediv_of_nonneg (by omega), show ((k : Nat) : Int) / ((A : Nat) : Int) = ((k / A : Nat) : Int) from rfl, wrap_id (by omega) (by omega)]
      have p1 : (0 : Int) ≤ ((k / A : Nat) : Int) := Int.natCast_nonneg _
      have p2 : (0 : Int) ≤ ((I / A : Nat) : Int) := Int.natCast_nonneg _
      have b1 := Nat.div_le_self k A
      have b2 := Nat.mod_le k A
      have b3 := Nat.div_le_self I A
      have b4 := Nat.mod_le I A
      have wx : IntKind.wrap .i64 (((I : Nat) : Int).tmod f.a - ((k : Nat) : Int).tmod f.a) = ((I % A : Nat) : Int) - ((k % A : Nat) : Int) := by rw [di, dk, wrap_id (by omega) (by omega)]
      have wy : IntKind.wrap .i64 (IntKind.wrap .i64 (((I : Nat) : Int).tdiv f.a) - IntKind.wrap .i64 (((k : Nat) : Int).tdiv f.a)) = ((I / A : Nat) : Int) - ((k / A : Nat) : Int) := by rw [ei, ek, wrap_id (by omega) (by omega)]
      have qx0 : (IntKind.wrap .i64 (((I : Nat) : Int).tmod f.a - ((k : Nat) : Int).tmod f.a) == 0) = (I % A == k % A) := by rw [wx, Bool.eq_iff_iff]; simp; omega
      have qx1 : (IntKind.wrap .i64 (((I : Nat) : Int).tmod f.a - ((k : Nat) : Int).tmod f.a) == 1) = (I % A == k % A + 1) := by rw [wx, Bool.eq_iff_iff]; simp; omega
      have qy0 : (IntKind.wrap .i64 (IntKind.wrap .i64 (((I : Nat) : Int).tdiv f.a) - IntKind.wrap .i64 (((k : Nat) : Int).tdiv f.a)) == 0) = (I / A == k / A) := by rw [wy, Bool.eq_iff_iff]; simp; omega
      have qy1 : (IntKind.wrap .i64 (IntKind.wrap .i64 (((I : Nat) : Int).tdiv f.a) - IntKind.wrap .i64 (((k : Nat) : Int).tdiv f.a)) == 1) = (I / A == k / A + 1) := by rw [wy, Bool.eq_iff_iff]; simp; omega
      conv => whnf
      refine need_of ((decide_eq_true ⟨by omega, by omega⟩)) ?_
      conv => whnf
      refine need_of ((decide_eq_true (show f.a ≠ 0 by omega))) ?_
      conv => whnf
      refine need_of ((decide_eq_true (show f.a ≠ 0 by omega))) ?_
      conv => whnf
      refine need_of ((decide_eq_true (show f.a ≠ 0 by omega))) ?_
      conv => whnf
      refine need_of ((decide_eq_true (show f.a ≠ 0 by omega))) ?_
      conv => whnf
      by_cases hk : k = I
      · rw [show (((k : Nat) : Int) != ((I : Nat) : Int)) = false by simp [hk]]
        have hs : selK A I k = false := by simp [selK, hk]
        conv => whnf
        refine ⟨(f.sp.length - (k + 1)), [1, 2, 5, 25, 26, 27], [0, 1], [], by omega, rfl, ?_⟩
        conv => whnf
        refine ⟨k + 1, by omega, .inr ⟨by rw [accK_no hs]; exact hz, ?_⟩⟩
        rw [inc_nat (by omega), accK_no hs]
      rw [show (((k : Nat) : Int) != ((I : Nat) : Int)) = true by simp; omega]
      conv => whnf
      rw [qx0]
      cases x0 : (I % A == k % A)
      · conv => whnf
        rw [qx1]
        cases x1 : (I % A == k % A + 1)
        · have hs : selK A I k = false := by simp [selK, x0, x1]
          conv => whnf
          refine ⟨(f.sp.length - (k + 1)), [1, 2, 5, 25, 26, 27], [0, 1], [], by omega, rfl, ?_⟩
          conv => whnf
          refine ⟨k + 1, by omega, .inr ⟨by rw [accK_no hs]; exact hz, ?_⟩⟩
          rw [inc_nat (by omega), accK_no hs]
        · conv => whnf
          rw [qy0]
          cases y0 : (I / A == k / A)
          · conv => whnf
            rw [qy1]
            cases y1 : (I / A == k / A + 1)
            · have hs : selK A I k = false := by simp [selK, y0, y1]
              conv => whnf
              refine ⟨(f.sp.length - (k + 1)), [1, 2, 5, 25, 26, 27], [0, 1], [], by omega, rfl, ?_⟩
              conv => whnf
              refine ⟨k + 1, by omega, .inr ⟨by rw [accK_no hs]; exact hz, ?_⟩⟩
              rw [inc_nat (by omega), accK_no hs]
            · have hs : selK A I k = true := by simp [selK, hk, x0, x1, y0, y1]; try omega
              conv => whnf
              have hln := accK_len f A I k
              refine need_of ((decide_eq_true ⟨by omega, by simp; omega⟩)) ?_
              conv => whnf
              refine ⟨(f.sp.length - (k + 1)), [1, 2, 5, 25, 26, 27], [0, 3], [], by omega, rfl, ?_⟩
              conv => whnf
              refine ⟨k + 1, by omega, .inr ⟨by rw [accK_yes hs]; simp, ?_⟩⟩
              rw [inc_nat (by omega), accK_yes hs, List.length_append]
              rfl
          · have hs : selK A I k = true := by simp [selK, hk, x0, x1, y0]; try omega
            conv => whnf
            have hln := accK_len f A I k
            refine need_of ((decide_eq_true ⟨by omega, by simp; omega⟩)) ?_
            conv => whnf
            refine ⟨(f.sp.length - (k + 1)), [1, 2, 5, 25, 26, 27], [0, 3], [], by omega, rfl, ?_⟩
            conv => whnf
            refine ⟨k + 1, by omega, .inr ⟨by rw [accK_yes hs]; simp, ?_⟩⟩
            rw [inc_nat (by omega), accK_yes hs, List.length_append]
            rfl
      · conv => whnf
        rw [qy0]
        cases y0 : (I / A == k / A)
        · conv => whnf
          rw [qy1]
          cases y1 : (I / A == k / A + 1)
          · have hs : selK A I k = false := by simp [selK, y0, y1]
            conv => whnf
            refine ⟨(f.sp.length - (k + 1)), [1, 2, 5, 25, 26, 27], [0, 1], [], by omega, rfl, ?_⟩
            conv => whnf
            refine ⟨k + 1, by omega, .inr ⟨by rw [accK_no hs]; exact hz, ?_⟩⟩
            rw [inc_nat (by omega), accK_no hs]
          · have hs : selK A I k = true := by simp [selK, hk, x0, y0, y1]; try omega
            conv => whnf
            have hln := accK_len f A I k
            refine need_of ((decide_eq_true ⟨by omega, by simp; omega⟩)) ?_
            conv => whnf
            refine ⟨(f.sp.length - (k + 1)), [1, 2, 5, 25, 26, 27], [0, 3], [], by omega, rfl, ?_⟩
            conv => whnf
            refine ⟨k + 1, by omega, .inr ⟨by rw [accK_yes hs]; simp, ?_⟩⟩
            rw [inc_nat (by omega), accK_yes hs, List.length_append]
            rfl
        · have hs : selK A I k = true := by simp [selK, hk, x0, y0]; try omega
          conv => whnf
          have hln := accK_len f A I k
          refine need_of ((decide_eq_true ⟨by omega, by simp; omega⟩)) ?_
          conv => whnf
          refine ⟨(f.sp.length - (k + 1)), [1, 2, 5, 25, 26, 27], [0, 3], [], by omega, rfl, ?_⟩
          conv => whnf
          refine ⟨k + 1, by omega, .inr ⟨by rw [accK_yes hs]; simp, ?_⟩⟩
          rw [inc_nat (by omega), accK_yes hs, List.length_append]
          rfl
end Go.Proofs.TryN

