/- The document's encoder: its bytes: the walk. -/
import Derived.Test.YtamgmfinkgdkjaaDoorN5V
import Derived.Test.YtamgmfinkgdkjaaDoorN5W
namespace Go.Proofs.TrydN
open Go Go.AL Go.Proofs

theorem mid5_eq {v : Int} (h0 : 0 ≤ v) (h1 : v < 65536) : (IntKind.wrap .i64 (v.tdiv 16384)).tmod 2 = b2i (midB v) := by
  rw [Int.tdiv_eq_ediv_of_nonneg h0, wrap_id (by omega) (by omega), Int.tmod_eq_emod_of_nonneg (by omega)]
  unfold midB
  by_cases h : v / 16384 % 2 = 1
  · rw [decide_eq_true h]; simp only [b2i]; omega
  · rw [decide_eq_false h]; simp only [b2i]; omega

set_option maxRecDepth 10000 in
theorem rbytes_spec (e : Enc) (h : okE e) : CallsF Tryd.prog 17 [.bp 0 0] [rE 1 e, pD e.p] (.ri .u8 e.bytes) [rE 1 e, pD e.p] := by
  obtain ⟨⟨hp, hl0, hs0, htop⟩, hbig, hn, hlen⟩ := h
  have hu := upN_in hl0 (by omega)
  have hal : e.all.length = e.bits.length + e.owed + 2 := by simp [Enc.all, owes_len]; omega
  have hu2 : upN e.low = 16384 * ((e.low + 16383) / 16384) := by unfold upN; omega
  refine e17 ?_
  conv => whnf
  refine LoopA.inv (fun k st => ∃ j : Nat, 16384 * (j : Int) + 16384 * k = upN e.low ∧ st = ⟨[(0, .bp 0 0), (3, iv (16384 * j : Nat))], [rE 1 e, pD e.p], 2, 2⟩) ((e.low + 16383) / 16384).toNat [0, 3] [] [] (by rfl) ?_ ?_
  · conv => whnf
    exact ⟨0, by omega, rfl⟩
  rintro k st ⟨j, hj, rfl⟩
  conv => whnf
  refine ifB_of (fun hd => ?_) (fun hd => ?_)
  · have hd := of_decide_eq_true hd
    conv => whnf
    rw [show IntKind.wrap .i64 (((16384 * j : Nat) : Int) + 16384) = ((16384 * (j + 1) : Nat) : Int) from by rw [wrap_id (by omega) (by omega)]; omega]
    refine ⟨(k - 1), [0, 3], [], [], by omega, rfl, ?_⟩
    conv => whnf
    exact ⟨j + 1, by omega, rfl⟩
  · have hd := of_decide_eq_false hd
    have hv : ((16384 * j : Nat) : Int) = upN e.low := by omega
    rw [hv]
    have ht := top5_eq hu.1 (show upN e.low < 65536 by omega)
    conv => whnf
    refine CallsF.call [] [] (one_spec ht) rfl rfl rfl rfl rfl (.inl rfl) ?_
    conv => whnf
    refine ⟨.inl ⟨_, rfl⟩, ?_⟩
    conv => whnf
    refine need_of ((decide_eq_true (by rw [sB_size, sB_size]; simp; omega))) ?_
    conv => whnf
    rw [sB_plus]
    refine LoopA.inv (fun k st => ∃ i : Nat, i + k = e.owed ∧ st = ⟨[(0, .bp 0 0), (3, iv (upN e.low)), (4, .str (sB (e.bits ++ owes (topB (upN e.low)) i))), (5, iv i)], [rE 1 e, pD e.p], 2, 2⟩) e.owed [0, 3, 4, 5] [] [] (by rfl) ?_ ?_
    · conv => whnf
      exact ⟨0, by omega, rfl⟩
    rintro k st ⟨i, hi, rfl⟩
    conv => whnf
    refine ifB_of (fun hd2 => ?_) (fun hd2 => ?_)
    · have hd2 := of_decide_eq_true hd2
      conv => whnf
      refine CallsF.call [] [] (opp_spec ht) rfl rfl rfl rfl rfl (.inl rfl) ?_
      conv => whnf
      refine need_of ((decide_eq_true (by rw [sB_size, sB_size]; simp [owes_len]; omega))) ?_
      conv => whnf
      rw [sB_plus, inc_nat (by omega)]
      refine ⟨(e.owed - (i + 1)), [0, 3, 4, 5], [], [], by omega, rfl, ?_⟩
      conv => whnf
      refine ⟨i + 1, by omega, ?_⟩
      rw [owes_step, ← List.append_assoc]
    · have hd2 := of_decide_eq_false hd2
      obtain rfl : i = e.owed := by omega
      conv => whnf
      refine CallsF.call [] [] (one_spec (mid5_eq hu.1 (by omega))) rfl rfl rfl rfl rfl (.inl rfl) ?_
      conv => whnf
      refine need_of ((decide_eq_true (by rw [sB_size, sB_size]; simp [owes_len]; omega))) ?_
      conv => whnf
      rw [sB_plus, show e.bits ++ owes (topB (upN e.low)) e.owed ++ [midB (upN e.low)] = e.all from rfl]
      refine CallsF.call [] [] (packs_spec e.all (fun h => by rw [h] at hal; simp at hal) (by omega)) rfl rfl rfl rfl rfl (.inl rfl) ?_
      conv => whnf
      have hpl := pack_len e.all
      unfold Enc.bytes trim
      generalize pack e.all = xs at *
      refine LoopA.inv (fun k st => k ≤ xs.length ∧ trimL xs k = trimL xs xs.length ∧ st = ⟨[(6, .ri .u8 xs), (7, iv k)], [rE 1 e, pD e.p], 2, 2⟩) xs.length [6, 7] [] [] (by rfl) ?_ ?_
      · conv => whnf
        exact ⟨Nat.le_refl _, rfl, rfl⟩
      rintro k st ⟨h1, h2, rfl⟩
      conv => whnf
      cases k with
      | zero =>
        conv => whnf
        refine ⟨[], [], rfl, ?_, rfl⟩
        rw [← h2]
        rfl
      | succ k =>
        have hd : IntKind.wrap .i64 (((k + 1 : Nat) : Int) - 1) = ((k : Nat) : Int) := by rw [wrap_id (by omega) (by omega)]; simp
        refine ifB_of (fun _ => ?_) (fun h => absurd h (by simp))
        conv => whnf
        rw [hd]
        conv => whnf
        refine need_of ((decide_eq_true ⟨by omega, by omega⟩)) ?_
        conv => whnf
        rw [Int.toNat_natCast]
        by_cases hz : xs.getD k 0 = 0
        · rw [show (xs.getD k 0 == 0) = true from beq_iff_eq.2 hz]
          conv => whnf
          rw [hd]
          refine ⟨k, [6, 7], [], [], by omega, rfl, ?_⟩
          conv => whnf
          refine ⟨by omega, ?_, rfl⟩
          rw [← h2, trimL, if_pos hz]
        · rw [show (xs.getD k 0 == 0) = false from beq_eq_false_iff_ne.2 hz]
          conv => whnf
          refine need_of ((decide_eq_true ⟨by omega, by omega, by omega⟩)) ?_
          conv => whnf
          refine ⟨[], [], rfl, ?_, rfl⟩
          rw [← h2, trimL, if_neg hz]
          rfl

end Go.Proofs.TrydN

