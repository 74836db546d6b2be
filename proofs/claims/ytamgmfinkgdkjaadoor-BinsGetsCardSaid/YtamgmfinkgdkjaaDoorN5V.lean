/- The document's encoder: a bit put: the walk. -/
import Derived.Test.YtamgmfinkgdkjaaDoorN5U
namespace Go.Proofs.TrydN
open Go Go.AL Go.Proofs

theorem part5_eq {size q : Int} (h0 : 16384 < size) (h1 : size ≤ 65536) (hq : okP q) : IntKind.wrap .i64 ((IntKind.wrap .i64 (size * q)).tdiv 65536) = partN size q := by
  have k := partN_in h0 h1 hq
  rw [wrap_id (n := size * q) (by omega) (by omega), Int.tdiv_eq_ediv_of_nonneg (by omega)]
  exact wrap_id (by unfold partN at k; omega) (by unfold partN at k; omega)

theorem top5_eq {v : Int} (h0 : 0 ≤ v) (h1 : v < 65536) : IntKind.wrap .i64 (v.tdiv 32768) = b2i (topB v) := by
  rw [Int.tdiv_eq_ediv_of_nonneg h0, wrap_id (by omega) (by omega)]
  unfold topB
  by_cases h : v / 32768 % 2 = 1
  · rw [decide_eq_true h]; simp only [b2i]; omega
  · rw [decide_eq_false h]; simp only [b2i]; omega

theorem strad5_eq {low size : Int} (h0 : 0 ≤ low) (h1 : 1 ≤ size) (h2 : low + size ≤ 65536) :
    (b2i (topB low) != IntKind.wrap .i64 ((IntKind.wrap .i64 (IntKind.wrap .i64 (low + size) - 1)).tdiv 32768)) = strad low size := by
  rw [wrap_id (n := low + size) (by omega) (by omega), wrap_id (n := low + size - 1) (by omega) (by omega), top5_eq (v := low + size - 1) (by omega) (by omega)]
  unfold strad topB
  by_cases ha : low / 32768 % 2 = 1 <;> by_cases hb : (low + size - 1) / 32768 % 2 = 1
  · rw [decide_eq_true ha, decide_eq_true hb, decide_eq_false (by omega)]; rfl
  · rw [decide_eq_true ha, decide_eq_false hb, decide_eq_true (by omega)]; rfl
  · rw [decide_eq_false ha, decide_eq_true hb, decide_eq_true (by omega)]; rfl
  · rw [decide_eq_false ha, decide_eq_false hb, decide_eq_false (by omega)]; rfl

theorem dbl5_eq {v : Int} (h0 : 0 ≤ v) (h1 : v < 65536) : (IntKind.wrap .i64 (2 * v)).tmod 65536 = 2 * v % 65536 := by
  rw [wrap_id (by omega) (by omega), Int.tmod_eq_emod_of_nonneg (by omega)]

theorem hasC_no {p : List Int} {c : Int} (h : hasC p c = false) : c < 0 ∨ (p.length : Int) ≤ c := by
  simp [hasC] at h
  omega

/-- What holds at the head of the encoder's loop. -/
def I5 (T : Enc) (k : Nat) (st : St) : Prop := ∃ e' : Enc, e'.norm k = T ∧ okS e'.p e'.low e'.size ∧ 16384 < e'.size * 2 ^ k ∧ e'.bits.length + e'.owed + k ≤ 1073741840 ∧ st = ⟨[(0, .bp 0 0)], [rE 1 e', pD e'.p], 2, 1⟩

theorem rE_take (k : Nat) (e : Enc) (c : Int) (b : Bool) : rE k (e.take c b) = some (.box [.sl k 0 e.p.length, iv (lowT e.low (partN e.size (chance e.p c)) b), iv (sizeT e.size (partN e.size (chance e.p c)) b), iv e.owed, iv (e.n + 1 : Nat), .str (sB e.bits)]) := by
  show some (ABlk.box [.sl k 0 (learnP e.p c b).length, _, _, _, _, _]) = _
  rw [learn_len]
  rfl

set_option maxRecDepth 10000 in
set_option maxHeartbeats 1000000 in
theorem put5_spec (e : Enc) (h : okE e) (hpl : e.p.length < 4294967296) (c : Int) (b : Bool) : CallsF Tryd.prog 15 [.bp 0 0, iv c, .bool b] [rE 1 e, pD e.p] (.bool (hasC e.p c)) [rE 2 (e.put c b), none, pD (e.put c b).p] := by
  obtain ⟨hS, hbig, hn, hlen⟩ := h
  obtain ⟨hp, hl0, hs0, htop⟩ := hS
  have hS : okS e.p e.low e.size := ⟨hp, hl0, hs0, htop⟩
  unfold Enc.put
  refine m15 1 ?_
  conv => whnf
  cases hc : hasC e.p c
  · have hc2 := hasC_no hc
    by_cases h0 : c < 0
    · rw [show decide (c < 0) = true from decide_eq_true h0]
      conv => whnf
      exact ⟨[1], [], rfl, rfl, rfl⟩
    · rw [show decide (c < 0) = false from decide_eq_false h0]
      conv => whnf
      rw [show decide (c ≥ (e.p.length : Int)) = true from decide_eq_true (by omega)]
      conv => whnf
      exact ⟨[1], [], rfl, rfl, rfl⟩
  have hq := hS.chance hc
  have hc2 := chance_at hc
  have kp := partN_in hbig (by omega) hq
  have hS2 := hS.take hbig hc b
  rw [show decide (c < 0) = false from decide_eq_false (by omega)]
  conv => whnf
  rw [show decide (c ≥ (e.p.length : Int)) = false from decide_eq_false (by omega)]
  conv => whnf
  refine need_of ((decide_eq_true ⟨by omega, by omega⟩)) ?_
  conv => whnf
  refine need_of ((decide_eq_true (by omega))) ?_
  conv => whnf
  rw [Nat.zero_add c.toNat, show e.p.getD c.toNat 0 = chance e.p c from rfl, part5_eq hbig (by omega) hq]
  generalize ht : (e.take c b).norm 16 = T
  cases b
  · conv => whnf
    refine CallsF.call [] [] (more4_spec hq) rfl rfl rfl rfl rfl (.inl rfl) ?_
    conv => whnf
    refine ⟨.inl ⟨_, rfl⟩, ?_⟩
    conv => whnf
    refine CallsF.call [1] [] (set_spec _ hc hpl) rfl rfl rfl rfl rfl (.inl rfl) ?_
    conv => whnf
    rw [inc_nat (by omega)]
    refine LoopA.inv (I5 T) 16 [0] [2] [] (by rfl) ?_ ?_
    · conv => whnf
      exact ⟨e.take c false, ht, hS2, by have := hS2.s0; show 16384 < (e.take c false).size * 65536; unfold Enc.take; simp only; omega, by simp only [Enc.take]; omega, by rw [rE_take]; rfl⟩
    intro k st hI
    obtain ⟨e', h1, h2, h3, h4, rfl⟩ := hI
    obtain ⟨hp', hl0', hs0', htop'⟩ := h2
    have h2 : okS e'.p e'.low e'.size := ⟨hp', hl0', hs0', htop'⟩
    conv => whnf
    refine ifB_of (fun hd => ?_) (fun hd => ?_)
    · have hd := of_decide_eq_true hd
      obtain ⟨k, rfl⟩ : ∃ k', k = k' + 1 := ⟨k - 1, by
        rcases k with _ | k
        · simp at h3; omega
        · omega⟩
      have h5 : 16384 < 2 * e'.size * 2 ^ k := by
        rw [Int.pow_succ] at h3
        have : e'.size * (2 ^ k * 2) = 2 * e'.size * 2 ^ k := by rw [← Int.mul_assoc, Int.mul_comm (e'.size * 2 ^ k) 2, Int.mul_assoc]
        omega
      have h6 := h2.shift hd
      rw [norm_step hd] at h1
      conv => whnf
      rw [top5_eq hl0' (by omega), strad5_eq hl0' hs0' htop']
      cases hs : strad e'.low e'.size
      · rw [shift_f hs] at h1
        conv => whnf
        refine CallsF.call [] [] (one_spec (b := topB e'.low) rfl) rfl rfl rfl rfl rfl (.inl rfl) ?_
        conv => whnf
        refine ⟨.inl ⟨_, rfl⟩, ?_⟩
        conv => whnf
        refine need_of ((decide_eq_true (by rw [sB_size, sB_size]; simp; omega))) ?_
        conv => whnf
        rw [sB_plus]
        refine LoopA.inv (fun j st => ∃ i : Nat, i + j = e'.owed ∧ st = ⟨[(0, .bp 0 0), (9, iv (b2i (topB e'.low)))], [some (.box [.sl 1 0 e'.p.length, iv e'.low, iv e'.size, iv j, iv e'.n, .str (sB (e'.bits ++ owes (topB e'.low) i))]), pD e'.p], 2, 1⟩) e'.owed [0, 9] [1] [] (by rfl) ?_ ?_
        · conv => whnf
          exact ⟨0, by omega, rfl⟩
        rintro j st ⟨i, hi, rfl⟩
        conv => whnf
        refine ifB_of (fun hd2 => ?_) (fun hd2 => ?_)
        · have hd2 := of_decide_eq_true hd2
          conv => whnf
          refine CallsF.call [] [] (opp_spec (b := topB e'.low) rfl) rfl rfl rfl rfl rfl (.inl rfl) ?_
          conv => whnf
          refine ⟨.inl ⟨_, rfl⟩, ?_⟩
          conv => whnf
          refine need_of ((decide_eq_true (by rw [sB_size, sB_size]; simp [owes_len]; omega))) ?_
          conv => whnf
          rw [sB_plus, show IntKind.wrap .i64 ((j : Int) - 1) = ((j - 1 : Nat) : Int) from by rw [wrap_id (by omega) (by omega)]; omega]
          refine ⟨(j - 1), [0, 9], [1], [], by omega, rfl, ?_⟩
          conv => whnf
          refine ⟨i + 1, by omega, ?_⟩
          rw [owes_step, ← List.append_assoc]
        · have hd2 := of_decide_eq_false hd2
          obtain rfl : j = 0 := by omega
          obtain rfl : i = e'.owed := by omega
          conv => whnf
          rw [dbl5_eq hl0' (by omega), wrap_id (n := 2 * e'.size) (by omega) (by omega)]
          refine ⟨k, [0], [1], [], by omega, rfl, ?_⟩
          conv => whnf
          exact ⟨⟨e'.p, e'.n, lowS e'.low e'.size, 2 * e'.size, 0, e'.bits ++ owes (topB e'.low) e'.owed⟩, h1, h6, h5, by simp [owes_len]; omega, by rw [show lowS e'.low e'.size = 2 * e'.low % 65536 by simp [lowS, hs]]⟩
      · rw [shift_t hs] at h1
        have htn := turnN_in hl0' (show e'.low < 65536 by omega)
        conv => whnf
        refine CallsF.call [] [] (turn5_spec hl0' (by omega)) rfl rfl rfl rfl rfl (.inl rfl) ?_
        conv => whnf
        rw [inc_nat (by omega), dbl5_eq htn.1 htn.2, wrap_id (n := 2 * e'.size) (by omega) (by omega)]
        refine ⟨k, [0], [1], [], by omega, rfl, ?_⟩
        conv => whnf
        exact ⟨⟨e'.p, e'.n, lowS e'.low e'.size, 2 * e'.size, e'.owed + 1, e'.bits⟩, h1, h6, h5, by simp; omega, by rw [show lowS e'.low e'.size = 2 * turnN e'.low % 65536 by simp [lowS, hs]]⟩
    · have hd := of_decide_eq_false hd
      rw [norm_done hd] at h1
      subst h1
      conv => whnf
      exact ⟨[1], [], rfl, rfl, rfl⟩
  · conv => whnf
    rw [wrap_id (n := e.low + partN e.size (chance e.p c)) (by omega) (by omega), wrap_id (n := e.size - partN e.size (chance e.p c)) (by omega) (by omega)]
    refine CallsF.call [] [] (less4_spec hq) rfl rfl rfl rfl rfl (.inl rfl) ?_
    conv => whnf
    refine ⟨.inl ⟨_, rfl⟩, ?_⟩
    conv => whnf
    refine CallsF.call [1] [] (set_spec _ hc hpl) rfl rfl rfl rfl rfl (.inl rfl) ?_
    conv => whnf
    rw [inc_nat (by omega)]
    refine LoopA.inv (I5 T) 16 [0] [2] [] (by rfl) ?_ ?_
    · conv => whnf
      exact ⟨e.take c true, ht, hS2, by have := hS2.s0; show 16384 < (e.take c true).size * 65536; unfold Enc.take; simp only; omega, by simp only [Enc.take]; omega, by rw [rE_take]; rfl⟩
    intro k st hI
    obtain ⟨e', h1, h2, h3, h4, rfl⟩ := hI
    obtain ⟨hp', hl0', hs0', htop'⟩ := h2
    have h2 : okS e'.p e'.low e'.size := ⟨hp', hl0', hs0', htop'⟩
    conv => whnf
    refine ifB_of (fun hd => ?_) (fun hd => ?_)
    · have hd := of_decide_eq_true hd
      obtain ⟨k, rfl⟩ : ∃ k', k = k' + 1 := ⟨k - 1, by
        rcases k with _ | k
        · simp at h3; omega
        · omega⟩
      have h5 : 16384 < 2 * e'.size * 2 ^ k := by
        rw [Int.pow_succ] at h3
        have : e'.size * (2 ^ k * 2) = 2 * e'.size * 2 ^ k := by rw [← Int.mul_assoc, Int.mul_comm (e'.size * 2 ^ k) 2, Int.mul_assoc]
        omega
      have h6 := h2.shift hd
      rw [norm_step hd] at h1
      conv => whnf
      rw [top5_eq hl0' (by omega), strad5_eq hl0' hs0' htop']
      cases hs : strad e'.low e'.size
      · rw [shift_f hs] at h1
        conv => whnf
        refine CallsF.call [] [] (one_spec (b := topB e'.low) rfl) rfl rfl rfl rfl rfl (.inl rfl) ?_
        conv => whnf
        refine ⟨.inl ⟨_, rfl⟩, ?_⟩
        conv => whnf
        refine need_of ((decide_eq_true (by rw [sB_size, sB_size]; simp; omega))) ?_
        conv => whnf
        rw [sB_plus]
        refine LoopA.inv (fun j st => ∃ i : Nat, i + j = e'.owed ∧ st = ⟨[(0, .bp 0 0), (9, iv (b2i (topB e'.low)))], [some (.box [.sl 1 0 e'.p.length, iv e'.low, iv e'.size, iv j, iv e'.n, .str (sB (e'.bits ++ owes (topB e'.low) i))]), pD e'.p], 2, 1⟩) e'.owed [0, 9] [1] [] (by rfl) ?_ ?_
        · conv => whnf
          exact ⟨0, by omega, rfl⟩
        rintro j st ⟨i, hi, rfl⟩
        conv => whnf
        refine ifB_of (fun hd2 => ?_) (fun hd2 => ?_)
        · have hd2 := of_decide_eq_true hd2
          conv => whnf
          refine CallsF.call [] [] (opp_spec (b := topB e'.low) rfl) rfl rfl rfl rfl rfl (.inl rfl) ?_
          conv => whnf
          refine ⟨.inl ⟨_, rfl⟩, ?_⟩
          conv => whnf
          refine need_of ((decide_eq_true (by rw [sB_size, sB_size]; simp [owes_len]; omega))) ?_
          conv => whnf
          rw [sB_plus, show IntKind.wrap .i64 ((j : Int) - 1) = ((j - 1 : Nat) : Int) from by rw [wrap_id (by omega) (by omega)]; omega]
          refine ⟨(j - 1), [0, 9], [1], [], by omega, rfl, ?_⟩
          conv => whnf
          refine ⟨i + 1, by omega, ?_⟩
          rw [owes_step, ← List.append_assoc]
        · have hd2 := of_decide_eq_false hd2
          obtain rfl : j = 0 := by omega
          obtain rfl : i = e'.owed := by omega
          conv => whnf
          rw [dbl5_eq hl0' (by omega), wrap_id (n := 2 * e'.size) (by omega) (by omega)]
          refine ⟨k, [0], [1], [], by omega, rfl, ?_⟩
          conv => whnf
          exact ⟨⟨e'.p, e'.n, lowS e'.low e'.size, 2 * e'.size, 0, e'.bits ++ owes (topB e'.low) e'.owed⟩, h1, h6, h5, by simp [owes_len]; omega, by rw [show lowS e'.low e'.size = 2 * e'.low % 65536 by simp [lowS, hs]]⟩
      · rw [shift_t hs] at h1
        have htn := turnN_in hl0' (show e'.low < 65536 by omega)
        conv => whnf
        refine CallsF.call [] [] (turn5_spec hl0' (by omega)) rfl rfl rfl rfl rfl (.inl rfl) ?_
        conv => whnf
        rw [inc_nat (by omega), dbl5_eq htn.1 htn.2, wrap_id (n := 2 * e'.size) (by omega) (by omega)]
        refine ⟨k, [0], [1], [], by omega, rfl, ?_⟩
        conv => whnf
        exact ⟨⟨e'.p, e'.n, lowS e'.low e'.size, 2 * e'.size, e'.owed + 1, e'.bits⟩, h1, h6, h5, by simp; omega, by rw [show lowS e'.low e'.size = 2 * turnN e'.low % 65536 by simp [lowS, hs]]⟩
    · have hd := of_decide_eq_false hd
      rw [norm_done hd] at h1
      subst h1
      conv => whnf
      exact ⟨[1], [], rfl, rfl, rfl⟩

end Go.Proofs.TrydN

