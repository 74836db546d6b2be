/- Layer 5: a bit put: the walk. -/
import Derived.Test.YtamgmfinkgdkjaaDoorN5H
namespace Go.Proofs.TrydN
open Go Go.AL Go.Proofs

theorem learn_len (p : List Int) (c : Int) (b : Bool) : (learnP p c b).length = p.length := by simp [learnP]

theorem learnQ0_spec (p : List Int) (n : Nat) (low size x : Int) {c : Int} (hc : hasC p c = true) (hq : okP (chance p c)) (hn : n < 4294967296) (b : Bool) : CallsF Tryd.prog 44 [.bp 0 0, iv c, .bool b] [cB p n low size x, pD p, some (.box [.snil, iv 0])] (.tup []) [cB (learnP p c b) (n + 1) low size x, pD (learnP p c b), some (.box [.snil, iv 0])] := by
  have k := learn0_spec p n low size x hc hq hn b
  rw [← learn_len p c b] at k
  exact k

theorem learnQ1_spec (p : List Int) (n : Nat) (low size x : Int) (l : List Bool) {c : Int} (hc : hasC p c = true) (hq : okP (chance p c)) (hn : n < 4294967296) (b : Bool) : CallsF Tryd.prog 44 [.bp 0 0, iv c, .bool b] [cB p n low size x, pD p, wB l 3, wD l] (.tup []) [cB (learnP p c b) (n + 1) low size x, pD (learnP p c b), wB l 3, wD l] := by
  have k := learn1_spec p n low size x l hc hq hn b
  rw [← learn_len p c b] at k
  exact k

theorem learnQ2_spec (p : List Int) (n : Nat) (low size x : Int) (bs : List Int) (pos over : Nat) {c : Int} (hc : hasC p c = true) (hq : okP (chance p c)) (hn : n < 4294967296) (b : Bool) : CallsF Tryd.prog 44 [.bp 0 0, iv c, .bool b] [cB p n low size x, pD p, some (.box [.ri .u8 bs, iv pos, iv over])] (.tup []) [cB (learnP p c b) (n + 1) low size x, pD (learnP p c b), some (.box [.ri .u8 bs, iv pos, iv over])] := by
  have k := learn2_spec p n low size x bs pos over hc hq hn b
  rw [← learn_len p c b] at k
  exact k

abbrev hE0 (e : Enc) : AHeap := [cB e.p e.n e.low e.size e.owed, pD e.p, some (.box [.snil, iv 0])]
abbrev hE1 (e : Enc) : AHeap := [cB e.p e.n e.low e.size e.owed, pD e.p, wB e.bits 3, wD e.bits]
abbrev hF1 (e : Enc) : AHeap := [cB e.p e.n e.low e.size e.owed, pD e.p, wB e.bits 4, none, wD e.bits]
def hP0 (e : Enc) : AHeap := match e.bits with
  | [] => hE0 e
  | _ :: _ => hE1 e

theorem norm_done {k : Nat} {e : Enc} (h : ¬e.size ≤ 16384) : e.norm k = e := by cases k <;> simp [Enc.norm, h]
theorem norm_step {k : Nat} {e : Enc} (h : e.size ≤ 16384) : e.norm (k + 1) = e.shift.norm k := by simp [Enc.norm, h]
theorem shift_t {e : Enc} (h : strad e.low e.size = true) : e.shift = ⟨e.p, e.n, lowS e.low e.size, 2 * e.size, e.owed + 1, e.bits⟩ := by simp [Enc.shift, h]
theorem shift_f {e : Enc} (h : strad e.low e.size = false) : e.shift = ⟨e.p, e.n, lowS e.low e.size, 2 * e.size, 0, e.bits ++ owes (topB e.low) e.owed⟩ := by simp [Enc.shift, h]
theorem owes_len (b : Bool) (k : Nat) : (owes b k).length = k + 1 := by simp [owes]

/-- Small enough. -/
structure okE (e : Enc) : Prop where
  s : okS e.p e.low e.size
  big : 16384 < e.size
  n : e.n < 67108864
  len : e.bits.length + e.owed ≤ 16 * e.n

theorem chance_at {p : List Int} {c : Int} (hc : hasC p c = true) : 0 ≤ c ∧ c < p.length := by simpa [hasC] using hc

theorem put1_spec (e : Enc) (h : okE e) (c : Int) (b : Bool) : CallsF Tryd.prog 14 [.bp 0 0, iv c, .bool b] (hE1 e) (.bool (hasC e.p c)) (hF1 (e.put c b)) := by
  obtain ⟨hS, hbig, hn, hlen⟩ := h
  obtain ⟨hp, hl0, hs0, htop⟩ := hS
  have hS : okS e.p e.low e.size := ⟨hp, hl0, hs0, htop⟩
  unfold Enc.put
  refine m14 3 ?_
  conv => whnf
  refine CallsF.call [0, 1, 2, 3] [] (has1_spec e.p e.n e.low e.size e.owed e.bits c) rfl rfl rfl rfl rfl (.inl rfl) ?_
  conv => whnf
  cases hc : hasC e.p c
  · conv => whnf
    exact ⟨[3], [], rfl, rfl, rfl⟩
  have hq := hS.chance hc
  have hc2 := chance_at hc
  have kp := partN_in hbig (by omega) hq
  have hS2 := hS.take hbig hc b
  conv => whnf
  refine need_of ((decide_eq_true ⟨by omega, by omega⟩)) ?_
  conv => whnf
  refine need_of ((decide_eq_true (by omega))) ?_
  conv => whnf
  rw [Nat.zero_add c.toNat]
  refine CallsF.call [] [] (part_spec e.low hbig (by omega) hq) rfl rfl rfl rfl rfl (.inl rfl) ?_
  conv => whnf
  refine CallsF.call [0, 1, 2, 3] [] (take1_spec e.p e.n e.low e.size e.owed e.bits (part := partN e.size (chance e.p c)) hl0 (by omega) (by omega) (by omega) (by omega) (by omega) b) rfl rfl rfl rfl rfl (.inl rfl) ?_
  conv => whnf
  refine CallsF.call [0, 1, 2, 3] [] (learnQ1_spec e.p e.n (lowT e.low (partN e.size (chance e.p c)) b) (sizeT e.size (partN e.size (chance e.p c)) b) e.owed e.bits hc hq (by omega) b) rfl rfl rfl rfl rfl (.inl rfl) ?_
  conv => whnf
  generalize ht : (e.take c b).norm 16 = T
  refine LoopA.inv (fun k st => ∃ e' : Enc, e'.norm k = T ∧ okS e'.p e'.low e'.size ∧ 16384 < e'.size * 2 ^ k ∧ e'.bits.length + e'.owed + k ≤ 1073741840 ∧ st = ⟨[(0, .bp 0 0)], hE1 e', 4, 3⟩) 16 [0] [3] [] (by rfl) ?_ ?_
  · conv => whnf
    exact ⟨e.take c b, ht, hS2, by have := hS2.s0; show 16384 < (e.take c b).size * 65536; unfold Enc.take; simp only; omega, by simp only [Enc.take]; omega, rfl⟩
  rintro k st ⟨e', h1, h2, h3, h4, rfl⟩
  obtain ⟨hp', hl0', hs0', htop'⟩ := h2
  have h2 : okS e'.p e'.low e'.size := ⟨hp', hl0', hs0', htop'⟩
  conv => whnf
  refine ifB_of (fun hd => ?_) (fun hd => ?_)
  · have hd := of_decide_eq_true hd
    obtain ⟨k, rfl⟩ : ∃ k', k = k' + 1 := ⟨k - 1, by
      rcases k with _ | k
      · simp at h3; omega
      · omega⟩
    have h5 : 16384 < 2 * e'.size * 2 ^ k := by
      rw [Int.pow_succ] at h3
      have : e'.size * (2 ^ k * 2) = 2 * e'.size * 2 ^ k := by rw [← Int.mul_assoc, Int.mul_comm (e'.size * 2 ^ k) 2, Int.mul_assoc]
      omega
    have h6 := h2.shift hd
    rw [norm_step hd] at h1
    have sp := shift1_spec e'.p e'.n e'.owed e'.bits hl0' hs0' htop' (by omega)
    conv => whnf
    cases hs : strad e'.low e'.size
    · rw [hs] at sp
      rw [shift_f hs] at h1
      refine CallsF.call [0, 1, 2, 3] [] (sp) rfl rfl rfl rfl rfl (.inl rfl) ?_
      conv => whnf
      refine ⟨k, [0], [4], [], by omega, rfl, ?_⟩
      conv => whnf
      exact ⟨⟨e'.p, e'.n, lowS e'.low e'.size, 2 * e'.size, 0, e'.bits ++ owes (topB e'.low) e'.owed⟩, h1, h6, h5, by simp [owes_len]; omega, rfl⟩
    · rw [hs] at sp
      rw [shift_t hs] at h1
      refine CallsF.call [0, 1, 2, 3] [] (sp) rfl rfl rfl rfl rfl (.inl rfl) ?_
      conv => whnf
      refine ⟨k, [0], [4], [], by omega, rfl, ?_⟩
      conv => whnf
      exact ⟨⟨e'.p, e'.n, lowS e'.low e'.size, 2 * e'.size, e'.owed + 1, e'.bits⟩, h1, h6, h5, by simp; omega, rfl⟩
  · have hd := of_decide_eq_false hd
    rw [norm_done hd] at h1
    subst h1
    conv => whnf
    exact ⟨[3], [], rfl, rfl, rfl⟩


theorem hP0_nil {e : Enc} (h : e.bits = []) : hP0 e = hE0 e := by unfold hP0; rw [h]
theorem hP0_app {e : Enc} (h : e.bits ≠ []) : hP0 e = hE1 e := by
  unfold hP0
  cases hb : e.bits with
  | nil => exact absurd hb h
  | cons x l => rfl

theorem put0_spec (e : Enc) (hb0 : e.bits = []) (h : okE e) (c : Int) (b : Bool) : CallsF Tryd.prog 14 [.bp 0 0, iv c, .bool b] (hE0 e) (.bool (hasC e.p c)) (hP0 (e.put c b)) := by
  obtain ⟨hS, hbig, hn, hlen⟩ := h
  obtain ⟨hp, hl0, hs0, htop⟩ := hS
  have hS : okS e.p e.low e.size := ⟨hp, hl0, hs0, htop⟩
  unfold Enc.put
  refine m14 3 ?_
  conv => whnf
  refine CallsF.call [0, 1, 2] [] (has0_spec e.p e.n e.low e.size e.owed c) rfl rfl rfl rfl rfl (.inl rfl) ?_
  conv => whnf
  cases hc : hasC e.p c
  · conv => whnf
    rw [hP0_nil hb0]
    exact ⟨[], [], rfl, rfl, rfl⟩
  have hq := hS.chance hc
  have hc2 := chance_at hc
  have kp := partN_in hbig (by omega) hq
  have hS2 := hS.take hbig hc b
  conv => whnf
  refine need_of ((decide_eq_true ⟨by omega, by omega⟩)) ?_
  conv => whnf
  refine need_of ((decide_eq_true (by omega))) ?_
  conv => whnf
  rw [Nat.zero_add c.toNat]
  refine CallsF.call [] [] (part_spec e.low hbig (by omega) hq) rfl rfl rfl rfl rfl (.inl rfl) ?_
  conv => whnf
  refine CallsF.call [0, 1, 2] [] (take0_spec e.p e.n e.low e.size e.owed (part := partN e.size (chance e.p c)) hl0 (by omega) (by omega) (by omega) (by omega) (by omega) b) rfl rfl rfl rfl rfl (.inl rfl) ?_
  conv => whnf
  refine CallsF.call [0, 1, 2] [] (learnQ0_spec e.p e.n (lowT e.low (partN e.size (chance e.p c)) b) (sizeT e.size (partN e.size (chance e.p c)) b) e.owed hc hq (by omega) b) rfl rfl rfl rfl rfl (.inl rfl) ?_
  conv => whnf
  generalize ht : (e.take c b).norm 16 = T
  refine LoopA.inv (fun k st => ∃ e' : Enc, e'.norm k = T ∧ okS e'.p e'.low e'.size ∧ 16384 < e'.size * 2 ^ k ∧ e'.bits.length + e'.owed + k ≤ 1073741840 ∧ ((e'.bits = [] ∧ st = ⟨[(0, .bp 0 0)], hE0 e', 3, 3⟩) ∨ (e'.bits ≠ [] ∧ st = ⟨[(0, .bp 0 0)], hE1 e', 4, 3⟩))) 16 [0] [] [] (by rfl) ?_ ?_
  · conv => whnf
    exact ⟨e.take c b, ht, hS2, by have := hS2.s0; show 16384 < (e.take c b).size * 65536; unfold Enc.take; simp only; omega, by simp only [Enc.take]; omega, .inl ⟨hb0, rfl⟩⟩
  rintro k st ⟨e', h1, h2, h3, h4, ⟨hnil, rfl⟩ | ⟨hne, rfl⟩⟩
  · obtain ⟨hp', hl0', hs0', htop'⟩ := h2
    have h2 : okS e'.p e'.low e'.size := ⟨hp', hl0', hs0', htop'⟩
    conv => whnf
    refine ifB_of (fun hd => ?_) (fun hd => ?_)
    · have hd := of_decide_eq_true hd
      obtain ⟨k, rfl⟩ : ∃ k', k = k' + 1 := ⟨k - 1, by
        rcases k with _ | k
        · simp at h3; omega
        · omega⟩
      have h5 : 16384 < 2 * e'.size * 2 ^ k := by
        rw [Int.pow_succ] at h3
        have : e'.size * (2 ^ k * 2) = 2 * e'.size * 2 ^ k := by rw [← Int.mul_assoc, Int.mul_comm (e'.size * 2 ^ k) 2, Int.mul_assoc]
        omega
      have h6 := h2.shift hd
      rw [norm_step hd] at h1
      have sp := shift0_spec e'.p e'.n e'.owed hl0' hs0' htop' (by omega)
      conv => whnf
      cases hs : strad e'.low e'.size
      · rw [hs] at sp
        rw [shift_f hs] at h1
        refine CallsF.call [0, 1, 2] [] (sp) rfl rfl rfl rfl rfl (.inl rfl) ?_
        conv => whnf
        refine ⟨k, [0], [3], [], by omega, rfl, ?_⟩
        conv => whnf
        exact ⟨⟨e'.p, e'.n, lowS e'.low e'.size, 2 * e'.size, 0, e'.bits ++ owes (topB e'.low) e'.owed⟩, h1, h6, h5, by simp [owes_len]; omega, .inr ⟨by simp [owes], by rw [hnil]; rfl⟩⟩
      · rw [hs] at sp
        rw [shift_t hs] at h1
        refine CallsF.call [0, 1, 2] [] (sp) rfl rfl rfl rfl rfl (.inl rfl) ?_
        conv => whnf
        refine ⟨k, [0], [], [], by omega, rfl, ?_⟩
        conv => whnf
        exact ⟨⟨e'.p, e'.n, lowS e'.low e'.size, 2 * e'.size, e'.owed + 1, e'.bits⟩, h1, h6, h5, by simp; omega, .inl ⟨hnil, rfl⟩⟩
    · have hd := of_decide_eq_false hd
      rw [norm_done hd] at h1
      subst h1
      conv => whnf
      rw [hP0_nil hnil]
      exact ⟨[], [], rfl, rfl, rfl⟩
  · obtain ⟨hp', hl0', hs0', htop'⟩ := h2
    have h2 : okS e'.p e'.low e'.size := ⟨hp', hl0', hs0', htop'⟩
    conv => whnf
    refine ifB_of (fun hd => ?_) (fun hd => ?_)
    · have hd := of_decide_eq_true hd
      obtain ⟨k, rfl⟩ : ∃ k', k = k' + 1 := ⟨k - 1, by
        rcases k with _ | k
        · simp at h3; omega
        · omega⟩
      have h5 : 16384 < 2 * e'.size * 2 ^ k := by
        rw [Int.pow_succ] at h3
        have : e'.size * (2 ^ k * 2) = 2 * e'.size * 2 ^ k := by rw [← Int.mul_assoc, Int.mul_comm (e'.size * 2 ^ k) 2, Int.mul_assoc]
        omega
      have h6 := h2.shift hd
      rw [norm_step hd] at h1
      have sp := shift1_spec e'.p e'.n e'.owed e'.bits hl0' hs0' htop' (by omega)
      conv => whnf
      cases hs : strad e'.low e'.size
      · rw [hs] at sp
        rw [shift_f hs] at h1
        refine CallsF.call [0, 1, 2, 3] [] (sp) rfl rfl rfl rfl rfl (.inl rfl) ?_
        conv => whnf
        refine ⟨k, [0], [4], [], by omega, rfl, ?_⟩
        conv => whnf
        exact ⟨⟨e'.p, e'.n, lowS e'.low e'.size, 2 * e'.size, 0, e'.bits ++ owes (topB e'.low) e'.owed⟩, h1, h6, h5, by simp [owes_len]; omega, .inr ⟨by simp [owes], rfl⟩⟩
      · rw [hs] at sp
        rw [shift_t hs] at h1
        refine CallsF.call [0, 1, 2, 3] [] (sp) rfl rfl rfl rfl rfl (.inl rfl) ?_
        conv => whnf
        refine ⟨k, [0], [4], [], by omega, rfl, ?_⟩
        conv => whnf
        exact ⟨⟨e'.p, e'.n, lowS e'.low e'.size, 2 * e'.size, e'.owed + 1, e'.bits⟩, h1, h6, h5, by simp; omega, .inr ⟨hne, rfl⟩⟩
    · have hd := of_decide_eq_false hd
      rw [norm_done hd] at h1
      subst h1
      conv => whnf
      rw [hP0_app hne]
      exact ⟨[3], [], rfl, rfl, rfl⟩


end Go.Proofs.TrydN

