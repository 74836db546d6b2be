/- The document's decoder: a bit told: the walk. -/
import Derived.Test.YtamgmfinkgdkjaaDoorN5Z
namespace Go.Proofs.TrydN
open Go Go.AL Go.Proofs

theorem rD_take (k : Nat) (d : Dec) (c : Int) (b : Bool) : rD k (d.take c b) = rX k d.p.length (lowT d.low (partN d.size (chance d.p c)) b) (sizeT d.size (partN d.size (chance d.p c)) b) d.code (d.n + 1) d.src d.pos d.over := by
  show rX k (learnP d.p c b).length _ _ _ _ _ _ _ = _
  rw [learn_len]
  rfl

set_option maxRecDepth 10000 in
set_option maxHeartbeats 1000000 in
theorem dget5_spec (d : Dec) (h : okD d) (hpl : d.p.length < 4294967296) (c : Int) : CallsF Tryd.prog 24 [.bp 0 0, iv c] [rD 1 d, pD d.p] (.bool (d.told c)) [rD 2 (d.get c), none, pD (d.get c).p] := by
  obtain ⟨hS, hbig, hn, hc0, hc1, hk, hb, hpos, hover⟩ := h
  obtain ⟨hp, hl0, hs0, htop⟩ := hS
  have hS : okS d.p d.low d.size := ⟨hp, hl0, hs0, htop⟩
  unfold Dec.get Dec.told
  refine m24 1 ?_
  conv => whnf
  cases hc : hasC d.p c
  · have hc2 := hasC_no hc
    by_cases h0 : c < 0
    · rw [show decide (c < 0) = true from decide_eq_true h0]
      conv => whnf
      exact ⟨[1], [], rfl, rfl, rfl⟩
    · rw [show decide (c < 0) = false from decide_eq_false h0]
      conv => whnf
      rw [show decide (c ≥ (d.p.length : Int)) = true from decide_eq_true (by omega)]
      conv => whnf
      exact ⟨[1], [], rfl, rfl, rfl⟩
  have hq := hS.chance hc
  have hc2 := chance_at hc
  have kp := partN_in hbig (by omega) hq
  rw [show decide (c < 0) = false from decide_eq_false (by omega)]
  conv => whnf
  rw [show decide (c ≥ (d.p.length : Int)) = false from decide_eq_false (by omega)]
  conv => whnf
  refine need_of ((decide_eq_true ⟨by omega, by omega⟩)) ?_
  conv => whnf
  refine need_of ((decide_eq_true (by omega))) ?_
  conv => whnf
  rw [Nat.zero_add c.toNat, show d.p.getD c.toNat 0 = chance d.p c from rfl, part5_eq hbig (by omega) hq, wrap_id (n := d.code - d.low) (by omega) (by omega)]
  rw [show decide (d.code - d.low ≥ partN d.size (chance d.p c)) = d.bit c from rfl]
  have hS2 := hS.take hbig hc (d.bit c)
  have hcode : lowT d.low (partN d.size (chance d.p c)) (d.bit c) ≤ d.code ∧ d.code < lowT d.low (partN d.size (chance d.p c)) (d.bit c) + sizeT d.size (partN d.size (chance d.p c)) (d.bit c) := by
    cases hbb : d.bit c
    · have := of_decide_eq_false hbb
      simp only [lowT, sizeT]; omega
    · have := of_decide_eq_true hbb
      simp only [lowT, sizeT]; omega
  generalize d.bit c = b at *
  generalize ht : (d.take c b).norm 16 = T
  cases b
  · conv => whnf
    refine CallsF.call [] [] (more4_spec hq) rfl rfl rfl rfl rfl (.inl rfl) ?_
    conv => whnf
    refine ⟨.inl ⟨_, rfl⟩, ?_⟩
    conv => whnf
    refine CallsF.call [1] [] (set_spec _ hc hpl) rfl rfl rfl rfl rfl (.inl rfl) ?_
    conv => whnf
    rw [inc_nat (by omega)]
    refine LoopA.inv (fun k st => ∃ d' : Dec, d'.norm k = T ∧ okS d'.p d'.low d'.size ∧ 16384 < d'.size * 2 ^ k ∧ (d'.low ≤ d'.code ∧ d'.code < d'.low + d'.size) ∧ d'.pos + k ≤ 1073741900 ∧ d'.over + k ≤ 1073741900 ∧ st = ⟨[(0, .bp 0 0), (7, .bool false)], [rD 1 d', pD d'.p], 2, 1⟩) 16 [0, 7] [2] [] (by rfl) ?_ ?_
    · conv => whnf
      exact ⟨d.take c false, ht, hS2, by have := hS2.s0; show 16384 < (d.take c false).size * 65536; unfold Dec.take; simp only; omega, hcode, by simp only [Dec.take]; omega, by simp only [Dec.take]; omega, by rw [rD_take]; rfl⟩
    rintro k st ⟨d', h1, h2, h3, h4, h6, h7, rfl⟩
    obtain ⟨hp', hl0', hs0', htop'⟩ := h2
    have h2 : okS d'.p d'.low d'.size := ⟨hp', hl0', hs0', htop'⟩
    conv => whnf
    refine ifB_of (fun hd => ?_) (fun hd => ?_)
    · have hd := of_decide_eq_true hd
      obtain ⟨k, rfl⟩ : ∃ k', k = k' + 1 := ⟨k - 1, by
        rcases k with _ | k
        · simp at h3; omega
        · omega⟩
      have h8 : 16384 < 2 * d'.size * 2 ^ k := by
        rw [Int.pow_succ] at h3
        have : d'.size * (2 ^ k * 2) = 2 * d'.size * 2 ^ k := by rw [← Int.mul_assoc, Int.mul_comm (d'.size * 2 ^ k) 2, Int.mul_assoc]
        omega
      have h9 := h2.shift hd
      rw [Dec.norm_step hd] at h1
      have cs := code_shift hl0' htop' hd h4.1 h4.2 (rdB d'.src d'.pos)
      have b01 := b2i_in (rdB d'.src d'.pos)
      have o1 : over1 d'.src d'.pos ≤ 1 := by unfold over1; split <;> omega
      have fin : ∀ low code : Int, low = lowS d'.low d'.size → code = codeS d'.low d'.size d'.code + b2i (rdB d'.src d'.pos) → ∃ d2 : Dec, d2.norm k = T ∧ okS d2.p d2.low d2.size ∧ 16384 < d2.size * 2 ^ k ∧ (d2.low ≤ d2.code ∧ d2.code < d2.low + d2.size) ∧ d2.pos + k ≤ 1073741900 ∧ d2.over + k ≤ 1073741900 ∧
          (⟨[(0, .bp 0 0), (7, .bool false)], [rX 1 d'.p.length low (2 * d'.size) code d'.n d'.src (d'.pos + 1) (d'.over + over1 d'.src d'.pos), pD d'.p], 2, 1⟩ : St) = ⟨[(0, .bp 0 0), (7, .bool false)], [rD 1 d2, pD d2.p], 2, 1⟩ := by
        rintro low code rfl rfl
        exact ⟨d'.shift, h1, h9, h8, ⟨by show lowS d'.low d'.size ≤ codeS d'.low d'.size d'.code + b2i (rdB d'.src d'.pos); omega, by show codeS d'.low d'.size d'.code + b2i (rdB d'.src d'.pos) < lowS d'.low d'.size + 2 * d'.size; omega⟩, by show d'.pos + 1 + k ≤ _; omega, by show d'.over + over1 d'.src d'.pos + k ≤ _; omega, rfl⟩
      conv => whnf
      rw [top5_eq hl0' (by omega), strad5_eq hl0' hs0' htop']
      cases hs : strad d'.low d'.size
      · conv => whnf
        rw [dbl5_eq hl0' (by omega), dbl5_eq (v := d'.code) (by omega) (by omega)]
        refine CallsF.call [0, 1] [] (rbit5_spec d'.p.length (2 * d'.low % 65536) d'.size d'.code d'.n d'.src (pos := d'.pos) (over := d'.over) (by omega) (by omega) d'.p) rfl rfl rfl rfl rfl (.inl rfl) ?_
        conv => whnf
        refine ⟨.inr (by repeat (first | exact same_nil | refine same_of rfl ?_)), ?_⟩
        conv => whnf
        rw [wrap_id (n := 2 * d'.code % 65536 + b2i (rdB d'.src d'.pos)) (by omega) (by omega), wrap_id (n := 2 * d'.size) (by omega) (by omega)]
        refine ⟨k, [0, 7], [1], [], by omega, rfl, ?_⟩
        conv => whnf
        exact fin _ _ (by simp [lowS, hs]) (by simp [codeS, hs])
      · have htn := turnN_in hl0' (show d'.low < 65536 by omega)
        have hun := turnN_in (v := d'.code) (by omega) (by omega)
        conv => whnf
        refine CallsF.call [] [] (turn5_spec hl0' (by omega)) rfl rfl rfl rfl rfl (.inl rfl) ?_
        conv => whnf
        refine CallsF.call [] [] (turn5_spec (v := d'.code) (by omega) (by omega)) rfl rfl rfl rfl rfl (.inl rfl) ?_
        conv => whnf
        rw [dbl5_eq htn.1 htn.2, dbl5_eq (v := turnN d'.code) hun.1 hun.2]
        refine CallsF.call [0, 1] [] (rbit5_spec d'.p.length (2 * turnN d'.low % 65536) d'.size (turnN d'.code) d'.n d'.src (pos := d'.pos) (over := d'.over) (by omega) (by omega) d'.p) rfl rfl rfl rfl rfl (.inl rfl) ?_
        conv => whnf
        refine ⟨.inr (by repeat (first | exact same_nil | refine same_of rfl ?_)), ?_⟩
        conv => whnf
        rw [wrap_id (n := 2 * turnN d'.code % 65536 + b2i (rdB d'.src d'.pos)) (by omega) (by omega), wrap_id (n := 2 * d'.size) (by omega) (by omega)]
        refine ⟨k, [0, 7], [1], [], by omega, rfl, ?_⟩
        conv => whnf
        exact fin _ _ (by simp [lowS, hs]) (by simp [codeS, hs])
    · have hd := of_decide_eq_false hd
      rw [Dec.norm_done hd] at h1
      subst h1
      conv => whnf
      exact ⟨[1], [], rfl, rfl, rfl⟩
  · conv => whnf
    rw [wrap_id (n := d.low + partN d.size (chance d.p c)) (by omega) (by omega), wrap_id (n := d.size - partN d.size (chance d.p c)) (by omega) (by omega)]
    refine CallsF.call [] [] (less4_spec hq) rfl rfl rfl rfl rfl (.inl rfl) ?_
    conv => whnf
    refine ⟨.inl ⟨_, rfl⟩, ?_⟩
    conv => whnf
    refine CallsF.call [1] [] (set_spec _ hc hpl) rfl rfl rfl rfl rfl (.inl rfl) ?_
    conv => whnf
    rw [inc_nat (by omega)]
    refine LoopA.inv (fun k st => ∃ d' : Dec, d'.norm k = T ∧ okS d'.p d'.low d'.size ∧ 16384 < d'.size * 2 ^ k ∧ (d'.low ≤ d'.code ∧ d'.code < d'.low + d'.size) ∧ d'.pos + k ≤ 1073741900 ∧ d'.over + k ≤ 1073741900 ∧ st = ⟨[(0, .bp 0 0), (7, .bool true)], [rD 1 d', pD d'.p], 2, 1⟩) 16 [0, 7] [2] [] (by rfl) ?_ ?_
    · conv => whnf
      exact ⟨d.take c true, ht, hS2, by have := hS2.s0; show 16384 < (d.take c true).size * 65536; unfold Dec.take; simp only; omega, hcode, by simp only [Dec.take]; omega, by simp only [Dec.take]; omega, by rw [rD_take]; rfl⟩
    rintro k st ⟨d', h1, h2, h3, h4, h6, h7, rfl⟩
    obtain ⟨hp', hl0', hs0', htop'⟩ := h2
    have h2 : okS d'.p d'.low d'.size := ⟨hp', hl0', hs0', htop'⟩
    conv => whnf
    refine ifB_of (fun hd => ?_) (fun hd => ?_)
    · have hd := of_decide_eq_true hd
      obtain ⟨k, rfl⟩ : ∃ k', k = k' + 1 := ⟨k - 1, by
        rcases k with _ | k
        · simp at h3; omega
        · omega⟩
      have h8 : 16384 < 2 * d'.size * 2 ^ k := by
        rw [Int.pow_succ] at h3
        have : d'.size * (2 ^ k * 2) = 2 * d'.size * 2 ^ k := by rw [← Int.mul_assoc, Int.mul_comm (d'.size * 2 ^ k) 2, Int.mul_assoc]
        omega
      have h9 := h2.shift hd
      rw [Dec.norm_step hd] at h1
      have cs := code_shift hl0' htop' hd h4.1 h4.2 (rdB d'.src d'.pos)
      have b01 := b2i_in (rdB d'.src d'.pos)
      have o1 : over1 d'.src d'.pos ≤ 1 := by unfold over1; split <;> omega
      have fin : ∀ low code : Int, low = lowS d'.low d'.size → code = codeS d'.low d'.size d'.code + b2i (rdB d'.src d'.pos) → ∃ d2 : Dec, d2.norm k = T ∧ okS d2.p d2.low d2.size ∧ 16384 < d2.size * 2 ^ k ∧ (d2.low ≤ d2.code ∧ d2.code < d2.low + d2.size) ∧ d2.pos + k ≤ 1073741900 ∧ d2.over + k ≤ 1073741900 ∧
          (⟨[(0, .bp 0 0), (7, .bool true)], [rX 1 d'.p.length low (2 * d'.size) code d'.n d'.src (d'.pos + 1) (d'.over + over1 d'.src d'.pos), pD d'.p], 2, 1⟩ : St) = ⟨[(0, .bp 0 0), (7, .bool true)], [rD 1 d2, pD d2.p], 2, 1⟩ := by
        rintro low code rfl rfl
        exact ⟨d'.shift, h1, h9, h8, ⟨by show lowS d'.low d'.size ≤ codeS d'.low d'.size d'.code + b2i (rdB d'.src d'.pos); omega, by show codeS d'.low d'.size d'.code + b2i (rdB d'.src d'.pos) < lowS d'.low d'.size + 2 * d'.size; omega⟩, by show d'.pos + 1 + k ≤ _; omega, by show d'.over + over1 d'.src d'.pos + k ≤ _; omega, rfl⟩
      conv => whnf
      rw [top5_eq hl0' (by omega), strad5_eq hl0' hs0' htop']
      cases hs : strad d'.low d'.size
      · conv => whnf
        rw [dbl5_eq hl0' (by omega), dbl5_eq (v := d'.code) (by omega) (by omega)]
        refine CallsF.call [0, 1] [] (rbit5_spec d'.p.length (2 * d'.low % 65536) d'.size d'.code d'.n d'.src (pos := d'.pos) (over := d'.over) (by omega) (by omega) d'.p) rfl rfl rfl rfl rfl (.inl rfl) ?_
        conv => whnf
        refine ⟨.inr (by repeat (first | exact same_nil | refine same_of rfl ?_)), ?_⟩
        conv => whnf
        rw [wrap_id (n := 2 * d'.code % 65536 + b2i (rdB d'.src d'.pos)) (by omega) (by omega), wrap_id (n := 2 * d'.size) (by omega) (by omega)]
        refine ⟨k, [0, 7], [1], [], by omega, rfl, ?_⟩
        conv => whnf
        exact fin _ _ (by simp [lowS, hs]) (by simp [codeS, hs])
      · have htn := turnN_in hl0' (show d'.low < 65536 by omega)
        have hun := turnN_in (v := d'.code) (by omega) (by omega)
        conv => whnf
        refine CallsF.call [] [] (turn5_spec hl0' (by omega)) rfl rfl rfl rfl rfl (.inl rfl) ?_
        conv => whnf
        refine CallsF.call [] [] (turn5_spec (v := d'.code) (by omega) (by omega)) rfl rfl rfl rfl rfl (.inl rfl) ?_
        conv => whnf
        rw [dbl5_eq htn.1 htn.2, dbl5_eq (v := turnN d'.code) hun.1 hun.2]
        refine CallsF.call [0, 1] [] (rbit5_spec d'.p.length (2 * turnN d'.low % 65536) d'.size (turnN d'.code) d'.n d'.src (pos := d'.pos) (over := d'.over) (by omega) (by omega) d'.p) rfl rfl rfl rfl rfl (.inl rfl) ?_
        conv => whnf
        refine ⟨.inr (by repeat (first | exact same_nil | refine same_of rfl ?_)), ?_⟩
        conv => whnf
        rw [wrap_id (n := 2 * turnN d'.code % 65536 + b2i (rdB d'.src d'.pos)) (by omega) (by omega), wrap_id (n := 2 * d'.size) (by omega) (by omega)]
        refine ⟨k, [0, 7], [1], [], by omega, rfl, ?_⟩
        conv => whnf
        exact fin _ _ (by simp [lowS, hs]) (by simp [codeS, hs])
    · have hd := of_decide_eq_false hd
      rw [Dec.norm_done hd] at h1
      subst h1
      conv => whnf
      exact ⟨[1], [], rfl, rfl, rfl⟩

end Go.Proofs.TrydN

