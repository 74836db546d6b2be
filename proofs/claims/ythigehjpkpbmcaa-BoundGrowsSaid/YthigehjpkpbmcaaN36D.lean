/- Layer 36: bands, one by one. -/
import Derived.Test.YthigehjpkpbmcaaAL27
import Derived.Test.YthigehjpkpbmcaaF36
import Derived.Test.YthigehjpkpbmcaaN36C
namespace Go.Proofs.TryN
open Go Go.AL Go.Proofs

def fitsB (w h d : Int) : Bool := ((decide (0 < padN w d) && (padN w d == w)) && decide (0 < padN h d)) && (padN h d == h)

theorem fits_spec (w h d : Int) : CallsF Try.prog 76 [iv w, iv h, iv d] [] (.bool (fitsB w h d)) [] := by
  refine e76 ?_
  conv => whnf
  refine CallsF.call [] [] (padded_spec w d) rfl rfl rfl rfl rfl (.inl rfl) ?_
  conv => whnf
  refine CallsF.call [] [] (padded_spec h d) rfl rfl rfl rfl rfl (.inl rfl) ?_
  conv => whnf
  iterate 3 (all_goals (try (refine ifB_of (fun _ => ?_) (fun _ => ?_))); all_goals (conv => whnf))
  all_goals (refine ⟨[], [], rfl, congrArg AV.bool ?_, rfl⟩; simp_all [fitsB] <;> omega)

def loL (k : Nat) : Nat := (k + 2) / 3
def loO (k : Nat) : Nat := if k = 0 then 0 else (k - 1) % 3 + 1

/-- A band of a level and an orient. -/
def bandR (w h d l o : Nat) : List AV :=
  [iv l, iv o, iv ((if o % 2 = 1 then w / 2 ^ (d - (l - 1)) else 0 : Nat) : Int), iv ((if 2 ≤ o then h / 2 ^ (d - (l - 1)) else 0 : Nat) : Int), iv ((w / 2 ^ (d - (l - 1)) : Nat) : Int), iv ((h / 2 ^ (d - (l - 1)) : Nat) : Int)]

def bandK (w h d k : Nat) : List AV := bandR w h d (loL k) (loO k)

theorem shr_nat (w s : Nat) (h : s ≤ 64) : ((w : Int)).fdiv (2 ^ (min (s : Int).toNat IntKind.i64.bits)) = ((w / 2 ^ s : Nat) : Int) := by
  have e : min (s : Int).toNat IntKind.i64.bits = s := by
    have : IntKind.i64.bits = 64 := rfl
    rw [this]; omega
  rw [e, Int.fdiv_eq_ediv_of_nonneg _ (Int.pow_nonneg (by omega))]
  simp

theorem bandv_spec (w h d l o : Nat) (hd : d ≤ 6) (hl : l ≤ d) (ho : o ≤ 3) : CallsF Try.prog 77 [iv w, iv h, iv d, iv l, iv o] [] (.agg (bandR w h d l o)) [] := by
  have es : IntKind.wrap .i64 ((d : Int) - (if 0 > IntKind.wrap .i64 ((l : Int) - 1) then 0 else IntKind.wrap .i64 ((l : Int) - 1))) = ((d - (l - 1) : Nat) : Int) := by
    rw [wrap_id (n := (l : Int) - 1) (by omega) (by omega)]
    split <;> rw [wrap_id (by omega) (by omega)] <;> omega
  have hs : d - (l - 1) ≤ 64 := by omega
  refine e77 ?_
  conv => whnf
  rw [es]
  conv => whnf
  rw [shr_nat _ _ hs, shr_nat _ _ hs]
  have ho' : o = 0 ∨ o = 1 ∨ o = 2 ∨ o = 3 := by omega
  rcases ho' with rfl | rfl | rfl | rfl
  all_goals (conv => whnf)
  all_goals exact ⟨[], [], rfl, rfl, rfl⟩
/-- The rounds from s on. -/
def bandX (w h d s n : Nat) : List (List AV) := (List.range' s n).map fun k : Nat => [iv k, .agg (bandK w h d k)]

theorem bandX_three (w h d s n : Nat) : bandX w h d s (3 * (n + 1)) = [iv s, .agg (bandK w h d s)] :: [iv (s + 1 : Nat), .agg (bandK w h d (s + 1))] :: [iv (s + 2 : Nat), .agg (bandK w h d (s + 2))] :: bandX w h d (s + 3) (3 * n) := rfl

def allX (w h d : Int) : List (List AV) := if fitsB w h d then bandX w.toNat h.toNat d.toNat 0 (3 * d.toNat + 1) else []

theorem padN_in (w d : Int) (h : 0 < padN w d) : (1 ≤ w ∧ w ≤ 1024) ∧ (0 ≤ d ∧ d ≤ 6) := by
  unfold padN at h
  split at h
  · assumption
  · omega

theorem fitsB_in {w h d : Int} (hf : fitsB w h d = true) : (1 ≤ w ∧ w ≤ 1024) ∧ (1 ≤ h ∧ h ≤ 1024) ∧ (0 ≤ d ∧ d ≤ 6) := by
  simp only [fitsB, Bool.and_eq_true, decide_eq_true_eq] at hf
  obtain ⟨⟨⟨h1, h2⟩, h3⟩, h4⟩ := hf
  have a := padN_in w d h1
  have b := padN_in h d h3
  exact ⟨a.1, b.1, a.2⟩

theorem all_spec (w h d : Int) : CallsF Try.prog 56 [iv w, iv h, iv d] [] (.fn 75 [.rp [iv w] 0, .rp [iv h] 0, .rp [iv d] 0]) [] := by
  refine e56 ?_
  conv => whnf
  exact ⟨[], [0, 1, 2], rfl, rfl, rfl⟩

theorem inc_nat {n : Nat} (h : n ≤ 2 ^ 60) : IntKind.wrap .i64 ((n : Int) + 1) = ((n + 1 : Nat) : Int) := by rw [wrap_id (by omega) (by omega)]; rfl

theorem bandK_at (w h d L o : Nat) (ho : 1 ≤ o ∧ o ≤ 3) : bandK w h d (3 * L + o) = bandR w h d (L + 1) o := by
  have e1 : loL (3 * L + o) = L + 1 := by unfold loL; omega
  have e2 : loO (3 * L + o) = o := by unfold loO; split <;> omega
  rw [bandK, e1, e2]

set_option maxRecDepth 10000 in
theorem allX_spec (w h d : Int) : IterA Try.prog 75 [.rp [iv w] 0, .rp [iv h] 0, .rp [iv d] 0] (allX w h d) := by
  refine i75 ⟨rfl, fun l => ?_⟩
  conv => whnf
  refine CallsF.call [] [] (fits_spec w h d) rfl rfl rfl rfl rfl (.inl rfl) ?_
  conv => whnf
  refine ifB_of (fun h1 => ?_) (fun h1 => ?_)
  · conv => whnf
    have hx : allX w h d = [] := by rw [allX, if_neg (by simpa using h1)]
    rw [hx]
    exact fun _ => rfl
  conv => whnf
  have hf : fitsB w h d = true := by simpa using h1
  obtain ⟨b1, b2, b3⟩ := fitsB_in hf
  obtain ⟨W, rfl⟩ : ∃ W : Nat, w = W := ⟨w.toNat, by omega⟩
  obtain ⟨H, rfl⟩ : ∃ H : Nat, h = H := ⟨h.toNat, by omega⟩
  obtain ⟨D, rfl⟩ : ∃ D : Nat, d = D := ⟨d.toNat, by omega⟩
  have hx : allX W H D = [iv (0 : Nat), .agg (bandK W H D 0)] :: bandX W H D 1 (3 * D) := by
    rw [allX, if_pos hf, Nat.add_comm]; simp only [Int.toNat_natCast]; rw [bandX, Nat.add_comm, List.range'_succ]; rfl
  rw [hx]
  refine CallsF.call [] [] (bandv_spec W H D 0 0 (by omega) (by omega) (by omega)) rfl rfl rfl rfl rfl (.inl rfl) ?_
  conv => whnf
  refine ⟨⟨rfl, rfl, rfl, rfl⟩, ?_, ?_⟩
  · conv => whnf
    refine LoopA.inv (fun n st => ∃ L : Nat, n + L = D ∧ st = ⟨[(0, .yld l), (1, .rp [iv W] 0), (2, .rp [iv H] 0), (3, .rp [iv D] 0), (5, iv (3 * L + 1 : Nat)), (22, iv D), (23, iv L), (999999, .gh l true (bandX W H D (3 * L + 1) (3 * n)))], [], 0, 0⟩) D [0, 1, 2, 3, 5, 22, 23, 999999] [] [] (by rfl) ?_ ?_
    · conv => whnf
      exact ⟨0, rfl, rfl⟩
    rintro n st ⟨L, hn, rfl⟩
    conv => whnf
    refine ifB_of (fun h2 => ?_) (fun h2 => ?_)
    · have h2 : L < D := by have := of_decide_eq_true h2; omega
      obtain ⟨m, rfl⟩ : ∃ m, n = m + 1 := ⟨n - 1, by omega⟩
      rw [bandX_three]
      conv => whnf
      refine LoopA.unroll 4 [0, 1, 2, 3, 5, 6, 7, 22, 23, 999999] [] [] [] [] (by rfl) ?_
      conv => whnf
      rw [inc_nat (by omega)]
      refine CallsF.call [] [] (bandv_spec W H D (L + 1) 1 (by omega) (by omega) (by omega)) rfl rfl rfl rfl rfl (.inl rfl) ?_
      conv => whnf
      refine ⟨⟨rfl, rfl, (by show [_, AV.agg (bandR W H D (L + 1) 1)] = [_, AV.agg (bandK W H D (3 * L + 1))]; rw [bandK_at W H D L 1 (by omega)]; rfl), rfl⟩, ?_, fun h => absurd h (by simp)⟩
      conv => whnf
      rw [inc_nat (by omega)]
      refine ⟨rfl, ?_⟩
      conv => whnf
      rw [inc_nat (by omega)]
      refine CallsF.call [] [] (bandv_spec W H D (L + 1) 2 (by omega) (by omega) (by omega)) rfl rfl rfl rfl rfl (.inl rfl) ?_
      conv => whnf
      refine ⟨⟨rfl, rfl, (by show [_, AV.agg (bandR W H D (L + 1) 2)] = [_, AV.agg (bandK W H D (3 * L + 2))]; rw [bandK_at W H D L 2 (by omega)]; rfl), rfl⟩, ?_, fun h => absurd h (by simp)⟩
      conv => whnf
      rw [inc_nat (by omega)]
      refine ⟨rfl, ?_⟩
      conv => whnf
      rw [inc_nat (by omega)]
      refine CallsF.call [] [] (bandv_spec W H D (L + 1) 3 (by omega) (by omega) (by omega)) rfl rfl rfl rfl rfl (.inl rfl) ?_
      conv => whnf
      refine ⟨⟨rfl, rfl, (by show [_, AV.agg (bandR W H D (L + 1) 3)] = [_, AV.agg (bandK W H D (3 * L + 3))]; rw [bandK_at W H D L 3 (by omega)]; rfl), rfl⟩, ?_, fun h => absurd h (by simp)⟩
      conv => whnf
      rw [inc_nat (by omega)]
      refine ⟨rfl, ?_⟩
      conv => whnf
      refine ⟨m, [0, 1, 2, 3, 5, 22, 23, 999999], [], [], by omega, rfl, ?_⟩
      conv => whnf
      rw [inc_nat (by omega)]
      refine ⟨L + 1, by omega, ?_⟩
      rw [show 3 * (L + 1) + 1 = 3 * L + 1 + 3 by omega]
    · have h2 : ¬L < D := by have := of_decide_eq_false h2; omega
      conv => whnf
      obtain rfl : n = 0 := by omega
      exact fun _ => rfl
  · conv => whnf
    exact fun h => absurd h (by simp)
end Go.Proofs.TryN

