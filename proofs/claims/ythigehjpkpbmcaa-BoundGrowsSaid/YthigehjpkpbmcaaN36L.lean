/- Layer 36: do heads and choices fit? -/
import Derived.Test.YthigehjpkpbmcaaAL29
import Derived.Test.YthigehjpkpbmcaaF36
import Derived.Test.YthigehjpkpbmcaaN36K
namespace Go.Proofs.TryN
open Go Go.AL Go.Proofs

def compLB (lx ly sx sy c p : Int) : Bool := lapsR (shr lx (hxN p c)) (shr ly (hyN p c)) (shr sx (hxN p c)) (shr sy (hyN p c))

def fitsH (w h c lx ly sx sy pel : Int) : Bool :=
  (((lapsR lx ly sx sy && inB pel 0 3) && ((compLB lx ly sx sy c 0 && compLB lx ly sx sy c 1) && compLB lx ly sx sy c 2)) && (inB (fcover w sx) 1 64 && inB (fcover h sy) 1 64)) &&
    ((covB (fcover w sx) (fcover h sy) w h c sx sy 0 && covB (fcover w sx) (fcover h sy) w h c sx sy 1) && covB (fcover w sx) (fcover h sy) w h c sx sy 2)

theorem lapsR_in {lx ly sx sy : Int} (h : lapsR lx ly sx sy = true) : (1 ≤ sx ∧ sx ≤ 64) ∧ (1 ≤ sy ∧ sy ≤ 64) := by
  simp only [lapsR, wayB, Bool.and_eq_true, decide_eq_true_eq] at h
  omega

theorem inB_iff {n a b : Int} : inB n a b = true ↔ a ≤ n ∧ n ≤ b := by simp [inB]

set_option maxRecDepth 10000 in
theorem fits_spec' (w h c b num : Int) (rs : List Int) (lx ly sx sy pel : Int) (hv : videoR w h c b = true) (hr : (num = 1 ∧ rs = [0]) ∨ (num = 2 ∧ rs = [0, 1])) :
    CallsF Try.prog 95 [vid w h c b, .agg (hdC num rs lx ly sx sy pel true)] [] (.bool (fitsH w h c lx ly sx sy pel)) [] := by
  obtain ⟨v1, v2, v3, v4⟩ := videoR_in hv
  have hr' := hr
  refine e95 ?_
  conv => whnf
  refine CallsF.call [] [] (video_spec w h c b) rfl rfl rfl rfl rfl (.inl rfl) ?_
  conv => whnf
  rw [hv]
  conv => whnf
  refine CallsF.call [] [] (hright_spec num rs lx ly sx sy pel hr) rfl rfl rfl rfl rfl (.inl rfl) ?_
  conv => whnf
  refine ifB_of (fun h1 => ?_) (fun h1 => ?_)
  · conv => whnf
    refine ⟨[], [], rfl, congrArg AV.bool ?_, rfl⟩
    have h1 : (lapsR lx ly sx sy && inB pel 0 3) = false := by rw [Bool.not_eq_true'] at h1; exact h1
    rw [fitsH, h1]; simp
  have h1 : (lapsR lx ly sx sy && inB pel 0 3) = true := by rw [Bool.not_eq_false'] at h1; exact h1
  have h1' := lapsR_in (Bool.and_eq_true_iff.1 h1).1
  rcases hr with ⟨rfl, rfl⟩ | ⟨rfl, rfl⟩
  all_goals
    conv => whnf
    refine LoopA.unroll 4 [2, 3, 20] [0, 1] [] [0, 1] [] (by rfl) ?_
    conv => whnf
    refine CallsF.call [] [] (rcomp_spec w h c b 0 _ _ lx ly sx sy pel true hv (by omega)) rfl rfl rfl rfl rfl (.inl rfl) ?_
    conv => whnf
    refine CallsF.call [] [] (laps_spec (shr lx (hxN 0 c)) (shr ly (hyN 0 c)) (shr sx (hxN 0 c)) (shr sy (hyN 0 c))) rfl rfl rfl rfl rfl (.inl rfl) ?_
    conv => whnf
    refine ifB_of (fun (h2 : (!compLB lx ly sx sy c 0) = true) => ?_) (fun (h2 : (!compLB lx ly sx sy c 0) = false) => ?_)
    · conv => whnf
      refine ⟨[], [], rfl, congrArg AV.bool ?_, rfl⟩
      have h2 : compLB lx ly sx sy c 0 = false := by simpa using h2
      rw [fitsH, h2]; simp
    have q0 : compLB lx ly sx sy c 0 = true := by simpa using h2
    clear h2
    conv => whnf
    refine ⟨rfl, ?_⟩
    conv => whnf
    refine CallsF.call [] [] (rcomp_spec w h c b 1 _ _ lx ly sx sy pel true hv (by omega)) rfl rfl rfl rfl rfl (.inl rfl) ?_
    conv => whnf
    refine CallsF.call [] [] (laps_spec (shr lx (hxN 1 c)) (shr ly (hyN 1 c)) (shr sx (hxN 1 c)) (shr sy (hyN 1 c))) rfl rfl rfl rfl rfl (.inl rfl) ?_
    conv => whnf
    refine ifB_of (fun (h2 : (!compLB lx ly sx sy c 1) = true) => ?_) (fun (h2 : (!compLB lx ly sx sy c 1) = false) => ?_)
    · conv => whnf
      refine ⟨[], [], rfl, congrArg AV.bool ?_, rfl⟩
      have h2 : compLB lx ly sx sy c 1 = false := by simpa using h2
      rw [fitsH, h2]; simp
    have q1 : compLB lx ly sx sy c 1 = true := by simpa using h2
    clear h2
    conv => whnf
    refine ⟨rfl, ?_⟩
    conv => whnf
    refine CallsF.call [] [] (rcomp_spec w h c b 2 _ _ lx ly sx sy pel true hv (by omega)) rfl rfl rfl rfl rfl (.inl rfl) ?_
    conv => whnf
    refine CallsF.call [] [] (laps_spec (shr lx (hxN 2 c)) (shr ly (hyN 2 c)) (shr sx (hxN 2 c)) (shr sy (hyN 2 c))) rfl rfl rfl rfl rfl (.inl rfl) ?_
    conv => whnf
    refine ifB_of (fun (h2 : (!compLB lx ly sx sy c 2) = true) => ?_) (fun (h2 : (!compLB lx ly sx sy c 2) = false) => ?_)
    · conv => whnf
      refine ⟨[], [], rfl, congrArg AV.bool ?_, rfl⟩
      have h2 : compLB lx ly sx sy c 2 = false := by simpa using h2
      rw [fitsH, h2]; simp
    have q2 : compLB lx ly sx sy c 2 = true := by simpa using h2
    clear h2
    conv => whnf
    refine ⟨rfl, ?_⟩
    conv => whnf
    refine CallsF.call [] [] (rsquares_spec w h c b lx ly sx sy v1 v2 h1'.1 h1'.2) rfl rfl rfl rfl rfl (.inl rfl) ?_
    conv => whnf
    refine CallsF.call [] [] (rbetween_spec (fcover w sx) 1 64) rfl rfl rfl rfl rfl (.inl rfl) ?_
    conv => whnf
    refine ifB_of (fun ha => ?_) (fun ha => ?_)
    · conv => whnf
      refine CallsF.call [] [] (rbetween_spec (fcover h sy) 1 64) rfl rfl rfl rfl rfl (.inl rfl) ?_
      conv => whnf
      refine ifB_of (fun hd => ?_) (fun hd => ?_)
      · conv => whnf
        have hp : ∀ p, 0 ≤ p ∧ p ≤ 2 → compLB lx ly sx sy c p = true := fun p hp => by rcases three hp with rfl | rfl | rfl <;> assumption
        refine CallsF.call [] [] (covers_spec w h c b _ _ lx ly sx sy pel true (fcover w sx) (fcover h sy) hv (inB_iff.1 ha) (inB_iff.1 hd) (fun p hh => (lapsR_in (hp p hh)).1) (fun p hh => (lapsR_in (hp p hh)).2)) rfl rfl rfl rfl rfl (.inl rfl) ?_
        conv => whnf
        refine ⟨[], [], rfl, congrArg AV.bool ?_, rfl⟩
        rw [fitsH, h1, q0, q1, q2, ha, hd]; simp
      · conv => whnf
        refine ⟨[], [], rfl, congrArg AV.bool ?_, rfl⟩
        rw [fitsH, hd]; simp
    · conv => whnf
      refine ⟨[], [], rfl, congrArg AV.bool ?_, rfl⟩
      rw [fitsH, ha]; simp

def choiceB (r l p : Int) : Bool := (inB r 0 8 && inB l 1 6) && inB p 0 65536

set_option maxRecDepth 10000 in
theorem cfits_spec (w h c b n lx ly sx sy pel r l p : Int) (hv : videoR w h c b = true) (hn : n = 1 ∨ n = 2) :
    CallsF Try.prog 82 [vid w h c b, iv n, .agg [iv lx, iv ly, iv sx, iv sy, iv pel, iv r, iv l, iv p]] [] (.bool (fitsH w h c lx ly sx sy pel && choiceB r l p)) [] := by
  refine e82 ?_
  conv => whnf
  refine CallsF.call [] [] (cbetween_spec n 1 2) rfl rfl rfl rfl rfl (.inl rfl) ?_
  conv => whnf
  have hb : inB n 1 2 = true := by rcases hn with rfl | rfl <;> rfl
  rw [hb]
  conv => whnf
  refine CallsF.call [] [] (chead_spec n hn lx ly sx sy pel r l p) rfl rfl rfl rfl rfl (.inl rfl) ?_
  conv => whnf
  refine ⟨⟨_, rfl⟩, ?_⟩
  conv => whnf
  refine CallsF.call [] [] (fits_spec' w h c b n _ lx ly sx sy pel hv (by rcases hn with rfl | rfl; exact .inl ⟨rfl, rfl⟩; exact .inr ⟨rfl, rfl⟩)) rfl rfl rfl rfl rfl (.inl rfl) ?_
  conv => whnf
  refine ifB_of (fun h1 => ?_) (fun h1 => ?_)
  · conv => whnf
    refine ⟨[], [], rfl, congrArg AV.bool ?_, rfl⟩
    have h1 : fitsH w h c lx ly sx sy pel = false := by simpa using h1
    rw [h1]; rfl
  have h1 : fitsH w h c lx ly sx sy pel = true := by simpa using h1
  rw [h1]
  conv => whnf
  refine CallsF.call [] [] (cbetween_spec r 0 8) rfl rfl rfl rfl rfl (.inl rfl) ?_
  conv => whnf
  refine ifB_of (fun h2 => ?_) (fun h2 => ?_)
  · conv => whnf
    refine CallsF.call [] [] (cbetween_spec l 1 6) rfl rfl rfl rfl rfl (.inl rfl) ?_
    conv => whnf
    refine ifB_of (fun h3 => ?_) (fun h3 => ?_)
    · conv => whnf
      refine CallsF.call [] [] (cbetween_spec p 0 65536) rfl rfl rfl rfl rfl (.inl rfl) ?_
      conv => whnf
      refine ⟨[], [], rfl, congrArg AV.bool ?_, rfl⟩
      rw [choiceB, h2, h3]; rfl
    · conv => whnf
      refine ⟨[], [], rfl, congrArg AV.bool ?_, rfl⟩
      rw [choiceB, h3]; simp
  · conv => whnf
    refine ⟨[], [], rfl, congrArg AV.bool ?_, rfl⟩
    rw [choiceB, h2]; rfl
end Go.Proofs.TryN

