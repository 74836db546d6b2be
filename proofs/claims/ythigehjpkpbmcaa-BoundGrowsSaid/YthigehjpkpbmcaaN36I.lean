/- Layer 36: heads and components of pictures. -/
import Derived.Test.YthigehjpkpbmcaaAL29
import Derived.Test.YthigehjpkpbmcaaF36
import Derived.Test.YthigehjpkpbmcaaN36H
namespace Go.Proofs.TryN
open Go Go.AL Go.Proofs

def hxN (part c : Int) : Int := if part = 0 then 0 else if 1 ≤ c then 1 else 0
def hyN (part c : Int) : Int := if part = 0 then 0 else if c = 2 then 1 else 0
def shr (l x : Int) : Int := l.fdiv (2 ^ min x.toNat IntKind.i64.bits)
def upN (n x : Int) : Int := shr (IntKind.wrap .i64 (n + x)) x

theorem shr_zero (l : Int) : shr l 0 = l := by show l.fdiv 1 = l; exact Int.fdiv_one l
theorem shr_one (l : Int) : shr l 1 = l / 2 := by show l.fdiv 2 = l / 2; exact Int.fdiv_eq_ediv_of_nonneg _ (by omega)
theorem upN_zero {n : Int} (h : 1 ≤ n ∧ n ≤ 128) : upN n 0 = n := by rw [upN, shr_zero, wrap_id (by omega) (by omega)]; omega
theorem upN_one {n : Int} (h : 1 ≤ n ∧ n ≤ 128) : upN n 1 = (n + 1) / 2 := by rw [upN, shr_one, wrap_id (by omega) (by omega)]

def hdW (num : Int) (r : AV) (lx ly sx sy pel : Int) (bare : Bool) : List AV :=
  [iv num, r, .bool false, iv 0, iv lx, iv ly, iv sx, iv sy, iv pel, iv 0, iv 0, iv 0, iv 0, iv 0, iv 0, iv 0, iv 0, iv 0, iv 0, iv 0, iv 0, iv 0, iv 0, iv 0, iv 0, iv 0, iv 0, iv 0, iv 0, .bool bare,
    iv 0, iv 0, iv 0, iv 0, iv 0, iv 0, iv 0, iv 0, iv 0, iv 0, iv 0, iv 0, iv 0, iv 0, iv 0, iv 0, .bool false]

def hdC (num : Int) (rs : List Int) (lx ly sx sy pel : Int) (bare : Bool) : List AV := hdW num (.ri .i64 rs) lx ly sx sy pel bare

def compC (p w h c b lx ly sx sy pel : Int) : List AV :=
  [iv p, iv (upN w (hxN p c)), iv (upN h (hyN p c)), iv (hxN p c), iv (hyN p c), iv (shr lx (hxN p c)), iv (shr ly (hyN p c)), iv (shr sx (hxN p c)), iv (shr sy (hyN p c)), iv b, iv pel]

theorem three {p : Int} (h : 0 ≤ p ∧ p ≤ 2) : p = 0 ∨ p = 1 ∨ p = 2 := by omega

set_option maxRecDepth 10000 in
theorem rcomp_spec (w h c b p num : Int) (rs : List Int) (lx ly sx sy pel : Int) (bare : Bool) (hv : videoR w h c b = true) (hp : 0 ≤ p ∧ p ≤ 2) :
    CallsF Try.prog 62 [vid w h c b, iv p, .agg (hdC num rs lx ly sx sy pel bare)] [] (.agg (compC p w h c b lx ly sx sy pel)) [] := by
  obtain ⟨v1, v2, v3, v4⟩ := videoR_in hv
  refine e62 ?_
  conv => whnf
  refine CallsF.call [] [] (video_spec w h c b) rfl rfl rfl rfl rfl (.inl rfl) ?_
  conv => whnf
  rw [hv]
  conv => whnf
  refine CallsF.call [] [] (rbetween_spec p 0 2) rfl rfl rfl rfl rfl (.inl rfl) ?_
  conv => whnf
  rcases three hp with rfl | rfl | rfl <;> rcases three v3 with rfl | rfl | rfl <;>
  (conv => whnf
   refine ⟨by repeat (first | exact same_nil | refine same_of rfl ?_), ?_⟩
   conv => whnf
   exact ⟨[], [], rfl, rfl, rfl⟩)

set_option maxRecDepth 10000 in
theorem comp24_spec (w h c b p num : Int) (rs : List Int) (lx ly sx sy pel : Int) (bare : Bool) (hv : videoR w h c b = true) (hp : 0 ≤ p ∧ p ≤ 2) :
    CallsF Try.prog 66 [vid w h c b, iv p, .agg (hdC num rs lx ly sx sy pel bare)] [] (.agg (compC p w h c b lx ly sx sy pel)) [] := by
  obtain ⟨v1, v2, v3, v4⟩ := videoR_in hv
  have half : ∀ n : Int, 1 ≤ n ∧ n ≤ 128 → IntKind.wrap .i64 ((IntKind.wrap .i64 (n + 1)).tdiv 2) = upN n 1 := fun n hn => by
    rw [upN_one hn, wrap_id (n := n + 1) (by omega) (by omega), Int.tdiv_eq_ediv_of_nonneg (by omega), wrap_id (by omega) (by omega)]
  have fin : ∀ (q x y : Int) (W H : Int), W = upN w x → H = upN h y →
      AV.agg [iv q, iv W, iv H, iv x, iv y, iv (shr lx x), iv (shr ly y), iv (shr sx x), iv (shr sy y), iv b, iv pel] = .agg [iv q, iv (upN w x), iv (upN h y), iv x, iv y, iv (shr lx x), iv (shr ly y), iv (shr sx x), iv (shr sy y), iv b, iv pel] := by
    rintro q x y W H rfl rfl; rfl
  refine e66 ?_
  conv => whnf
  refine CallsF.call [] [] (video24_spec w h c b) rfl rfl rfl rfl rfl (.inl rfl) ?_
  conv => whnf
  rw [hv]
  rcases three hp with rfl | rfl | rfl <;> rcases three v3 with rfl | rfl | rfl <;>
  (conv => whnf
   first
    | exact ⟨[], [], rfl, fin _ 0 0 _ _ (upN_zero v1).symm (upN_zero v2).symm, rfl⟩
    | exact ⟨[], [], rfl, fin _ 1 0 _ _ (half _ v1) (upN_zero v2).symm, rfl⟩
    | exact ⟨[], [], rfl, fin _ 1 1 _ _ (half _ v1) (half _ v2), rfl⟩)

set_option maxRecDepth 10000 in
theorem chead_spec (n : Int) (hn : n = 1 ∨ n = 2) (lx ly sx sy pel r l p : Int) :
    CallsF Try.prog 96 [iv n, .agg [iv lx, iv ly, iv sx, iv sy, iv pel, iv r, iv l, iv p]] [] (.agg (hdC n (if n = 1 then [0] else [0, 1]) lx ly sx sy pel true)) [] := by
  refine e96 ?_
  conv => whnf
  rcases hn with rfl | rfl
  · refine LoopA.inv (fun k st => (k = 1 ∧ st = ⟨[(4, .bp 0 0), (5, .bp 1 0), (13, iv 1), (14, iv 0)], [some (.box (hdW 0 .snil 0 0 0 0 0 false)), some (.box (hdW 1 .snil lx ly sx sy pel true))], 2, 0⟩) ∨ (k = 0 ∧ st = ⟨[(4, .bp 0 0), (5, .bp 1 0), (13, iv 1), (14, iv 1)], [some (.box (hdW 0 .snil 0 0 0 0 0 false)), some (.box (hdW 1 (.sl 2 0 1) lx ly sx sy pel true)), some (.ia .i64 [0])], 3, 0⟩)) 1 [4, 5, 13, 14] [1, 2] [] (by rfl) ?_ ?_
    · conv => whnf
      exact .inl ⟨rfl, rfl⟩
    rintro k st (⟨rfl, rfl⟩ | ⟨rfl, rfl⟩)
    · conv => whnf
      refine ⟨0, [4, 5, 13, 14], [0, 1, 3], [], by omega, rfl, ?_⟩
      conv => whnf
      exact .inr ⟨rfl, rfl⟩
    · conv => whnf
      exact ⟨[], [2], rfl, rfl, rfl⟩
  · refine LoopA.inv (fun k st => (k = 2 ∧ st = ⟨[(4, .bp 0 0), (5, .bp 1 0), (13, iv 2), (14, iv 0)], [some (.box (hdW 0 .snil 0 0 0 0 0 false)), some (.box (hdW 2 .snil lx ly sx sy pel true))], 2, 0⟩) ∨ (k = 1 ∧ st = ⟨[(4, .bp 0 0), (5, .bp 1 0), (13, iv 2), (14, iv 1)], [some (.box (hdW 0 .snil 0 0 0 0 0 false)), some (.box (hdW 2 (.sl 2 0 1) lx ly sx sy pel true)), some (.ia .i64 [0])], 3, 0⟩) ∨ (k = 0 ∧ st = ⟨[(4, .bp 0 0), (5, .bp 1 0), (13, iv 2), (14, iv 2)], [some (.box (hdW 0 .snil 0 0 0 0 0 false)), some (.box (hdW 2 (.sl 2 0 2) lx ly sx sy pel true)), some (.ia .i64 [0, 1])], 3, 0⟩)) 2 [4, 5, 13, 14] [1, 2] [] (by rfl) ?_ ?_
    · conv => whnf
      exact .inl ⟨rfl, rfl⟩
    rintro k st (⟨rfl, rfl⟩ | ⟨rfl, rfl⟩ | ⟨rfl, rfl⟩)
    · conv => whnf
      refine ⟨1, [4, 5, 13, 14], [0, 1, 3], [], by omega, rfl, ?_⟩
      conv => whnf
      exact .inr (.inl ⟨rfl, rfl⟩)
    · conv => whnf
      refine ⟨0, [4, 5, 13, 14], [0, 1, 4], [], by omega, rfl, ?_⟩
      conv => whnf
      exact .inr (.inr ⟨rfl, rfl⟩)
    · conv => whnf
      exact ⟨[], [2], rfl, rfl, rfl⟩

set_option maxRecDepth 10000 in
theorem head31_spec (n : Int) (hn : n = 1 ∨ n = 2) (lx ly sx sy pel r l p : Int) :
    CallsF Try.prog 65 [iv n, .agg [iv lx, iv ly, iv sx, iv sy, iv pel, iv r, iv l, iv p]] [] (.agg (hdC 9 (if n = 1 then [0] else [0, 1]) lx ly sx sy pel true)) [] := by
  refine e65 ?_
  conv => whnf
  rcases hn with rfl | rfl
  · refine LoopA.inv (fun k st => (k = 1 ∧ st = ⟨[(0, iv 1), (4, .bp 0 0), (5, .bp 1 0), (6, iv 0)], [some (.box (hdW 0 .snil 0 0 0 0 0 false)), some (.box (hdW 9 .snil lx ly sx sy pel true))], 2, 0⟩) ∨ (k = 0 ∧ st = ⟨[(0, iv 1), (4, .bp 0 0), (5, .bp 1 0), (6, iv 1)], [some (.box (hdW 0 .snil 0 0 0 0 0 false)), some (.box (hdW 9 (.sl 2 0 1) lx ly sx sy pel true)), some (.ia .i64 [0])], 3, 0⟩)) 1 [0, 4, 5, 6] [1, 2] [] (by rfl) ?_ ?_
    · conv => whnf
      exact .inl ⟨rfl, rfl⟩
    rintro k st (⟨rfl, rfl⟩ | ⟨rfl, rfl⟩)
    · conv => whnf
      refine ⟨0, [0, 4, 5, 6], [0, 1, 3], [], by omega, rfl, ?_⟩
      conv => whnf
      exact .inr ⟨rfl, rfl⟩
    · conv => whnf
      exact ⟨[], [2], rfl, rfl, rfl⟩
  · refine LoopA.inv (fun k st => (k = 2 ∧ st = ⟨[(0, iv 2), (4, .bp 0 0), (5, .bp 1 0), (6, iv 0)], [some (.box (hdW 0 .snil 0 0 0 0 0 false)), some (.box (hdW 9 .snil lx ly sx sy pel true))], 2, 0⟩) ∨ (k = 1 ∧ st = ⟨[(0, iv 2), (4, .bp 0 0), (5, .bp 1 0), (6, iv 1)], [some (.box (hdW 0 .snil 0 0 0 0 0 false)), some (.box (hdW 9 (.sl 2 0 1) lx ly sx sy pel true)), some (.ia .i64 [0])], 3, 0⟩) ∨ (k = 0 ∧ st = ⟨[(0, iv 2), (4, .bp 0 0), (5, .bp 1 0), (6, iv 2)], [some (.box (hdW 0 .snil 0 0 0 0 0 false)), some (.box (hdW 9 (.sl 2 0 2) lx ly sx sy pel true)), some (.ia .i64 [0, 1])], 3, 0⟩)) 2 [0, 4, 5, 6] [1, 2] [] (by rfl) ?_ ?_
    · conv => whnf
      exact .inl ⟨rfl, rfl⟩
    rintro k st (⟨rfl, rfl⟩ | ⟨rfl, rfl⟩ | ⟨rfl, rfl⟩)
    · conv => whnf
      refine ⟨1, [0, 4, 5, 6], [0, 1, 3], [], by omega, rfl, ?_⟩
      conv => whnf
      exact .inr (.inl ⟨rfl, rfl⟩)
    · conv => whnf
      refine ⟨0, [0, 4, 5, 6], [0, 1, 4], [], by omega, rfl, ?_⟩
      conv => whnf
      exact .inr (.inr ⟨rfl, rfl⟩)
    · conv => whnf
      exact ⟨[], [2], rfl, rfl, rfl⟩

end Go.Proofs.TryN

