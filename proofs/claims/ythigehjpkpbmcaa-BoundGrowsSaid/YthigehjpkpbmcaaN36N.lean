/- Layer 36: settings. -/
import Derived.Test.YthigehjpkpbmcaaAL29
import Derived.Test.YthigehjpkpbmcaaF36
import Derived.Test.YthigehjpkpbmcaaN36M
namespace Go.Proofs.TryN
open Go Go.AL Go.Proofs

theorem rsq_spec (w h c b num : Int) (rs : List Int) (lx ly sx sy pel : Int) (hv : videoR w h c b = true) (hr : (num = 1 ∧ rs = [0]) ∨ (num = 2 ∧ rs = [0, 1])) (hl : lapsR lx ly sx sy = true) (hp : inB pel 0 3 = true) :
    CallsF Try.prog 61 [vid w h c b, .agg (hdC num rs lx ly sx sy pel true)] [] (.tup [iv (fcover w sx), iv (fcover h sy)]) [] := by
  obtain ⟨v1, v2, v3, v4⟩ := videoR_in hv
  have h1' := lapsR_in hl
  refine e61 ?_
  conv => whnf
  refine CallsF.call [] [] (video_spec w h c b) rfl rfl rfl rfl rfl (.inl rfl) ?_
  conv => whnf
  rw [hv]
  conv => whnf
  refine CallsF.call [] [] (hright_spec num rs lx ly sx sy pel hr) rfl rfl rfl rfl rfl (.inl rfl) ?_
  conv => whnf
  rw [hl, hp]
  rcases hr with ⟨rfl, rfl⟩ | ⟨rfl, rfl⟩
  all_goals
    conv => whnf
    refine CallsF.call [] [] (rsquares_spec w h c b lx ly sx sy v1 v2 h1'.1 h1'.2) rfl rfl rfl rfl rfl (.inl rfl) ?_
    conv => whnf
    exact ⟨[], [], rfl, rfl, rfl⟩

theorem sq24_spec (w h c b : Int) (rs : List Int) (lx ly sx sy pel : Int) (hv : videoR w h c b = true) (hr : rs = [0] ∨ rs = [0, 1]) (hx : lx ≤ 9223372036854775807) (hy : ly ≤ 9223372036854775807) (hl : lapsR lx ly sx sy = true) (hp : inB pel 0 3 = true) :
    CallsF Try.prog 64 [vid w h c b, .agg (hdC 9 rs lx ly sx sy pel true)] [] (.tup [iv (fcover w sx), iv (fcover h sy)]) [] := by
  obtain ⟨v1, v2, v3, v4⟩ := videoR_in hv
  have h1' := lapsR_in hl
  refine e64 ?_
  conv => whnf
  refine CallsF.call [] [] (video24_spec w h c b) rfl rfl rfl rfl rfl (.inl rfl) ?_
  conv => whnf
  rw [hv]
  conv => whnf
  refine CallsF.call [] [] (hright23_spec rs lx ly sx sy pel hr hx hy) rfl rfl rfl rfl rfl (.inl rfl) ?_
  conv => whnf
  rw [hl, hp]
  rcases hr with rfl | rfl
  all_goals
    conv => whnf
    refine CallsF.call [] [] (cover24_spec w sx v1 h1'.1) rfl rfl rfl rfl rfl (.inl rfl) ?_
    conv => whnf
    refine ⟨⟨_, rfl⟩, ?_⟩
    conv => whnf
    refine CallsF.call [] [] (cover24_spec h sy v2 h1'.2) rfl rfl rfl rfl rfl (.inl rfl) ?_
    conv => whnf
    exact ⟨[], [], rfl, rfl, rfl⟩

def okAt (a b : List Int) (l : Nat) : Bool := (a.getD l 0 == 0) && (b.getD l 0 == 0)
def restB (D : Nat) (a b : List Int) : Bool := (List.range' (D + 1) (6 - D)).all (okAt a b)

set_option maxRecDepth 10000 in
theorem rshape_spec (f d : Int) (a b : List Int) (m : Bool) (ha : a.length = 7) (hb : b.length = 7) : CallsF Try.prog 81 [sh f d a b m] [] (.bool (shapeR f d a b && restB d.toNat a b)) [] := by
  obtain ⟨a0, a1, a2, a3, a4, a5, a6, rfl⟩ := len7 ha
  obtain ⟨b0, b1, b2, b3, b4, b5, b6, rfl⟩ := len7 hb
  refine e81 ?_
  conv => whnf
  refine CallsF.call [] [] (shape_spec f d _ _ m ha hb) rfl rfl rfl rfl rfl (.inl rfl) ?_
  conv => whnf
  refine ifB_of (fun h1 => ?_) (fun h1 => ?_)
  · conv => whnf
    refine ⟨[], [], rfl, congrArg AV.bool ?_, rfl⟩
    rw [Bool.not_eq_true'] at h1
    rw [h1]; rfl
  rw [Bool.not_eq_false'] at h1
  obtain ⟨_, hd, _⟩ := shapeR_in h1
  obtain ⟨D, rfl⟩ : ∃ D : Nat, d = D := ⟨d.toNat, by omega⟩
  rw [h1, Bool.true_and, Int.toNat_natCast]
  conv => whnf
  rw [inc_nat (by omega)]
  refine LoopA.inv (fun n st => ∃ i : Nat, n + i = 7 ∧ 1 ≤ i ∧ restB D [a0, a1, a2, a3, a4, a5, a6] [b0, b1, b2, b3, b4, b5, b6] = (List.range' i n).all (okAt [a0, a1, a2, a3, a4, a5, a6] [b0, b1, b2, b3, b4, b5, b6]) ∧ st = ⟨[(1, .bp 0 0), (3, iv i)], [some (.box [iv f, iv D, iv a0, iv a1, iv a2, iv a3, iv a4, iv a5, iv a6, iv b0, iv b1, iv b2, iv b3, iv b4, iv b5, iv b6, .bool m])], 1, 0⟩) (6 - D) [1, 3] [0] [] (by rfl) ?_ ?_
  · conv => whnf
    exact ⟨D + 1, by omega, by omega, rfl, rfl⟩
  rintro n st ⟨i, hn, hi, hR, rfl⟩
  rw [hR]
  conv => whnf
  refine ifB_of (fun h4 => ?_) (fun h4 => ?_)
  · have hi' : i < 7 := by have := of_decide_eq_true h4; omega
    obtain ⟨n', rfl⟩ : ∃ n', n = n' + 1 := ⟨n - 1, by omega⟩
    rw [List.range'_succ, List.all_cons]
    have hc : i = 1 ∨ i = 2 ∨ i = 3 ∨ i = 4 ∨ i = 5 ∨ i = 6 := by omega
    rcases hc with rfl | rfl | rfl | rfl | rfl | rfl <;>
    (conv => whnf
     refine need_of (rfl) ?_
     conv => whnf
     refine ifB_of (fun h5 => ?_) (fun h5 => ?_)
     · conv => whnf
       refine ⟨[], [], rfl, congrArg AV.bool ?_, rfl⟩
       simp at h5; simp [okAt, h5]
     conv => whnf
     refine need_of (rfl) ?_
     conv => whnf
     refine ifB_of (fun h6 => ?_) (fun h6 => ?_)
     · conv => whnf
       refine ⟨[], [], rfl, congrArg AV.bool ?_, rfl⟩
       simp at h6; simp [okAt, h6]
     conv => whnf
     refine ⟨n', [1, 3], [0], [], by omega, rfl, ?_⟩
     conv => whnf
     refine ⟨_, ?_, ?_, ?_, by rw [inc_nat (by omega)]⟩
     · omega
     · omega
     · simp at h5 h6; simp [okAt, h5, h6])
  · have h4 := of_decide_eq_false h4
    obtain rfl : n = 0 := by omega
    conv => whnf
    exact ⟨[], [], rfl, rfl, rfl⟩
end Go.Proofs.TryN

