/- Layer 36: do heads fit? -/
import Derived.Test.YthigehjpkpbmcaaAL29
import Derived.Test.YthigehjpkpbmcaaF36
import Derived.Test.YthigehjpkpbmcaaN36I
namespace Go.Proofs.TryN
open Go Go.AL Go.Proofs

set_option maxRecDepth 10000 in
theorem rmotion_spec (num : Int) (rs : List Int) (lx ly sx sy pel : Int) (bare : Bool) (hr : rs = [0] ∨ rs = [0, 1]) :
    CallsF Try.prog 98 [.agg (hdC num rs lx ly sx sy pel bare)] [] (.bool (lapsR lx ly sx sy && inB pel 0 3)) [] := by
  refine e98 ?_
  conv => whnf
  rcases hr with rfl | rfl
  all_goals
    conv => whnf
    refine CallsF.call [] [] (laps_spec lx ly sx sy) rfl rfl rfl rfl rfl (.inl rfl) ?_
    conv => whnf
    refine ifB_of (fun h1 => ?_) (fun h1 => ?_)
    · conv => whnf
      refine ⟨[], [], rfl, congrArg AV.bool ?_, rfl⟩
      simp at h1; simp [h1]
    conv => whnf
    refine ifB_of (fun h2 => ?_) (fun h2 => ?_)
    · conv => whnf
      refine ⟨[], [], rfl, congrArg AV.bool ?_, rfl⟩
      simp at h1 h2; simp [h1, inB]; omega
    conv => whnf
    refine ifB_of (fun h3 => ?_) (fun h3 => ?_)
    · conv => whnf
      refine ⟨[], [], rfl, congrArg AV.bool ?_, rfl⟩
      simp at h1 h2 h3; simp [h1, inB]; omega
    have hp : true = (lapsR lx ly sx sy && inB pel 0 3) := by simp at h1 h2 h3; simp [h1, inB]; omega
    rw [← hp]
    conv => whnf
    refine CallsF.call [] [] (pan_spec 0 0 0 0 0 0 0 0 0 0) rfl rfl rfl rfl rfl (.inl rfl) ?_
    conv => whnf
  · exact ⟨[], [], rfl, rfl, rfl⟩
  · refine CallsF.call [] [] (pan_spec 0 0 0 0 0 0 0 0 0 0) rfl rfl rfl rfl rfl (.inl rfl) ?_
    conv => whnf
    exact ⟨[], [], rfl, rfl, rfl⟩

set_option maxRecDepth 10000 in
theorem hright_spec (num : Int) (rs : List Int) (lx ly sx sy pel : Int) (hr : (num = 1 ∧ rs = [0]) ∨ (num = 2 ∧ rs = [0, 1])) :
    CallsF Try.prog 84 [.agg (hdC num rs lx ly sx sy pel true)] [] (.bool (lapsR lx ly sx sy && inB pel 0 3)) [] := by
  refine e84 ?_
  conv => whnf
  rcases hr with ⟨rfl, rfl⟩ | ⟨rfl, rfl⟩
  · conv => whnf
    refine CallsF.call [] [] (number_spec 1) rfl rfl rfl rfl rfl (.inl rfl) ?_
    conv => whnf
    refine CallsF.call [] [] (number_spec 0) rfl rfl rfl rfl rfl (.inl rfl) ?_
    conv => whnf
    refine LoopA.unroll 2 [1, 32, 33, 34] [0] [] [0] [] (by rfl) ?_
    conv => whnf
    refine CallsF.call [] [] (number_spec 0) rfl rfl rfl rfl rfl (.inl rfl) ?_
    conv => whnf
    refine ⟨rfl, ?_⟩
    conv => whnf
    refine CallsF.call [] [] (rmotion_spec 1 [0] lx ly sx sy pel true (.inl rfl)) rfl rfl rfl rfl rfl (.inl rfl) ?_
    conv => whnf
    exact ⟨[], [], rfl, rfl, rfl⟩
  · conv => whnf
    refine CallsF.call [] [] (number_spec 2) rfl rfl rfl rfl rfl (.inl rfl) ?_
    conv => whnf
    refine CallsF.call [] [] (number_spec 0) rfl rfl rfl rfl rfl (.inl rfl) ?_
    conv => whnf
    refine LoopA.unroll 3 [1, 32, 33, 34] [0] [] [0] [] (by rfl) ?_
    conv => whnf
    refine CallsF.call [] [] (number_spec 0) rfl rfl rfl rfl rfl (.inl rfl) ?_
    conv => whnf
    refine ⟨rfl, ?_⟩
    conv => whnf
    refine CallsF.call [] [] (number_spec 1) rfl rfl rfl rfl rfl (.inl rfl) ?_
    conv => whnf
    refine ⟨rfl, ?_⟩
    conv => whnf
    refine CallsF.call [] [] (rmotion_spec 2 [0, 1] lx ly sx sy pel true (.inr rfl)) rfl rfl rfl rfl rfl (.inl rfl) ?_
    conv => whnf
    exact ⟨[], [], rfl, rfl, rfl⟩

set_option maxRecDepth 10000 in
theorem hright23_spec (rs : List Int) (lx ly sx sy pel : Int) (hr : rs = [0] ∨ rs = [0, 1]) (hx : lx ≤ 9223372036854775807) (hy : ly ≤ 9223372036854775807) :
    CallsF Try.prog 90 [.agg (hdC 9 rs lx ly sx sy pel true)] [] (.bool (lapsR lx ly sx sy && inB pel 0 3)) [] := by
  refine e90 ?_
  conv => whnf
  refine CallsF.call [] [] (in23_spec 9) rfl rfl rfl rfl rfl (.inl rfl) ?_
  conv => whnf
  refine CallsF.call [] [] (in23_spec 0) rfl rfl rfl rfl rfl (.inl rfl) ?_
  conv => whnf
  rcases hr with rfl | rfl
  · conv => whnf
    refine LoopA.unroll 2 [1, 32, 33, 34] [0] [] [0] [] (by rfl) ?_
    conv => whnf
    refine CallsF.call [] [] (in23_spec 0) rfl rfl rfl rfl rfl (.inl rfl) ?_
    conv => whnf
    refine CallsF.call [] [] (pan21_spec 0 0 0 0 0 0 0 0 0 0) rfl rfl rfl rfl rfl (.inl rfl) ?_
    conv => whnf
    refine CallsF.call [] [] (laps20_spec lx ly sx sy hx hy) rfl rfl rfl rfl rfl (.inl rfl) ?_
    conv => whnf
    refine ifB_of (fun h1 => ?_) (fun h1 => ?_)
    · conv => whnf
      refine ⟨[], [], rfl, congrArg AV.bool ?_, rfl⟩
      simp at h1; simp [h1]
    conv => whnf
    refine ifB_of (fun h2 => ?_) (fun h2 => ?_)
    · conv => whnf
      refine ⟨[], [], rfl, congrArg AV.bool ?_, rfl⟩
      simp at h1 h2; simp [h1, inB]; omega
    conv => whnf
    refine ifB_of (fun h3 => ?_) (fun h3 => ?_)
    · conv => whnf
      refine ⟨[], [], rfl, congrArg AV.bool ?_, rfl⟩
      simp at h1 h2 h3; simp [h1, inB]; omega
    have hp : true = (lapsR lx ly sx sy && inB pel 0 3) := by simp at h1 h2 h3; simp [h1, inB]; omega
    rw [← hp]
    conv => whnf
    refine ⟨rfl, ?_⟩
    conv => whnf
    exact ⟨[], [], rfl, rfl, rfl⟩
  · conv => whnf
    refine LoopA.unroll 3 [1, 32, 33, 34] [0] [] [0] [] (by rfl) ?_
    conv => whnf
    refine CallsF.call [] [] (in23_spec 0) rfl rfl rfl rfl rfl (.inl rfl) ?_
    conv => whnf
    refine CallsF.call [] [] (pan21_spec 0 0 0 0 0 0 0 0 0 0) rfl rfl rfl rfl rfl (.inl rfl) ?_
    conv => whnf
    refine CallsF.call [] [] (laps20_spec lx ly sx sy hx hy) rfl rfl rfl rfl rfl (.inl rfl) ?_
    conv => whnf
    refine ifB_of (fun h1 => ?_) (fun h1 => ?_)
    · conv => whnf
      refine ⟨[], [], rfl, congrArg AV.bool ?_, rfl⟩
      simp at h1; simp [h1]
    conv => whnf
    refine ifB_of (fun h2 => ?_) (fun h2 => ?_)
    · conv => whnf
      refine ⟨[], [], rfl, congrArg AV.bool ?_, rfl⟩
      simp at h1 h2; simp [h1, inB]; omega
    conv => whnf
    refine ifB_of (fun h3 => ?_) (fun h3 => ?_)
    · conv => whnf
      refine ⟨[], [], rfl, congrArg AV.bool ?_, rfl⟩
      simp at h1 h2 h3; simp [h1, inB]; omega
    have hp : true = (lapsR lx ly sx sy && inB pel 0 3) := by simp at h1 h2 h3; simp [h1, inB]; omega
    rw [← hp]
    conv => whnf
    refine ⟨rfl, ?_⟩
    conv => whnf
    refine CallsF.call [] [] (in23_spec 1) rfl rfl rfl rfl rfl (.inl rfl) ?_
    conv => whnf
    refine CallsF.call [] [] (pan21_spec 0 0 0 0 0 0 0 0 0 0) rfl rfl rfl rfl rfl (.inl rfl) ?_
    conv => whnf
    refine CallsF.call [] [] (laps20_spec lx ly sx sy hx hy) rfl rfl rfl rfl rfl (.inl rfl) ?_
    conv => whnf
    have h1 : lapsR lx ly sx sy = true := by simpa using h1
    rw [h1]
    conv => whnf
    rw [h2]
    conv => whnf
    rw [h3]
    conv => whnf
    refine ⟨rfl, ?_⟩
    conv => whnf
    exact ⟨[], [], rfl, rfl, rfl⟩

theorem squares_spec (w h s : Int) (hw : 1 ≤ w ∧ w ≤ 128) (hh : 1 ≤ h ∧ h ≤ 128) (hs : 1 ≤ s ∧ s ≤ 64) :
    CallsF Try.prog 99 [iv w, iv h, iv s] [] (.tup [iv (fcover w s), iv (fcover h s)]) [] := by
  refine e99 ?_
  conv => whnf
  rw [decide_eq_false (by omega : ¬w < 1)]
  conv => whnf
  rw [decide_eq_false (by omega : ¬w > 1024)]
  conv => whnf
  rw [decide_eq_false (by omega : ¬h < 1)]
  conv => whnf
  rw [decide_eq_false (by omega : ¬h > 1024)]
  conv => whnf
  rw [decide_eq_false (by omega : ¬s < 1)]
  conv => whnf
  rw [decide_eq_false (by omega : ¬s > 256)]
  conv => whnf
  refine CallsF.call [] [] (fcover_spec w s (by omega) hs) rfl rfl rfl rfl rfl (.inl rfl) ?_
  conv => whnf
  refine CallsF.call [] [] (fcover_spec h s (by omega) hs) rfl rfl rfl rfl rfl (.inl rfl) ?_
  conv => whnf
  exact ⟨[], [], rfl, rfl, rfl⟩

theorem rsquares_spec (w h c b lx ly sx sy : Int) (hw : 1 ≤ w ∧ w ≤ 128) (hh : 1 ≤ h ∧ h ≤ 128) (hs : 1 ≤ sx ∧ sx ≤ 64) (hs' : 1 ≤ sy ∧ sy ≤ 64) :
    CallsF Try.prog 85 [vid w h c b, laps lx ly sx sy] [] (.tup [iv (fcover w sx), iv (fcover h sy)]) [] := by
  refine e85 ?_
  conv => whnf
  refine CallsF.call [] [] (squares_spec w h sx hw hh hs) rfl rfl rfl rfl rfl (.inl rfl) ?_
  conv => whnf
  refine CallsF.call [] [] (squares_spec w h sy hw hh hs') rfl rfl rfl rfl rfl (.inl rfl) ?_
  conv => whnf
  exact ⟨[], [], rfl, rfl, rfl⟩
end Go.Proofs.TryN

