/- Layer 36: pans, heads. -/
import Derived.Test.YthigehjpkpbmcaaAL29
import Derived.Test.YthigehjpkpbmcaaF36
import Derived.Test.YthigehjpkpbmcaaN36G
namespace Go.Proofs.TryN
open Go Go.AL Go.Proofs

def panC (a b c d e f te g h le : Int) : List AV := [iv a, iv b, iv c, iv d, iv e, iv f, iv te, iv g, iv h, iv le]
def panP (n : Int) : Bool := inB n (-65536) 65536
def panR (a b c d e f te g h le : Int) : Bool :=
  ((((((((panP a && panP b) && panP c) && panP d) && panP e) && panP f) && panP g) && panP h) && inB te 0 16) && inB le 0 16

theorem exponent_spec (n : Int) : CallsF Try.prog 115 [iv n] [] (.bool (inB n 0 16)) [] := by
  refine e115 ?_
  conv => whnf
  iterate 1 (all_goals (try (refine ifB_of (fun _ => ?_) (fun _ => ?_))); all_goals (conv => whnf))
  all_goals (refine ⟨[], [], rfl, congrArg AV.bool ?_, rfl⟩; simp_all [inB] <;> omega)

def partsR (r : List AV) : List (List AV) := [[.rp r 0], [.rp r 1], [.rp r 2], [.rp r 3], [.rp r 4], [.rp r 5], [.rp r 7], [.rp r 8]]

set_option maxRecDepth 10000 in
theorem pparts_spec (r0 r1 r2 r3 r4 r5 r6 r7 r8 r9 : Int) : CallsF Try.prog 114 [.rp (panC r0 r1 r2 r3 r4 r5 r6 r7 r8 r9) 0] [] (.sl 0 0 8) [some (.arr 1 (partsR (panC r0 r1 r2 r3 r4 r5 r6 r7 r8 r9)))] := by
  refine e114 ?_
  conv => whnf
  exact ⟨[0], [], rfl, rfl, rfl⟩

set_option maxRecDepth 10000 in
theorem pan_spec (a b c d e f te g h le : Int) : CallsF Try.prog 108 [.agg (panC a b c d e f te g h le)] [] (.bool (panR a b c d e f te g h le)) [] := by
  refine e108 ?_
  conv => whnf
  refine pt_of [1, 2] [] [0] (by rfl) ?_
  conv => whnf
  refine CallsF.call [] [] (pparts_spec _ _ _ _ _ _ _ _ _ _) rfl rfl rfl rfl rfl (.inl rfl) ?_
  conv => whnf
  refine LoopA.unroll 9 [1, 5, 6, 7] [0] [] [0] [] (by rfl) ?_
  conv => whnf
  iterate 8
    refine ifB_of (fun h1 => ?_) (fun h1 => ?_)
    · conv => whnf
      refine ⟨[], [], rfl, congrArg AV.bool ?_, rfl⟩
      simp_all [panR, panP, inB] <;> omega
    conv => whnf
    refine ifB_of (fun h2 => ?_) (fun h2 => ?_)
    · conv => whnf
      refine ⟨[], [], rfl, congrArg AV.bool ?_, rfl⟩
      simp_all [panR, panP, inB] <;> omega
    conv => whnf
    refine ⟨rfl, ?_⟩
    conv => whnf
  refine CallsF.call [] [] (exponent_spec te) rfl rfl rfl rfl rfl (.inl rfl) ?_
  conv => whnf
  refine ifB_of (fun h3 => ?_) (fun h3 => ?_)
  · conv => whnf
    refine CallsF.call [] [] (exponent_spec le) rfl rfl rfl rfl rfl (.inl rfl) ?_
    conv => whnf
    refine ⟨[], [], rfl, congrArg AV.bool ?_, rfl⟩
    simp_all [panR, panP, inB]
  · conv => whnf
    refine ⟨[], [], rfl, congrArg AV.bool ?_, rfl⟩
    simp_all [panR, panP]

theorem list21_spec (a b c d e f te g h le : Int) : CallsF Try.prog 110 [.agg (panC a b c d e f te g h le)] [] (.ri .i64 [a, b, c, d, e, f, g, h, te, le]) [] := by
  refine e110 ?_
  conv => whnf
  exact ⟨[], [1], rfl, rfl, rfl⟩

set_option maxRecDepth 10000 in
theorem pan21_spec (a b c d e f te g h le : Int) : CallsF Try.prog 102 [.agg (panC a b c d e f te g h le)] [] (.bool (panR a b c d e f te g h le)) [] := by
  refine e102 ?_
  conv => whnf
  refine CallsF.call [] [] (list21_spec a b c d e f te g h le) rfl rfl rfl rfl rfl (.inl rfl) ?_
  conv => whnf
  refine LoopA.unroll 11 [6, 7, 8] [] [] [] [] (by rfl) ?_
  conv => whnf
  refine ifB_of (fun (h1 : decide (a < -65536) = true) => ?_) (fun (h1 : decide (a < -65536) = false) => ?_)
  · conv => whnf
    refine ⟨[], [], rfl, congrArg AV.bool ?_, rfl⟩
    have : inB a (-65536) 65536 = false := by simp at h1; simp [inB]; omega
    simp [panR, panP, this]
  conv => whnf
  refine ifB_of (fun (h2 : decide (a > 65536) = true) => ?_) (fun (h2 : decide (a > 65536) = false) => ?_)
  · conv => whnf
    refine ⟨[], [], rfl, congrArg AV.bool ?_, rfl⟩
    have : inB a (-65536) 65536 = false := by simp at h2; simp [inB]; omega
    simp [panR, panP, this]
  have q0 : inB a (-65536) 65536 = true := by simp at h1 h2; simp [inB]; omega
  clear h1 h2
  conv => whnf
  refine ⟨rfl, ?_⟩
  conv => whnf
  refine ifB_of (fun (h1 : decide (b < -65536) = true) => ?_) (fun (h1 : decide (b < -65536) = false) => ?_)
  · conv => whnf
    refine ⟨[], [], rfl, congrArg AV.bool ?_, rfl⟩
    have : inB b (-65536) 65536 = false := by simp at h1; simp [inB]; omega
    simp [panR, panP, this]
  conv => whnf
  refine ifB_of (fun (h2 : decide (b > 65536) = true) => ?_) (fun (h2 : decide (b > 65536) = false) => ?_)
  · conv => whnf
    refine ⟨[], [], rfl, congrArg AV.bool ?_, rfl⟩
    have : inB b (-65536) 65536 = false := by simp at h2; simp [inB]; omega
    simp [panR, panP, this]
  have q1 : inB b (-65536) 65536 = true := by simp at h1 h2; simp [inB]; omega
  clear h1 h2
  conv => whnf
  refine ⟨rfl, ?_⟩
  conv => whnf
  refine ifB_of (fun (h1 : decide (c < -65536) = true) => ?_) (fun (h1 : decide (c < -65536) = false) => ?_)
  · conv => whnf
    refine ⟨[], [], rfl, congrArg AV.bool ?_, rfl⟩
    have : inB c (-65536) 65536 = false := by simp at h1; simp [inB]; omega
    simp [panR, panP, this]
  conv => whnf
  refine ifB_of (fun (h2 : decide (c > 65536) = true) => ?_) (fun (h2 : decide (c > 65536) = false) => ?_)
  · conv => whnf
    refine ⟨[], [], rfl, congrArg AV.bool ?_, rfl⟩
    have : inB c (-65536) 65536 = false := by simp at h2; simp [inB]; omega
    simp [panR, panP, this]
  have q2 : inB c (-65536) 65536 = true := by simp at h1 h2; simp [inB]; omega
  clear h1 h2
  conv => whnf
  refine ⟨rfl, ?_⟩
  conv => whnf
  refine ifB_of (fun (h1 : decide (d < -65536) = true) => ?_) (fun (h1 : decide (d < -65536) = false) => ?_)
  · conv => whnf
    refine ⟨[], [], rfl, congrArg AV.bool ?_, rfl⟩
    have : inB d (-65536) 65536 = false := by simp at h1; simp [inB]; omega
    simp [panR, panP, this]
  conv => whnf
  refine ifB_of (fun (h2 : decide (d > 65536) = true) => ?_) (fun (h2 : decide (d > 65536) = false) => ?_)
  · conv => whnf
    refine ⟨[], [], rfl, congrArg AV.bool ?_, rfl⟩
    have : inB d (-65536) 65536 = false := by simp at h2; simp [inB]; omega
    simp [panR, panP, this]
  have q3 : inB d (-65536) 65536 = true := by simp at h1 h2; simp [inB]; omega
  clear h1 h2
  conv => whnf
  refine ⟨rfl, ?_⟩
  conv => whnf
  refine ifB_of (fun (h1 : decide (e < -65536) = true) => ?_) (fun (h1 : decide (e < -65536) = false) => ?_)
  · conv => whnf
    refine ⟨[], [], rfl, congrArg AV.bool ?_, rfl⟩
    have : inB e (-65536) 65536 = false := by simp at h1; simp [inB]; omega
    simp [panR, panP, this]
  conv => whnf
  refine ifB_of (fun (h2 : decide (e > 65536) = true) => ?_) (fun (h2 : decide (e > 65536) = false) => ?_)
  · conv => whnf
    refine ⟨[], [], rfl, congrArg AV.bool ?_, rfl⟩
    have : inB e (-65536) 65536 = false := by simp at h2; simp [inB]; omega
    simp [panR, panP, this]
  have q4 : inB e (-65536) 65536 = true := by simp at h1 h2; simp [inB]; omega
  clear h1 h2
  conv => whnf
  refine ⟨rfl, ?_⟩
  conv => whnf
  refine ifB_of (fun (h1 : decide (f < -65536) = true) => ?_) (fun (h1 : decide (f < -65536) = false) => ?_)
  · conv => whnf
    refine ⟨[], [], rfl, congrArg AV.bool ?_, rfl⟩
    have : inB f (-65536) 65536 = false := by simp at h1; simp [inB]; omega
    simp [panR, panP, this]
  conv => whnf
  refine ifB_of (fun (h2 : decide (f > 65536) = true) => ?_) (fun (h2 : decide (f > 65536) = false) => ?_)
  · conv => whnf
    refine ⟨[], [], rfl, congrArg AV.bool ?_, rfl⟩
    have : inB f (-65536) 65536 = false := by simp at h2; simp [inB]; omega
    simp [panR, panP, this]
  have q5 : inB f (-65536) 65536 = true := by simp at h1 h2; simp [inB]; omega
  clear h1 h2
  conv => whnf
  refine ⟨rfl, ?_⟩
  conv => whnf
  refine ifB_of (fun (h1 : decide (g < -65536) = true) => ?_) (fun (h1 : decide (g < -65536) = false) => ?_)
  · conv => whnf
    refine ⟨[], [], rfl, congrArg AV.bool ?_, rfl⟩
    have : inB g (-65536) 65536 = false := by simp at h1; simp [inB]; omega
    simp [panR, panP, this]
  conv => whnf
  refine ifB_of (fun (h2 : decide (g > 65536) = true) => ?_) (fun (h2 : decide (g > 65536) = false) => ?_)
  · conv => whnf
    refine ⟨[], [], rfl, congrArg AV.bool ?_, rfl⟩
    have : inB g (-65536) 65536 = false := by simp at h2; simp [inB]; omega
    simp [panR, panP, this]
  have q6 : inB g (-65536) 65536 = true := by simp at h1 h2; simp [inB]; omega
  clear h1 h2
  conv => whnf
  refine ⟨rfl, ?_⟩
  conv => whnf
  refine ifB_of (fun (h1 : decide (h < -65536) = true) => ?_) (fun (h1 : decide (h < -65536) = false) => ?_)
  · conv => whnf
    refine ⟨[], [], rfl, congrArg AV.bool ?_, rfl⟩
    have : inB h (-65536) 65536 = false := by simp at h1; simp [inB]; omega
    simp [panR, panP, this]
  conv => whnf
  refine ifB_of (fun (h2 : decide (h > 65536) = true) => ?_) (fun (h2 : decide (h > 65536) = false) => ?_)
  · conv => whnf
    refine ⟨[], [], rfl, congrArg AV.bool ?_, rfl⟩
    have : inB h (-65536) 65536 = false := by simp at h2; simp [inB]; omega
    simp [panR, panP, this]
  have q7 : inB h (-65536) 65536 = true := by simp at h1 h2; simp [inB]; omega
  clear h1 h2
  conv => whnf
  refine ⟨rfl, ?_⟩
  conv => whnf
  refine ifB_of (fun (h1 : decide (te < 0) = true) => ?_) (fun (h1 : decide (te < 0) = false) => ?_)
  · conv => whnf
    refine ⟨[], [], rfl, congrArg AV.bool ?_, rfl⟩
    have : inB te (0) 16 = false := by simp at h1; simp [inB]; omega
    simp [panR, panP, this]
  conv => whnf
  refine ifB_of (fun (h2 : decide (te > 16) = true) => ?_) (fun (h2 : decide (te > 16) = false) => ?_)
  · conv => whnf
    refine ⟨[], [], rfl, congrArg AV.bool ?_, rfl⟩
    have : inB te (0) 16 = false := by simp at h2; simp [inB]; omega
    simp [panR, panP, this]
  have q8 : inB te (0) 16 = true := by simp at h1 h2; simp [inB]; omega
  clear h1 h2
  conv => whnf
  refine ⟨rfl, ?_⟩
  conv => whnf
  refine ifB_of (fun (h1 : decide (le < 0) = true) => ?_) (fun (h1 : decide (le < 0) = false) => ?_)
  · conv => whnf
    refine ⟨[], [], rfl, congrArg AV.bool ?_, rfl⟩
    have : inB le (0) 16 = false := by simp at h1; simp [inB]; omega
    simp [panR, panP, this]
  conv => whnf
  refine ifB_of (fun (h2 : decide (le > 16) = true) => ?_) (fun (h2 : decide (le > 16) = false) => ?_)
  · conv => whnf
    refine ⟨[], [], rfl, congrArg AV.bool ?_, rfl⟩
    have : inB le (0) 16 = false := by simp at h2; simp [inB]; omega
    simp [panR, panP, this]
  have q9 : inB le (0) 16 = true := by simp at h1 h2; simp [inB]; omega
  clear h1 h2
  conv => whnf
  refine ⟨rfl, ?_⟩
  conv => whnf
  refine ⟨[], [], rfl, congrArg AV.bool ?_, rfl⟩
  simp [panR, panP, q0, q1, q2, q3, q4, q5, q6, q7, q8, q9]
end Go.Proofs.TryN

