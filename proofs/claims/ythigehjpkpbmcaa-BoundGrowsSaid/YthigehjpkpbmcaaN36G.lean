/- Layer 36: settings, part by part. -/
import Derived.Test.YthigehjpkpbmcaaAL29
import Derived.Test.YthigehjpkpbmcaaF36
import Derived.Test.YthigehjpkpbmcaaN36F
namespace Go.Proofs.TryN
open Go Go.AL Go.Proofs

def inB (n a b : Int) : Bool := decide (a ≤ n) && decide (n ≤ b)

theorem rbetween_spec (n a b : Int) : CallsF Try.prog 86 [iv n, iv a, iv b] [] (.bool (inB n a b)) [] := by
  refine e86 ?_
  conv => whnf
  iterate 1 (all_goals (try (refine ifB_of (fun _ => ?_) (fun _ => ?_))); all_goals (conv => whnf))
  all_goals (refine ⟨[], [], rfl, congrArg AV.bool ?_, rfl⟩; simp_all [inB] <;> omega)

theorem cbetween_spec (n a b : Int) : CallsF Try.prog 94 [iv n, iv a, iv b] [] (.bool (inB n a b)) [] := by
  refine e94 ?_
  conv => whnf
  iterate 1 (all_goals (try (refine ifB_of (fun _ => ?_) (fun _ => ?_))); all_goals (conv => whnf))
  all_goals (refine ⟨[], [], rfl, congrArg AV.bool ?_, rfl⟩; simp_all [inB] <;> omega)

def vid (w h c b : Int) : AV := .agg [iv w, iv h, iv c, iv b]
def videoR (w h c b : Int) : Bool := ((inB w 1 128 && inB h 1 128) && inB c 0 2) && inB b 8 16

theorem videoR_in {w h c b : Int} (hv : videoR w h c b = true) : (1 ≤ w ∧ w ≤ 128) ∧ (1 ≤ h ∧ h ≤ 128) ∧ (0 ≤ c ∧ c ≤ 2) ∧ (8 ≤ b ∧ b ≤ 16) := by
  simpa [videoR, inB, and_assoc] using hv

theorem video_spec (w h c b : Int) : CallsF Try.prog 80 [vid w h c b] [] (.bool (videoR w h c b)) [] := by
  refine e80 ?_
  conv => whnf
  refine CallsF.call [] [] (rbetween_spec w 1 128) rfl rfl rfl rfl rfl (.inl rfl) ?_
  conv => whnf
  refine ifB_of (fun h1 => ?_) (fun h1 => ?_)
  · conv => whnf
    refine CallsF.call [] [] (rbetween_spec h 1 128) rfl rfl rfl rfl rfl (.inl rfl) ?_
    conv => whnf
    refine ifB_of (fun h2 => ?_) (fun h2 => ?_)
    · conv => whnf
      refine CallsF.call [] [] (rbetween_spec c 0 2) rfl rfl rfl rfl rfl (.inl rfl) ?_
      conv => whnf
      refine ifB_of (fun h3 => ?_) (fun h3 => ?_)
      · conv => whnf
        refine CallsF.call [] [] (rbetween_spec b 8 16) rfl rfl rfl rfl rfl (.inl rfl) ?_
        conv => whnf
        refine ⟨[], [], rfl, congrArg AV.bool ?_, rfl⟩
        simp [videoR, h1, h2, h3]
      · conv => whnf
        refine ⟨[], [], rfl, congrArg AV.bool ?_, rfl⟩
        simp [videoR, h3]
    · conv => whnf
      refine ⟨[], [], rfl, congrArg AV.bool ?_, rfl⟩
      simp [videoR, h2]
  · conv => whnf
    refine ⟨[], [], rfl, congrArg AV.bool ?_, rfl⟩
    simp [videoR, h1]

theorem video24_spec (w h c b : Int) : CallsF Try.prog 87 [vid w h c b] [] (.bool (videoR w h c b)) [] := by
  refine e87 ?_
  conv => whnf
  iterate 7 (all_goals (try (refine ifB_of (fun _ => ?_) (fun _ => ?_))); all_goals (conv => whnf))
  all_goals (refine ⟨[], [], rfl, congrArg AV.bool ?_, rfl⟩; simp_all [videoR, inB] <;> omega)

def wayB (l s : Int) : Bool := (((decide (1 ≤ s) && decide (s ≤ 64)) && decide (s ≤ l)) && decide (l ≤ 2 * s)) && ((l - s) % 2 == 0)

theorem way_spec (l s : Int) : CallsF Try.prog 112 [iv l, iv s] [] (.bool (wayB l s)) [] := by
  have e1 : 1 ≤ s → s ≤ 64 → IntKind.wrap .i64 (2 * s) = 2 * s := fun _ _ => wrap_id (by omega) (by omega)
  have e2 : 1 ≤ s → s ≤ l → l ≤ 2 * s → s ≤ 64 → (IntKind.wrap .i64 (l - s)).tmod 2 = (l - s) % 2 := fun _ _ _ _ => by
    rw [wrap_id (by omega) (by omega), Int.tmod_eq_emod_of_nonneg (by omega)]
  refine e112 ?_
  conv => whnf
  refine ifB_of (fun h1 => ?_) (fun h1 => ?_)
  · have h1 := of_decide_eq_true h1
    conv => whnf
    refine ifB_of (fun h2 => ?_) (fun h2 => ?_)
    · have h2 := of_decide_eq_true h2
      conv => whnf
      refine ifB_of (fun h3 => ?_) (fun h3 => ?_)
      · have h3 := of_decide_eq_true h3
        conv => whnf
        rw [e1 (by omega) (by omega)]
        refine ifB_of (fun h4 => ?_) (fun h4 => ?_)
        · have h4 := of_decide_eq_true h4
          conv => whnf
          rw [e2 (by omega) (by omega) (by omega) (by omega)]
          refine ⟨[], [], rfl, congrArg AV.bool ?_, rfl⟩
          rw [wayB, decide_eq_true (by omega : 1 ≤ s), decide_eq_true (by omega : s ≤ 64), decide_eq_true (by omega : s ≤ l), decide_eq_true (by omega : l ≤ 2 * s)]; rfl
        · conv => whnf
          refine ⟨[], [], rfl, congrArg AV.bool ?_, rfl⟩
          rw [wayB, h4]; simp
      · conv => whnf
        refine ⟨[], [], rfl, congrArg AV.bool ?_, rfl⟩
        have h3 := of_decide_eq_false h3
        rw [wayB, decide_eq_false (by omega : ¬s ≤ l)]; simp
    · conv => whnf
      refine ⟨[], [], rfl, congrArg AV.bool ?_, rfl⟩
      rw [wayB, h2]; simp
  · conv => whnf
    refine ⟨[], [], rfl, congrArg AV.bool ?_, rfl⟩
    have h1 := of_decide_eq_false h1
    rw [wayB, decide_eq_false (by omega : ¬1 ≤ s)]; simp

theorem way20_spec (l s : Int) (hl : l ≤ 9223372036854775807) : CallsF Try.prog 111 [iv l, iv s] [] (.bool (wayB l s)) [] := by
  have e2 : 1 ≤ s → s ≤ l → IntKind.wrap .i64 (l - s) = l - s := fun _ _ => wrap_id (by omega) (by omega)
  refine e111 ?_
  conv => whnf
  refine ifB_of (fun h1 => ?_) (fun h1 => ?_)
  · conv => whnf
    refine ⟨[], [], rfl, congrArg AV.bool ?_, rfl⟩
    have h1 := of_decide_eq_true h1
    rw [wayB, decide_eq_false (by omega : ¬1 ≤ s)]; simp
  have h1 := of_decide_eq_false h1
  conv => whnf
  refine ifB_of (fun h2 => ?_) (fun h2 => ?_)
  · conv => whnf
    refine ⟨[], [], rfl, congrArg AV.bool ?_, rfl⟩
    have h2 := of_decide_eq_true h2
    rw [wayB, decide_eq_false (by omega : ¬s ≤ 64)]; simp
  have h2 := of_decide_eq_false h2
  conv => whnf
  refine ifB_of (fun h3 => ?_) (fun h3 => ?_)
  · conv => whnf
    refine ⟨[], [], rfl, congrArg AV.bool ?_, rfl⟩
    have h3 := of_decide_eq_true h3
    rw [wayB, decide_eq_false (by omega : ¬s ≤ l)]; simp
  have h3 := of_decide_eq_false h3
  conv => whnf
  rw [e2 (by omega) (by omega)]
  refine ifB_of (fun h4 => ?_) (fun h4 => ?_)
  · have h4 := of_decide_eq_true h4
    conv => whnf
    have e3 : (l - s).tmod 2 = (l - s) % 2 := Int.tmod_eq_emod_of_nonneg (by omega)
    rw [e3]
    refine ⟨[], [], rfl, congrArg AV.bool ?_, rfl⟩
    rw [wayB, decide_eq_true (by omega : 1 ≤ s), decide_eq_true (by omega : s ≤ 64), decide_eq_true (by omega : s ≤ l), decide_eq_true (by omega : l ≤ 2 * s)]; rfl
  · conv => whnf
    refine ⟨[], [], rfl, congrArg AV.bool ?_, rfl⟩
    have h4 := of_decide_eq_false h4
    rw [wayB, decide_eq_false (by omega : ¬l ≤ 2 * s)]; simp

def laps (lx ly sx sy : Int) : AV := .agg [iv lx, iv ly, iv sx, iv sy]
def lapsR (lx ly sx sy : Int) : Bool := wayB lx sx && wayB ly sy

theorem laps_spec (lx ly sx sy : Int) : CallsF Try.prog 106 [laps lx ly sx sy] [] (.bool (lapsR lx ly sx sy)) [] := by
  refine e106 ?_
  conv => whnf
  refine CallsF.call [] [] (way_spec lx sx) rfl rfl rfl rfl rfl (.inl rfl) ?_
  conv => whnf
  refine ifB_of (fun h1 => ?_) (fun h1 => ?_)
  · conv => whnf
    refine CallsF.call [] [] (way_spec ly sy) rfl rfl rfl rfl rfl (.inl rfl) ?_
    conv => whnf
    refine ⟨[], [], rfl, congrArg AV.bool ?_, rfl⟩
    simp [lapsR, h1]
  · conv => whnf
    refine ⟨[], [], rfl, congrArg AV.bool ?_, rfl⟩
    simp [lapsR, h1]

theorem laps20_spec (lx ly sx sy : Int) (hx : lx ≤ 9223372036854775807) (hy : ly ≤ 9223372036854775807) : CallsF Try.prog 103 [laps lx ly sx sy] [] (.bool (lapsR lx ly sx sy)) [] := by
  refine e103 ?_
  conv => whnf
  refine CallsF.call [] [] (way20_spec lx sx hx) rfl rfl rfl rfl rfl (.inl rfl) ?_
  conv => whnf
  refine ifB_of (fun h1 => ?_) (fun h1 => ?_)
  · conv => whnf
    refine CallsF.call [] [] (way20_spec ly sy hy) rfl rfl rfl rfl rfl (.inl rfl) ?_
    conv => whnf
    refine ⟨[], [], rfl, congrArg AV.bool ?_, rfl⟩
    simp [lapsR, h1]
  · conv => whnf
    refine ⟨[], [], rfl, congrArg AV.bool ?_, rfl⟩
    simp [lapsR, h1]

def numB (n : Int) : Bool := inB n 0 2147483647

theorem number_spec (n : Int) : CallsF Try.prog 97 [iv n] [] (.bool (numB n)) [] := by
  refine e97 ?_
  conv => whnf
  iterate 1 (all_goals (try (refine ifB_of (fun _ => ?_) (fun _ => ?_))); all_goals (conv => whnf))
  all_goals (refine ⟨[], [], rfl, congrArg AV.bool ?_, rfl⟩; simp_all [numB, inB] <;> omega)

theorem in23_spec (n : Int) : CallsF Try.prog 101 [iv n] [] (.bool (numB n)) [] := by
  refine e101 ?_
  conv => whnf
  iterate 1 (all_goals (try (refine ifB_of (fun _ => ?_) (fun _ => ?_))); all_goals (conv => whnf))
  all_goals (refine ⟨[], [], rfl, congrArg AV.bool ?_, rfl⟩; simp_all [numB, inB] <;> omega)

def gopR (p b : Int) : Bool := inB p 0 1000 && inB b 0 7

theorem gop_spec (p b : Int) : CallsF Try.prog 83 [.agg [iv p, iv b]] [] (.bool (gopR p b)) [] := by
  refine e83 ?_
  conv => whnf
  iterate 3 (all_goals (try (refine ifB_of (fun _ => ?_) (fun _ => ?_))); all_goals (conv => whnf))
  all_goals (refine ⟨[], [], rfl, congrArg AV.bool ?_, rfl⟩; simp_all [gopR, inB] <;> omega)

theorem gop32_spec (p b : Int) : CallsF Try.prog 89 [.agg [iv p, iv b]] [] (.bool (gopR p b)) [] := by
  refine e89 ?_
  conv => whnf
  iterate 3 (all_goals (try (refine ifB_of (fun _ => ?_) (fun _ => ?_))); all_goals (conv => whnf))
  all_goals (refine ⟨[], [], rfl, congrArg AV.bool ?_, rfl⟩; simp_all [gopR, inB] <;> omega)

def fcover (n s : Int) : Int := (n + 4 * s - 1) / (4 * s)

theorem fcover_spec (n s : Int) (hn : 1 ≤ n ∧ n ≤ 1024) (hs : 1 ≤ s ∧ s ≤ 64) : CallsF Try.prog 109 [iv n, iv s] [] (iv (fcover n s)) [] := by
  refine e109 ?_
  conv => whnf
  rw [wrap_id (n := 4 * s) (by omega) (by omega), wrap_id (n := n + 4 * s) (by omega) (by omega), wrap_id (n := n + 4 * s - 1) (by omega) (by omega)]
  refine need_of ((decide_eq_true (by omega))) ?_
  conv => whnf
  refine ⟨[], [], rfl, congrArg iv ?_, rfl⟩
  have : 0 ≤ (n + 4 * s - 1) / (4 * s) := Int.ediv_nonneg (by omega) (by omega)
  have : (n + 4 * s - 1) / (4 * s) ≤ n + 4 * s - 1 := Int.ediv_le_self _ (by omega)
  rw [Int.tdiv_eq_ediv_of_nonneg (by omega), wrap_id (by omega) (by omega), fcover]
end Go.Proofs.TryN

