/- Layer 39: streams stripped, spread, again, first: the law's walk. -/
import Derived.Test.YtlnglbddnhabfaaN39G7
namespace Go.Proofs.TryN
open Go Go.AL Go.Proofs

/-! Layer 39: streams stripped, spread, again, first: the law's walk. -/

theorem told_ok {L : List (Int × List Int)} (h : okL L) : CallsF Try.prog 12 [.ri .u8 (joinL 0 L), iv 0, .ro 2 (L.map uRow), iv 0] [] (.bool true) [] := by
  have k := rjoinU h
  generalize joinL 0 L = J at *
  refine e12 ?_
  conv => whnf
  refine CallsF.call [] [] k rfl rfl rfl rfl rfl (.inl rfl) ?_
  conv => whnf
  rw [show (strOfNums J == strOfNums J) = true from beq_self_eq_true (strOfNums J).data]
  conv => whnf
  exact ⟨[], [], rfl, rfl, rfl⟩

theorem told_no {L : List (Int × List Int)} {e : Int} (he : e ≠ 0) : CallsF Try.prog 12 [.snil, iv e, .ro 2 (L.map uRow), iv e] [] (.bool true) [] := by
  refine e12 ?_
  conv => whnf
  rw [show (e != 0) = true by simp [he]]
  conv => whnf
  rw [beq_self_eq_true e]
  exact ⟨[], [], rfl, rfl, rfl⟩

theorem unitsU {f : FuncId} {args : List AV} {L : List (Int × List Int)} (k : CallsF Try.prog f args [] (unitsV L) []) : CallsF Try.prog f args [] (.ro 2 (L.map uRow)) [] :=
  CallsF.le (CallsA.mono k fun r h' ⟨a, b⟩ => ⟨by rw [a]; exact unitsV_le _, b⟩)

set_option maxRecDepth 10000 in
set_option maxHeartbeats 4000000 in
theorem makes_spec (bs : List Int) (h : okB bs) (hb : bs.length ≤ 9223372036854775807) (n : Int) : CallsF Try.prog 4 [.ri .u8 bs, iv n] [] (.bool true) [] := by
  have kf := lfirst_spec
  by_cases h3 : bs.length ≤ 3000
  case neg =>
    refine e4 ?_
    conv => whnf
    refine CallsF.call [] [] kf rfl rfl rfl rfl rfl (.inl rfl) ?_
    conv => whnf
    rw [show decide (((bs.length : Nat) : Int) > 3000) = true from decide_eq_true (by omega)]
    conv => whnf
    exact ⟨[], [], rfl, rfl, rfl⟩
  by_cases hn : n ≤ 300
  case neg =>
    refine e4 ?_
    conv => whnf
    refine CallsF.call [] [] kf rfl rfl rfl rfl rfl (.inl rfl) ?_
    conv => whnf
    rw [show decide (((bs.length : Nat) : Int) > 3000) = false from decide_eq_false (by omega)]
    conv => whnf
    rw [show decide (n > 300) = true from decide_eq_true (by omega)]
    conv => whnf
    exact ⟨[], [], rfl, rfl, rfl⟩
  obtain ⟨hok, hl⟩ := sU_ok h h3
  have k1 := rsplitU bs h h3
  have s1 := strip_spec bs h h3
  have s2 := spread_spec bs h h3 n hn
  have s3 := first_spec bs h h3 n
  have s4 := again_spec bs h h3 n hn
  have r1 := unitsU (rstrip_spec (sU bs) (by omega))
  have r2 := unitsU (rspread_spec (sU bs) (by omega) n hn)
  have r3 := unitsU (rfirst_spec (sU bs) (by omega) n hn)
  have r4 := unitsU (ragain_spec (sU bs) (by omega) n hn)
  unfold madeV at s1 s2 s3
  unfold againV at s4
  have pre0 : decide (((bs.length : Nat) : Int) > 3000) = false := decide_eq_false (by omega)
  have pre1 : decide (n > 300) = false := decide_eq_false (by omega)
  by_cases he : splitE bs = 0
  · rw [if_pos he] at s1 s2 s3
    rw [if_neg (fun hh => hh he)] at s4
    rw [he] at k1
    have t1 := told_ok (okL_strip h h3)
    have t2 := told_ok (okL_spread h h3 hn)
    have t3 := told_ok (okL_first h h3 n)
    have t4 := told_ok (okL_again h h3 n)
    generalize stripL (sU bs) = A1 at *
    generalize spreadL (sU bs) (zerosL (padN n)) = A2 at *
    generalize firstL (sU bs) n = A3 at *
    generalize againU (sU bs) n = A4 at *
    generalize joinL 0 A1 = B1 at *
    generalize joinL 0 A2 = B2 at *
    generalize joinL 0 A3 = B3 at *
    generalize joinL 0 A4 = B4 at *
    generalize A1.map uRow = C1 at *
    generalize A2.map uRow = C2 at *
    generalize A3.map uRow = C3 at *
    generalize A4.map uRow = C4 at *
    cases hL : sU bs with
    | nil =>
      rw [hL] at k1 s4 r1 r2 r3 r4
      rw [if_neg (by decide)] at s4
      refine e4 ?_
      conv => whnf
      refine CallsF.call [] [] kf rfl rfl rfl rfl rfl (.inl rfl) ?_
      conv => whnf
      rw [pre0]
      conv => whnf
      rw [pre1]
      conv => whnf
      first | refine pt_of [0, 1] [] [] (by rfl) ?_ | refine ptw_of [0, 1] [] [] (by rfl) ?_
      conv => whnf
      refine CallsF.call [] [] k1 rfl rfl rfl rfl rfl (.inl rfl) ?_
      conv => whnf
      refine CallsF.call [] [] s1 rfl rfl rfl rfl rfl (.inl rfl) ?_
      conv => whnf
      refine CallsF.call [] [] r1 rfl rfl rfl rfl rfl (.inl rfl) ?_
      conv => whnf
      refine CallsF.call [] [] t1 rfl rfl rfl rfl rfl (.inl rfl) ?_
      conv => whnf
      first | refine pt_of [0, 1, 5, 6] [] [] (by rfl) ?_ | refine ptw_of [0, 1, 5, 6] [] [] (by rfl) ?_
      conv => whnf
      refine CallsF.call [] [] s2 rfl rfl rfl rfl rfl (.inl rfl) ?_
      conv => whnf
      refine CallsF.call [] [] r2 rfl rfl rfl rfl rfl (.inl rfl) ?_
      conv => whnf
      refine CallsF.call [] [] t2 rfl rfl rfl rfl rfl (.inl rfl) ?_
      conv => whnf
      first | refine pt_of [0, 1, 5, 6] [] [] (by rfl) ?_ | refine ptw_of [0, 1, 5, 6] [] [] (by rfl) ?_
      conv => whnf
      refine CallsF.call [] [] s3 rfl rfl rfl rfl rfl (.inl rfl) ?_
      conv => whnf
      refine CallsF.call [] [] r3 rfl rfl rfl rfl rfl (.inl rfl) ?_
      conv => whnf
      refine CallsF.call [] [] t3 rfl rfl rfl rfl rfl (.inl rfl) ?_
      conv => whnf
      first | refine pt_of [0, 1, 5, 6] [] [] (by rfl) ?_ | refine ptw_of [0, 1, 5, 6] [] [] (by rfl) ?_
      conv => whnf
      refine CallsF.call [] [] s4 rfl rfl rfl rfl rfl (.inl rfl) ?_
      conv => whnf
      first | refine pt_of [0, 1, 5, 6, 7, 8] [] [] (by rfl) ?_ | refine ptw_of [0, 1, 5, 6, 7, 8] [] [] (by rfl) ?_
      conv => whnf
      exact ⟨[], [], rfl, rfl, rfl⟩
    | cons x0 r =>
      have hv : vidB (x0 :: r) = (x0.1 == 0) := rfl
      rw [hL] at k1 s4 r1 r2 r3 r4
      rw [hv] at s4
      obtain ⟨c0, d0⟩ := x0
      simp only at s4
      rw [show (((c0, d0) :: r).map uRow) = [iv c0, .ri .u8 d0] :: r.map uRow from rfl] at k1 r1 r2 r3 r4
      generalize r.map uRow = U at *
      by_cases hc0 : c0 = 0
      · rw [if_pos (by simp [hc0])] at s4
        refine e4 ?_
        conv => whnf
        refine CallsF.call [] [] kf rfl rfl rfl rfl rfl (.inl rfl) ?_
        conv => whnf
        rw [pre0]
        conv => whnf
        rw [pre1]
        conv => whnf
        first | refine pt_of [0, 1] [] [] (by rfl) ?_ | refine ptw_of [0, 1] [] [] (by rfl) ?_
        conv => whnf
        refine CallsF.call [] [] k1 rfl rfl rfl rfl rfl (.inl rfl) ?_
        conv => whnf
        refine CallsF.call [] [] s1 rfl rfl rfl rfl rfl (.inl rfl) ?_
        conv => whnf
        refine CallsF.call [] [] r1 rfl rfl rfl rfl rfl (.inl rfl) ?_
        conv => whnf
        refine CallsF.call [] [] t1 rfl rfl rfl rfl rfl (.inl rfl) ?_
        conv => whnf
        first | refine pt_of [0, 1, 5, 6] [] [] (by rfl) ?_ | refine ptw_of [0, 1, 5, 6] [] [] (by rfl) ?_
        conv => whnf
        refine CallsF.call [] [] s2 rfl rfl rfl rfl rfl (.inl rfl) ?_
        conv => whnf
        refine CallsF.call [] [] r2 rfl rfl rfl rfl rfl (.inl rfl) ?_
        conv => whnf
        refine CallsF.call [] [] t2 rfl rfl rfl rfl rfl (.inl rfl) ?_
        conv => whnf
        first | refine pt_of [0, 1, 5, 6] [] [] (by rfl) ?_ | refine ptw_of [0, 1, 5, 6] [] [] (by rfl) ?_
        conv => whnf
        refine CallsF.call [] [] s3 rfl rfl rfl rfl rfl (.inl rfl) ?_
        conv => whnf
        refine CallsF.call [] [] r3 rfl rfl rfl rfl rfl (.inl rfl) ?_
        conv => whnf
        refine CallsF.call [] [] t3 rfl rfl rfl rfl rfl (.inl rfl) ?_
        conv => whnf
        first | refine pt_of [0, 1, 5, 6] [] [] (by rfl) ?_ | refine ptw_of [0, 1, 5, 6] [] [] (by rfl) ?_
        conv => whnf
        refine CallsF.call [] [] s4 rfl rfl rfl rfl rfl (.inl rfl) ?_
        conv => whnf
        first | refine pt_of [0, 1, 5, 6, 7, 8] [] [] (by rfl) ?_ | refine ptw_of [0, 1, 5, 6, 7, 8] [] [] (by rfl) ?_
        conv => whnf
        rw [show (c0 != 0) = false by simp [hc0]]
        conv => whnf
        first | refine pt_of [1, 5, 6, 7, 8] [] [] (by rfl) ?_ | refine ptw_of [1, 5, 6, 7, 8] [] [] (by rfl) ?_
        conv => whnf
        refine CallsF.call [] [] r4 rfl rfl rfl rfl rfl (.inl rfl) ?_
        conv => whnf
        refine CallsF.call [] [] t4 rfl rfl rfl rfl rfl (.inl rfl) ?_
        conv => whnf
        exact ⟨[], [], rfl, rfl, rfl⟩
      · rw [if_neg (by simp [hc0])] at s4
        refine e4 ?_
        conv => whnf
        refine CallsF.call [] [] kf rfl rfl rfl rfl rfl (.inl rfl) ?_
        conv => whnf
        rw [pre0]
        conv => whnf
        rw [pre1]
        conv => whnf
        first | refine pt_of [0, 1] [] [] (by rfl) ?_ | refine ptw_of [0, 1] [] [] (by rfl) ?_
        conv => whnf
        refine CallsF.call [] [] k1 rfl rfl rfl rfl rfl (.inl rfl) ?_
        conv => whnf
        refine CallsF.call [] [] s1 rfl rfl rfl rfl rfl (.inl rfl) ?_
        conv => whnf
        refine CallsF.call [] [] r1 rfl rfl rfl rfl rfl (.inl rfl) ?_
        conv => whnf
        refine CallsF.call [] [] t1 rfl rfl rfl rfl rfl (.inl rfl) ?_
        conv => whnf
        first | refine pt_of [0, 1, 5, 6] [] [] (by rfl) ?_ | refine ptw_of [0, 1, 5, 6] [] [] (by rfl) ?_
        conv => whnf
        refine CallsF.call [] [] s2 rfl rfl rfl rfl rfl (.inl rfl) ?_
        conv => whnf
        refine CallsF.call [] [] r2 rfl rfl rfl rfl rfl (.inl rfl) ?_
        conv => whnf
        refine CallsF.call [] [] t2 rfl rfl rfl rfl rfl (.inl rfl) ?_
        conv => whnf
        first | refine pt_of [0, 1, 5, 6] [] [] (by rfl) ?_ | refine ptw_of [0, 1, 5, 6] [] [] (by rfl) ?_
        conv => whnf
        refine CallsF.call [] [] s3 rfl rfl rfl rfl rfl (.inl rfl) ?_
        conv => whnf
        refine CallsF.call [] [] r3 rfl rfl rfl rfl rfl (.inl rfl) ?_
        conv => whnf
        refine CallsF.call [] [] t3 rfl rfl rfl rfl rfl (.inl rfl) ?_
        conv => whnf
        first | refine pt_of [0, 1, 5, 6] [] [] (by rfl) ?_ | refine ptw_of [0, 1, 5, 6] [] [] (by rfl) ?_
        conv => whnf
        refine CallsF.call [] [] s4 rfl rfl rfl rfl rfl (.inl rfl) ?_
        conv => whnf
        first | refine pt_of [0, 1, 5, 6, 7, 8] [] [] (by rfl) ?_ | refine ptw_of [0, 1, 5, 6, 7, 8] [] [] (by rfl) ?_
        conv => whnf
        rw [show (c0 != 0) = true by simp [hc0]]
        conv => whnf
        exact ⟨[], [], rfl, rfl, rfl⟩
  · rw [if_neg he] at s1 s2 s3
    rw [if_pos he] at s4
    generalize splitE bs = e at *
    have t1 := told_no (L := stripL (sU bs)) he
    have t2 := told_no (L := spreadL (sU bs) (zerosL (padN n))) he
    have t3 := told_no (L := firstL (sU bs) n) he
    have t4 := told_no (L := againU (sU bs) n) he
    generalize (stripL (sU bs)).map uRow = C1 at *
    generalize (spreadL (sU bs) (zerosL (padN n))).map uRow = C2 at *
    generalize (firstL (sU bs) n).map uRow = C3 at *
    generalize (againU (sU bs) n).map uRow = C4 at *
    generalize (sU bs).map uRow = U at *
    refine e4 ?_
    conv => whnf
    refine CallsF.call [] [] kf rfl rfl rfl rfl rfl (.inl rfl) ?_
    conv => whnf
    rw [pre0]
    conv => whnf
    rw [pre1]
    conv => whnf
    first | refine pt_of [0, 1] [] [] (by rfl) ?_ | refine ptw_of [0, 1] [] [] (by rfl) ?_
    conv => whnf
    refine CallsF.call [] [] k1 rfl rfl rfl rfl rfl (.inl rfl) ?_
    conv => whnf
    refine CallsF.call [] [] s1 rfl rfl rfl rfl rfl (.inl rfl) ?_
    conv => whnf
    refine CallsF.call [] [] r1 rfl rfl rfl rfl rfl (.inl rfl) ?_
    conv => whnf
    refine CallsF.call [] [] t1 rfl rfl rfl rfl rfl (.inl rfl) ?_
    conv => whnf
    first | refine pt_of [0, 1, 5, 6] [] [] (by rfl) ?_ | refine ptw_of [0, 1, 5, 6] [] [] (by rfl) ?_
    conv => whnf
    refine CallsF.call [] [] s2 rfl rfl rfl rfl rfl (.inl rfl) ?_
    conv => whnf
    refine CallsF.call [] [] r2 rfl rfl rfl rfl rfl (.inl rfl) ?_
    conv => whnf
    refine CallsF.call [] [] t2 rfl rfl rfl rfl rfl (.inl rfl) ?_
    conv => whnf
    first | refine pt_of [0, 1, 5, 6] [] [] (by rfl) ?_ | refine ptw_of [0, 1, 5, 6] [] [] (by rfl) ?_
    conv => whnf
    refine CallsF.call [] [] s3 rfl rfl rfl rfl rfl (.inl rfl) ?_
    conv => whnf
    refine CallsF.call [] [] r3 rfl rfl rfl rfl rfl (.inl rfl) ?_
    conv => whnf
    refine CallsF.call [] [] t3 rfl rfl rfl rfl rfl (.inl rfl) ?_
    conv => whnf
    first | refine pt_of [0, 1, 5, 6] [] [] (by rfl) ?_ | refine ptw_of [0, 1, 5, 6] [] [] (by rfl) ?_
    conv => whnf
    refine CallsF.call [] [] s4 rfl rfl rfl rfl rfl (.inl rfl) ?_
    conv => whnf
    first | refine pt_of [0, 1, 5, 6, 7, 8] [] [] (by rfl) ?_ | refine ptw_of [0, 1, 5, 6, 7, 8] [] [] (by rfl) ?_
    conv => whnf
    rw [show (e == 0) = false from beq_eq_false_iff_ne.2 he]
    conv => whnf
    first | refine pt_of [1, 5, 6, 7, 8] [] [] (by rfl) ?_ | refine ptw_of [1, 5, 6, 7, 8] [] [] (by rfl) ?_
    conv => whnf
    refine CallsF.call [] [] r4 rfl rfl rfl rfl rfl (.inl rfl) ?_
    conv => whnf
    refine CallsF.call [] [] t4 rfl rfl rfl rfl rfl (.inl rfl) ?_
    conv => whnf
    exact ⟨[], [], rfl, rfl, rfl⟩


end Go.Proofs.TryN

