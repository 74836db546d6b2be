/- Layer 26: the document's queue: the frames whose turn it is. -/
import Derived.Test.YtdcpobifckmoaaaF27
import Derived.Test.YtdcpobifckmoaaaN26I
namespace Go.Proofs.TryN
open Go Go.AL Go.Proofs

def sh1 (H : Nat → Bool) : Nat → Bool := fun i => match Nat.blt i 8 with
  | true => H (i + 1)
  | false => false
def sF (F : Nat → Fr) : Nat → Fr := fun i => match Nat.blt i 8 with
  | true => F (i + 1)
  | false => F 8

theorem blt_of {i : Nat} (h : i < 8) : Nat.blt i 8 = true := Nat.ble_eq_true_of_le h
theorem sh1_lt (H : Nat → Bool) {i : Nat} (h : i < 8) : sh1 H i = H (i + 1) := by simp only [sh1, blt_of h]
theorem sF_lt (F : Nat → Fr) {i : Nat} (h : i < 8) : sF F i = F (i + 1) := by simp only [sF, blt_of h]

/-- The document's queue holds who waits. -/
structure RQ (next : Int) (W : List (Int × Int)) (H : Nat → Bool) (F : Nat → Fr) : Prop where
  mem : ∀ i : Nat, i < 9 → (H i = true ↔ ∃ v, (next + (i : Int), v) ∈ W)
  frm : ∀ (i : Nat) v, i < 9 → (next + (i : Int), v) ∈ W → F i = Fr.of v

theorem RQ.head {next : Int} {W : List (Int × Int)} {H : Nat → Bool} {F : Nat → Fr} (h : Waits next W) (hb : next + 1 < 1000000) (q : RQ next W H F) (h0 : H 0 = true) :
    ∃ v W', W = (next, v) :: W' ∧ F 0 = Fr.of v ∧ Waits (next + 1) W' ∧ RQ (next + 1) W' (sh1 H) (sF F) := by
  obtain ⟨v, hv⟩ := (q.mem 0 (by omega)).1 h0
  rw [show next + ((0 : Nat) : Int) = next by omega] at hv
  cases W with
  | nil => cases hv
  | cons x W' =>
    have hr := List.pairwise_cons.1 h.rise
    have hx : x = (next, v) := by
      rcases List.mem_cons.1 hv with e | e
      · exact e.symm
      · have a := hr.1 _ e
        have b := (h.rng x (by simp)).1
        simp only at a; omega
    subst hx
    have up : ∀ y ∈ W', next + 1 ≤ y.1 ∧ y.1 ≤ next + 8 := fun y hy => by
      have a := hr.1 y hy
      have b := (h.rng y (by simp [hy])).2
      simp only at a; omega
    refine ⟨v, W', rfl, q.frm 0 v (by omega) (by rw [show next + ((0 : Nat) : Int) = next by omega]; exact hv), ⟨by have := h.lo; omega, fun y hy => by have := up y hy; omega, hr.2⟩, ⟨fun i hi => ?_, fun i u hi hu => ?_⟩⟩
    · by_cases h8 : i < 8
      · rw [sh1_lt H h8, q.mem (i + 1) (by omega)]
        have e : next + ((i + 1 : Nat) : Int) = next + 1 + (i : Int) := by omega
        rw [e]
        constructor
        · rintro ⟨u, hu⟩
          rcases List.mem_cons.1 hu with e2 | e2
          · have := congrArg Prod.fst e2; simp only at this; omega
          · exact ⟨u, e2⟩
        · rintro ⟨u, hu⟩; exact ⟨u, by simp [hu]⟩
      · obtain rfl : i = 8 := by omega
        constructor
        · intro hh; cases hh
        · rintro ⟨u, hu⟩
          have := up _ hu
          simp only at this; omega
    · have hu2 := up _ hu
      simp only at hu2
      have h8 : i < 8 := by omega
      rw [sF_lt F h8]
      exact q.frm (i + 1) u (by omega) (by rw [show next + ((i + 1 : Nat) : Int) = next + 1 + (i : Int) by omega]; simp [hu])

theorem RQ.none {next : Int} {W : List (Int × Int)} {H : Nat → Bool} {F : Nat → Fr} (q : RQ next W H F) (h0 : H 0 = false) : tk next W = 0 := by
  cases W with
  | nil => rfl
  | cons x W' =>
    rw [tk, if_neg]
    intro hx
    have : H 0 = true := (q.mem 0 (by omega)).2 ⟨x.2, by rw [show next + ((0 : Nat) : Int) = next by omega, ← hx]; simp⟩
    rw [h0] at this; cases this

set_option maxRecDepth 20000 in
set_option maxHeartbeats 4000000 in
theorem rtake_spec (next : Int) (W : List (Int × Int)) (H : Nat → Bool) (F : Nat → Fr) (hW : Waits next W) (hb : next < 900000) (q : RQ next W H F) :
    CallsA Try.prog 14 [.bp 0 0] [some (.box (qcells next H F))] fun r h' => r.le (.ro 9 (outR W (tk next W))) ∧ ∃ H' F', Waits (next + tk next W) (W.drop (tk next W)) ∧ RQ (next + tk next W) (W.drop (tk next W)) H' F' ∧ h' = [some (.box (qcells (next + tk next W) H' F'))] := by
  have hlen := hW.len_le
  have hlo := hW.lo
  refine e14 ?_
  conv => whnf
  refine LoopA.inv (fun n st => ∃ (i : Nat) (R : List (Int × Int)) (H' : Nat → Bool) (F' : Nat → Fr), n = R.length ∧ i + R.length = W.length ∧ W.drop i = R ∧ i + tk (next + i) R = tk next W ∧ Waits (next + i) R ∧ RQ (next + i) R H' F' ∧ ((i = 0 ∧ st = ⟨[(0, .bp 0 0), (3, .snil)], [some (.box (qcells (next + i) H' F'))], 1, 1⟩) ∨ (0 < i ∧ st = ⟨[(0, .bp 0 0), (3, .sl 1 0 i)], [some (.box (qcells (next + i) H' F')), some (.arr 9 (outR W i))], 2, 1⟩))) W.length [0, 3] [] [] (by rfl) ?_ ?_
  · conv => whnf
    refine ⟨0, W, H, F, rfl, by omega, rfl, by simp, ?_, ?_, .inl ⟨rfl, ?_⟩⟩
    · rw [show next + ((0 : Nat) : Int) = next by omega]; exact hW
    · rw [show next + ((0 : Nat) : Int) = next by omega]; exact q
    · rw [show next + ((0 : Nat) : Int) = next by omega]; rfl
  clear q hW
  rintro n st ⟨i, R, H, F, hn, hiR, hR, htk, hW, q, ⟨rfl, rfl⟩ | ⟨hi, rfl⟩⟩
  · rw [show next + ((0 : Nat) : Int) = next by omega] at *
    rw [List.drop_zero] at hR
    subst hR
    clear htk hiR
    conv => whnf
    refine ifB_of (fun h1 => ?_) (fun h1 => ?_)
    · obtain ⟨v, W', hWe, hF, hW2, q2⟩ := RQ.head hW (by omega) q h1
      have hO := outR_succ (W := W) (i := 0) (x := (next, v)) (xs := W') hWe
      have htk2 : tk next W = tk (next + 1) W' + 1 := by rw [hWe, tk, if_pos rfl]
      conv => whnf
      refine ptw_le [0, 3] [2] [] (⟨[(0, .bp 0 0), (3, .sl 1 0 1)], [some (.box (qcells next H F)), some (.arr 9 [(F 0).row])], 2, 1⟩) (by rfl) (St.le.of_eq (by rfl)) ?_
      conv => whnf
      refine LoopA.steps 9 [0, 3, 4] [1] [] (by rfl) ?_
      conv => whnf
      first | refine pt_of [0, 3, 4] [1] [] (by rfl) ?_ | refine ptw_of [0, 3, 4] [1] [] (by rfl) ?_
      conv => whnf
      first | refine pt_of [0, 3, 4] [1] [] (by rfl) ?_ | refine ptw_of [0, 3, 4] [1] [] (by rfl) ?_
      conv => whnf
      first | refine pt_of [0, 3, 4] [1] [] (by rfl) ?_ | refine ptw_of [0, 3, 4] [1] [] (by rfl) ?_
      conv => whnf
      first | refine pt_of [0, 3, 4] [1] [] (by rfl) ?_ | refine ptw_of [0, 3, 4] [1] [] (by rfl) ?_
      conv => whnf
      first | refine pt_of [0, 3, 4] [1] [] (by rfl) ?_ | refine ptw_of [0, 3, 4] [1] [] (by rfl) ?_
      conv => whnf
      first | refine pt_of [0, 3, 4] [1] [] (by rfl) ?_ | refine ptw_of [0, 3, 4] [1] [] (by rfl) ?_
      conv => whnf
      first | refine pt_of [0, 3, 4] [1] [] (by rfl) ?_ | refine ptw_of [0, 3, 4] [1] [] (by rfl) ?_
      conv => whnf
      first | refine pt_of [0, 3, 4] [1] [] (by rfl) ?_ | refine ptw_of [0, 3, 4] [1] [] (by rfl) ?_
      conv => whnf
      first | refine pt_of [0, 3] [1] [] (by rfl) ?_ | refine ptw_of [0, 3] [1] [] (by rfl) ?_
      conv => whnf
      rw [wrap_id (n := next + 1) (by omega) (by omega)]
      refine ⟨W'.length, [0, 3], [1], [], by rw [hn, hWe]; simp, rfl, ?_⟩
      conv => whnf
      refine ⟨1, W', sh1 H, sF F, rfl, by rw [hWe]; simp only [List.length_cons]; omega, by rw [hWe]; rfl, ?_, ?_, ?_, .inr ⟨by omega, ?_⟩⟩
      · rw [show next + ((1 : Nat) : Int) = next + 1 from rfl, htk2]; omega
      · exact hW2
      · exact q2
      · rw [hO, show next + ((1 : Nat) : Int) = next + 1 from rfl]
        show _ = (⟨_, [_, some (.arr 9 [frow v])], _, _⟩ : St)
        rw [← Fr.row_of, ← hF]
        rfl
    · have e := q.none h1
      rw [e]
      conv => whnf
      exact ⟨[], [], rfl, AV.le.snil_o 9, H, F, by rw [Int.natCast_zero, Int.add_zero]; exact hW, by rw [Int.natCast_zero, Int.add_zero]; exact q, by rw [Int.natCast_zero, Int.add_zero]; rfl⟩
  · have hol := outR_len (W := W) (i := i) (by omega)
    conv => whnf
    refine ifB_of (fun h1 => ?_) (fun h1 => ?_)
    · obtain ⟨v, W', hWe, hF, hW2, q2⟩ := RQ.head hW (by omega) q h1
      subst hWe
      have hO := outR_succ hR
      have hR2 := drop_tail hR
      have htk2 : tk (next + i) ((next + (i : Int), v) :: W') = tk (next + i + 1) W' + 1 := by rw [tk, if_pos rfl]
      simp only [List.length_cons] at hiR hn
      generalize outR W i = O at *
      conv => whnf
      refine need_of ((by rw [Bool.and_eq_true, decide_eq_true_iff]; exact ⟨⟨by omega, (show 121 * (i + 1) ≤ 2 ^ 46 by omega)⟩, rfl⟩)) ?_
      conv => whnf
      refine ptw_le [0, 3] [3] [] (⟨[(0, .bp 0 0), (3, .sl 1 0 (i + 1))], [some (.box (qcells (next + i) H F)), some (.arr 9 (O ++ [(F 0).row]))], 2, 1⟩) (by rfl) (St.le.of_eq (by rfl)) ?_
      conv => whnf
      refine LoopA.steps 9 [0, 3, 4] [1] [] (by rfl) ?_
      conv => whnf
      first | refine pt_of [0, 3, 4] [1] [] (by rfl) ?_ | refine ptw_of [0, 3, 4] [1] [] (by rfl) ?_
      conv => whnf
      first | refine pt_of [0, 3, 4] [1] [] (by rfl) ?_ | refine ptw_of [0, 3, 4] [1] [] (by rfl) ?_
      conv => whnf
      first | refine pt_of [0, 3, 4] [1] [] (by rfl) ?_ | refine ptw_of [0, 3, 4] [1] [] (by rfl) ?_
      conv => whnf
      first | refine pt_of [0, 3, 4] [1] [] (by rfl) ?_ | refine ptw_of [0, 3, 4] [1] [] (by rfl) ?_
      conv => whnf
      first | refine pt_of [0, 3, 4] [1] [] (by rfl) ?_ | refine ptw_of [0, 3, 4] [1] [] (by rfl) ?_
      conv => whnf
      first | refine pt_of [0, 3, 4] [1] [] (by rfl) ?_ | refine ptw_of [0, 3, 4] [1] [] (by rfl) ?_
      conv => whnf
      first | refine pt_of [0, 3, 4] [1] [] (by rfl) ?_ | refine ptw_of [0, 3, 4] [1] [] (by rfl) ?_
      conv => whnf
      first | refine pt_of [0, 3, 4] [1] [] (by rfl) ?_ | refine ptw_of [0, 3, 4] [1] [] (by rfl) ?_
      conv => whnf
      first | refine pt_of [0, 3] [1] [] (by rfl) ?_ | refine ptw_of [0, 3] [1] [] (by rfl) ?_
      conv => whnf
      rw [wrap_id (n := next + i + 1) (by omega) (by omega)]
      refine ⟨W'.length, [0, 3], [1], [], by omega, rfl, ?_⟩
      conv => whnf
      have e1 : next + ((i + 1 : Nat) : Int) = next + i + 1 := by omega
      refine ⟨i + 1, W', sh1 H, sF F, rfl, by omega, hR2, by rw [e1]; rw [htk2] at htk; omega, by rw [e1]; exact hW2, by rw [e1]; exact q2, .inr ⟨by omega, ?_⟩⟩
      rw [hO, e1]
      show _ = (⟨_, [_, some (.arr 9 (O ++ [frow v]))], _, _⟩ : St)
      rw [← Fr.row_of, ← hF]
      rfl
    · have e : tk next W = i := by rw [← htk, q.none h1]; rfl
      rw [e, hR]
      generalize outR W i = O at *
      conv => whnf
      refine ⟨[], [1], rfl, AV.le.of_eq ?_, H, F, hW, q, rfl⟩
      show AV.ro 9 (List.take i (List.drop 0 O)) = AV.ro 9 O
      rw [List.drop_zero, ← hol, List.take_length]

end Go.Proofs.TryN

