/- Layer 26: the frames whose turn it is are taken. -/
import Derived.Test.YtdcpobifckmoaaaN26F
namespace Go.Proofs.TryN
open Go Go.AL Go.Proofs

theorem St.le.of_eq {a b : St} (h : a = b) : a.le b := h ▸ St.le.refl a

/-- How many are taken. -/
def tk : Int → List (Int × Int) → Nat
  | _, [] => 0
  | next, x :: W => if x.1 = next then tk (next + 1) W + 1 else 0

def outR (W : List (Int × Int)) (k : Nat) : List (List AV) := (W.take k).map fun x => frow x.2

theorem tk_le : ∀ (next : Int) (W : List (Int × Int)), tk next W ≤ W.length
  | _, [] => Nat.le_refl _
  | next, x :: W => by
    rw [tk]
    split
    · have := tk_le (next + 1) W; simp only [List.length_cons]; omega
    · exact Nat.zero_le _

theorem outR_succ {W : List (Int × Int)} {i : Nat} {x : Int × Int} {xs : List (Int × Int)} (h : W.drop i = x :: xs) : outR W (i + 1) = outR W i ++ [frow x.2] := by
  have hi : i < W.length := by
    apply Classical.byContradiction
    intro hc
    rw [List.drop_eq_nil_of_le (by omega)] at h; cases h
  have hx : W[i] = x := by
    have := congrArg (·[0]?) h
    simp only [List.getElem?_drop, Nat.add_zero, List.getElem?_cons_zero, List.getElem?_eq_getElem hi, Option.some.injEq] at this
    exact this
  unfold outR
  rw [List.take_succ_eq_append_getElem hi, List.map_append, hx]; rfl

theorem outR_len {W : List (Int × Int)} {i : Nat} (h : i ≤ W.length) : (outR W i).length = i := by
  unfold outR; rw [List.length_map, List.length_take]; omega

theorem drop_tail {W : List (Int × Int)} {i : Nat} {x : Int × Int} {xs : List (Int × Int)} (h : W.drop i = x :: xs) : W.drop (i + 1) = xs := by
  have := congrArg List.tail h
  simpa [List.tail_drop] using this

theorem delete1 (x : Int × Int) (xs : List (Int × Int)) (h : xs.length < 1000000) : CallsF Try.prog 20 [.sl 0 0 (xs.length + 1), iv 0, iv 1] [some (.arr 10 (irow x :: irows xs))] (.sl 1 0 xs.length) [none, some (.arr 10 (irows xs))] := by
  have hl : (irows xs).length = xs.length := by rw [irows, List.length_map]
  have := delete_spec (irow x) (irows xs) (by omega) (irows_closed xs)
  rwa [hl] at this

set_option maxRecDepth 10000 in
set_option maxHeartbeats 1000000 in
theorem take_spec (next : Int) (W : List (Int × Int)) (hlo : 0 ≤ next ∧ next < 1000000) (hlen : W.length ≤ 9) :
    CallsF Try.prog 9 [.bp 0 0] [some (.box [iv next, .sl 1 0 W.length]), some (.arr 10 (irows W))] (.ro 9 (outR W (tk next W))) [some (.box [iv (next + tk next W), .sl 2 0 (W.drop (tk next W)).length]), none, some (.arr 10 (irows (W.drop (tk next W))))] := by
  refine CallsF.le ?_
  refine m9 1 ?_
  conv => whnf
  refine LoopA.inv (fun n st => ∃ (i : Nat) (R : List (Int × Int)), n = R.length ∧ i + R.length = W.length ∧ W.drop i = R ∧ i + tk (next + i) R = tk next W ∧ ((i = 0 ∧ st = ⟨[(0, .bp 0 0), (3, .snil)], [some (.box [iv next, .sl 1 0 R.length]), some (.arr 10 (irows R))], 2, 1⟩) ∨ (0 < i ∧ st = ⟨[(0, .bp 0 0), (3, .sl 2 0 i)], [some (.box [iv (next + i), .sl 1 0 R.length]), some (.arr 10 (irows R)), some (.arr 9 (outR W i))], 3, 1⟩))) W.length [0, 3] [1] [] (by rfl) ?_ ?_
  · conv => whnf
    exact ⟨0, W, rfl, by omega, rfl, by simp, .inl ⟨rfl, rfl⟩⟩
  rintro n st ⟨i, R, hn, hiR, hR, htk, ⟨rfl, rfl⟩ | ⟨hi, rfl⟩⟩
  · simp only [Int.natCast_zero, Int.add_zero, Nat.zero_add] at htk
    rw [List.drop_zero] at hR
    subst hR
    clear hiR
    cases W with
    | nil =>
      rw [← htk]
      conv => whnf
      exact ⟨[1], [], rfl, AV.le.snil_o 9, by rw [show tk next [] = 0 from rfl, Int.natCast_zero, Int.add_zero]; rfl⟩
    | cons x xs =>
      have k0 := delete1 x xs (by simp only [List.length_cons] at hlen; omega)
      have hR1 : irows (x :: xs) = irow x :: irows xs := rfl
      have hO := outR_succ (W := x :: xs) (i := 0) (x := x) (xs := xs) rfl
      conv => whnf
      refine ifB_of (fun _ => ?_) (fun h => absurd h (by simp))
      conv => whnf
      refine need_of ((decide_eq_true ⟨by omega, by simp⟩)) ?_
      conv => whnf
      refine ifB_of (fun h2 => ?_) (fun h2 => ?_)
      · have h2 : x.1 = next := by simpa using h2
        have htk2 : tk next (x :: xs) = tk (next + 1) xs + 1 := by rw [tk, if_pos h2]
        conv => whnf
        first | refine pt_of [0, 3] [1] [] (by rfl) ?_ | refine ptw_of [0, 3] [1] [] (by rfl) ?_
        conv => whnf
        refine need_of ((decide_eq_true ⟨by omega, by simp⟩)) ?_
        conv => whnf
        refine ptw_le [0, 3] [1, 3] [] (⟨[(0, .bp 0 0), (3, .sl 2 0 1)], [some (.box [iv next, .sl 1 0 (xs.length + 1)]), some (.arr 10 (irow x :: irows xs)), some (.arr 9 [frow x.2])], 3, 1⟩) (by rfl) (St.le.of_eq (by rfl)) ?_
        conv => whnf
        refine CallsF.call [1] [] k0 rfl rfl rfl rfl rfl (.inl rfl) ?_
        conv => whnf
        rw [wrap_id (n := next + 1) (by omega) (by omega)]
        refine ⟨xs.length, [0, 3], [3, 2], [], by simp only [List.length_cons] at hn; omega, rfl, ?_⟩
        conv => whnf
        refine ⟨1, xs, rfl, by simp only [List.length_cons]; omega, rfl, by rw [htk2, show next + ((1 : Nat) : Int) = next + 1 from rfl]; omega, .inr ⟨by omega, ?_⟩⟩
        rw [hO]
        rfl
      · have h2 : ¬ x.1 = next := by simpa using h2
        have htk2 : tk next (x :: xs) = 0 := by rw [tk, if_neg h2]
        rw [htk2]
        conv => whnf
        exact ⟨[1], [], rfl, AV.le.snil_o 9, by rw [Int.natCast_zero, Int.add_zero]; rfl⟩
  · have hol := outR_len (W := W) (i := i) (by omega)
    cases R with
    | nil =>
      have e : tk next W = i := by rw [← htk]; simp [tk]
      rw [e, hR]
      generalize outR W i = O at *
      conv => whnf
      refine ⟨[1], [2], rfl, AV.le.of_eq ?_, rfl⟩
      show AV.ro 9 (List.take i (List.drop 0 O)) = AV.ro 9 O
      rw [List.drop_zero, ← hol, List.take_length]
    | cons x xs =>
      have k0 := delete1 x xs (by simp only [List.length_cons] at hiR; omega)
      have hO := outR_succ hR
      have hR2 := drop_tail hR
      simp only [List.length_cons] at hiR hn
      conv => whnf
      refine ifB_of (fun _ => ?_) (fun h => absurd h (by simp))
      conv => whnf
      refine need_of ((decide_eq_true ⟨by omega, by simp⟩)) ?_
      conv => whnf
      refine ifB_of (fun h2 => ?_) (fun h2 => ?_)
      · have h2 : x.1 = next + i := by simpa using h2
        have htk2 : tk (next + i) (x :: xs) = tk (next + i + 1) xs + 1 := by rw [tk, if_pos h2]
        generalize outR W i = O at *
        conv => whnf
        first | refine pt_of [0, 3] [1, 2] [] (by rfl) ?_ | refine ptw_of [0, 3] [1, 2] [] (by rfl) ?_
        conv => whnf
        refine need_of ((decide_eq_true ⟨by omega, by simp⟩)) ?_
        conv => whnf
        refine need_of ((by rw [Bool.and_eq_true, decide_eq_true_iff]; exact ⟨⟨by omega, (show 121 * (i + 1) ≤ 2 ^ 46 by omega)⟩, rfl⟩)) ?_
        conv => whnf
        refine ptw_le [0, 3] [1, 4] [] (⟨[(0, .bp 0 0), (3, .sl 2 0 (i + 1))], [some (.box [iv (next + i), .sl 1 0 (xs.length + 1)]), some (.arr 10 (irow x :: irows xs)), some (.arr 9 (O ++ [frow x.2]))], 3, 1⟩) (by rfl) (St.le.of_eq (by rfl)) ?_
        conv => whnf
        refine CallsF.call [1] [] k0 rfl rfl rfl rfl rfl (.inl rfl) ?_
        conv => whnf
        rw [wrap_id (n := next + i + 1) (by omega) (by omega)]
        refine ⟨xs.length, [0, 3], [3, 2], [], by omega, rfl, ?_⟩
        conv => whnf
        refine ⟨i + 1, xs, rfl, by omega, hR2, by rw [show next + ((i + 1 : Nat) : Int) = next + i + 1 by omega]; rw [htk2] at htk; omega, .inr ⟨by omega, ?_⟩⟩
        rw [show next + ((i + 1 : Nat) : Int) = next + i + 1 by omega, hO]
      · have h2 : ¬ x.1 = next + i := by simpa using h2
        have htk2 : tk (next + i) (x :: xs) = 0 := by rw [tk, if_neg h2]
        rw [htk2] at htk
        rw [← htk, Nat.add_zero, hR]
        generalize outR W i = O at *
        conv => whnf
        refine ⟨[1], [2], rfl, AV.le.of_eq ?_, rfl⟩
        show AV.ro 9 (List.take i (List.drop 0 O)) = AV.ro 9 O
        rw [List.drop_zero, ← hol, List.take_length]

end Go.Proofs.TryN

