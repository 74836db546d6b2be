/- Layer 39: what is answered ahead of everything else: the walk. -/
import Derived.Test.YtlnglbddnhabfaaN39G6
namespace Go.Proofs.TryN
open Go Go.AL Go.Proofs

/-! Layer 39: what is answered ahead of everything else: the walk. -/

inductive LeR : List (List AV) → List (List AV) → Prop
  | nil : LeR [] []
  | cons {x y : List AV} {xs ys : List (List AV)} : LeL x y → LeR xs ys → LeR (x :: xs) (y :: ys)
theorem LeR.get {xs ys : List (List AV)} (h : LeR xs ys) : xs.length = ys.length ∧ ∀ (i : Nat) x y, xs[i]? = some x → ys[i]? = some y → LeL x y := by
  induction h with
  | nil => exact ⟨rfl, fun i x y hx => by cases hx⟩
  | cons h hs ih =>
    refine ⟨by simp [ih.1], fun i x y hx hy => ?_⟩
    cases i with
    | zero => simp at hx hy; subst hx hy; exact h
    | succ i => exact ih.2 i x y (by simpa using hx) (by simpa using hy)
theorem AV.le.ro {s : Nat} {xs ys : List (List AV)} (h : LeR xs ys) : (AV.ro s xs).le (.ro s ys) := by
  intro w F S v hr
  obtain ⟨hl, hg⟩ := h.get
  cases hr with
  | ro _ _ _ n cap a vs h1 h2 h3 h4 h5 =>
    refine .ro _ _ _ _ _ _ vs (by rw [← hl]; exact h1) h2 (fun i row hi => ?_) (fun i j row x hi hj => ?_) h5
    · obtain ⟨row', hi'⟩ : ∃ row', xs[i]? = some row' := by
        have := (List.getElem?_eq_some_iff.1 hi).1
        exact ⟨xs[i], List.getElem?_eq_getElem (by omega)⟩
      obtain ⟨g1, cb, off, g2, g3, g4⟩ := h3 i row' hi'
      obtain ⟨l1, _⟩ := (hg i row' row hi' hi).get
      refine ⟨by omega, cb, off, g2, g3, fun j x hj => ?_⟩
      obtain ⟨x', hj'⟩ : ∃ x', row'[j]? = some x' := by
        have := (List.getElem?_eq_some_iff.1 hj).1
        exact ⟨row'[j], List.getElem?_eq_getElem (by omega)⟩
      exact g4 j x' hj'
    · obtain ⟨row', hi'⟩ : ∃ row', xs[i]? = some row' := by
        have := (List.getElem?_eq_some_iff.1 hi).1
        exact ⟨xs[i], List.getElem?_eq_getElem (by omega)⟩
      obtain ⟨l1, l2⟩ := (hg i row' row hi' hi).get
      obtain ⟨x', hj'⟩ : ∃ x', row'[j]? = some x' := by
        have := (List.getElem?_eq_some_iff.1 hj).1
        exact ⟨row'[j], List.getElem?_eq_getElem (by omega)⟩
      exact l2 j x' x hj' hj w F .nil _ (h4 i j row' x' hi' hj')

def fU : List (Int × List Int) := [(0, [59, 120]), (48, []), (12, [0, 0, 0, 7, 1])]
def fB : List Int := [66, 66, 67, 68, 0, 0, 0, 0, 15, 0, 0, 0, 0, 59, 120, 66, 66, 67, 68, 48, 0, 0, 0, 13, 0, 0, 0, 15, 66, 66, 67, 68, 12, 0, 0, 0, 18, 0, 0, 0, 13, 0, 0, 0, 7, 1, 66, 66, 67, 68, 16, 0, 0, 0, 0, 0, 0, 0, 18]
def fS : List Int := [66, 66, 67, 68, 0, 0, 0, 0, 15, 0, 0, 0, 0, 59, 120, 66, 66, 67, 68, 12, 0, 0, 0, 18, 0, 0, 0, 15, 0, 0, 0, 7, 1, 66, 66, 67, 68, 16, 0, 0, 0, 0, 0, 0, 0, 18]

theorem fB_eq : joinL 0 fU = fB := by decide +kernel
theorem fB_ok : okB fB := by unfold okB; decide +kernel
theorem fB_split : splitE fB = 0 := by decide +kernel
theorem fB_units : sU fB = fU := by decide +kernel
theorem fU_strip : joinL 0 (stripL fU) = fS := by decide +kernel
theorem fU_ok : okL fU := by
  refine ⟨?_, by decide⟩
  unfold okU okB
  decide +kernel

theorem fjoin : CallsF Try.prog 21 [.ro 2 [[iv 0, .ri .u8 [59, 120]], [iv 48, .snil], [iv 12, .ri .u8 [0, 0, 0, 7, 1]]]] [] (.tup [.ri .u8 fB, .bool true]) [] := by
  have k := rjoinU fU_ok
  rw [fB_eq] at k
  exact CallsF.weak (LeL.cons (AV.le.ro (.cons (LeL.refl _) (.cons (.cons (AV.le.refl _) (.cons (AV.le.snil .u8) .nil)) (.cons (LeL.refl _) .nil)))) .nil) k

theorem fstrip : CallsF Try.prog 11 [.ri .u8 fB] [] (.tup [.ri .u8 fS, iv 0]) [] := by
  have k := strip_spec fB fB_ok (by decide)
  rw [fB_split, fB_units] at k
  unfold madeV at k
  rw [if_pos rfl, fU_strip] at k
  exact k

theorem fcensus : CallsF Try.prog 7 [.ri .u8 fB] [] (.tup [.ro 3 [[iv 0, iv 1, iv 2], [iv 12, iv 1, iv 5], [iv 48, iv 1, iv 0]], iv 0]) [] := by
  have k := census_spec fB fB_ok (by decide)
  have e : cenL fU = [(0, 1, 2), (12, 1, 5), (48, 1, 0)] := by decide +kernel
  rw [fB_split, fB_units, if_pos rfl, e] at k
  exact k

theorem ffind7 : CallsF Try.prog 8 [.ri .u8 fB, iv 7] [] (.tup [iv 2, iv 0]) [] := by
  have k := find_spec fB fB_ok (by decide) 7
  have e : fU.findIdx (findB 7) = 2 := by decide +kernel
  rw [fB_split, fB_units, if_pos rfl] at k
  unfold findV at k
  rw [e, if_pos (by decide)] at k
  exact k
theorem ffind8 : CallsF Try.prog 8 [.ri .u8 fB, iv 8] [] (.tup [iv (-1), iv 250]) [] := by
  have k := find_spec fB fB_ok (by decide) 8
  have e : fU.findIdx (findB 8) = 3 := by decide +kernel
  rw [fB_split, fB_units, if_pos rfl] at k
  unfold findV at k
  rw [e, if_neg (by decide)] at k
  exact k

theorem fstrip1 : CallsF Try.prog 11 [.ri .u8 (fB.drop 1)] [] (.tup [.snil, iv 270]) [] := by
  have k := strip_spec (fB.drop 1) (okB_drop fB_ok 1) (by decide)
  have e : splitE (fB.drop 1) = 270 := by decide +kernel
  unfold madeV at k
  rw [e, if_neg (by decide)] at k
  exact k

theorem fB_len : fB.length = 59 := by decide
theorem fS_len : fS.length = 46 := by decide

set_option maxRecDepth 10000 in
theorem lfirst_spec : CallsF Try.prog 5 [] [] (.bool true) [] := by
  have k1 := fjoin
  have k2 := fstrip
  have k3 := fcensus
  have k4 := ffind7
  have k5 := ffind8
  have k6 := fstrip1
  have l1 := fB_len
  have l2 := fS_len
  have ed : List.take ((fB.length : Int).toNat - Int.toNat 1) (List.drop (Int.toNat 1) fB) = fB.drop 1 := by
    show (fB.drop 1).take (fB.length - 1) = _
    rw [List.take_of_length_le (by simp)]
  rw [← ed] at k6
  refine e5 ?_
  conv => whnf
  refine CallsF.call [] [] vput_spec rfl rfl rfl rfl rfl (.inl rfl) ?_
  conv => whnf
  first | refine pt_of [1] [] [] (by rfl) ?_ | refine ptw_of [1] [] [] (by rfl) ?_
  conv => whnf
  refine CallsF.call [] [] k1 rfl rfl rfl rfl rfl (.inl rfl) ?_
  conv => whnf
  first | refine pt_of [2] [] [] (by rfl) ?_ | refine ptw_of [2] [] [] (by rfl) ?_
  conv => whnf
  refine CallsF.call [] [] k2 rfl rfl rfl rfl rfl (.inl rfl) ?_
  conv => whnf
  first | refine pt_of [2, 4, 5] [] [] (by rfl) ?_ | refine ptw_of [2, 4, 5] [] [] (by rfl) ?_
  conv => whnf
  refine CallsF.call [] [] k3 rfl rfl rfl rfl rfl (.inl rfl) ?_
  conv => whnf
  first | refine pt_of [2, 4, 5, 6, 7] [] [] (by rfl) ?_ | refine ptw_of [2, 4, 5, 6, 7] [] [] (by rfl) ?_
  conv => whnf
  refine CallsF.call [] [] k4 rfl rfl rfl rfl rfl (.inl rfl) ?_
  conv => whnf
  first | refine pt_of [2, 4, 5, 6, 7, 8, 9] [] [] (by rfl) ?_ | refine ptw_of [2, 4, 5, 6, 7, 8, 9] [] [] (by rfl) ?_
  conv => whnf
  refine CallsF.call [] [] k5 rfl rfl rfl rfl rfl (.inl rfl) ?_
  conv => whnf
  first | refine pt_of [2, 4, 5, 6, 7, 8, 9, 10, 11] [] [] (by rfl) ?_ | refine ptw_of [2, 4, 5, 6, 7, 8, 9, 10, 11] [] [] (by rfl) ?_
  conv => whnf
  refine CallsF.call [] [] k6 rfl rfl rfl rfl rfl (.inl rfl) ?_
  conv => whnf
  first | refine pt_of [2, 4, 5, 6, 7, 8, 9, 10, 11, 13] [] [] (by rfl) ?_ | refine ptw_of [2, 4, 5, 6, 7, 8, 9, 10, 11, 13] [] [] (by rfl) ?_
  conv => whnf
  exact ⟨[], [], rfl, rfl, rfl⟩


/-! Layer 39: which units a stream has: the law's walk. -/

theorem unitsV_le (L : List (Int × List Int)) : (unitsV L).le (.ro 2 (L.map uRow)) := by
  cases L with
  | nil => exact AV.le.snil_o 2
  | cons a l => exact AV.le.refl _
theorem cenV_le (W : List (Int × Nat × Nat)) : (cenV W).le (.ro 3 (crows W)) := by
  cases W with
  | nil => exact AV.le.snil_o 3
  | cons a l => exact AV.le.refl _

theorem rsplitU (bs : List Int) (h : okB bs) (h3 : bs.length ≤ 3000) : CallsF Try.prog 6 [.ri .u8 bs] [] (.tup [.ro 2 ((sU bs).map uRow), iv (splitE bs)]) [] :=
  CallsF.le (CallsA.mono (rsplit_spec bs h (by omega)) fun r h' ⟨a, b⟩ => ⟨by rw [a]; exact AV.le.tup (LeL.cons (unitsV_le _) (LeL.refl _)), b⟩)

theorem censusU (bs : List Int) (h : okB bs) (h3 : bs.length ≤ 3000) (he : splitE bs = 0) : CallsF Try.prog 7 [.ri .u8 bs] [] (.tup [.ro 3 (crows (cenL (sU bs))), iv 0]) [] := by
  have k := census_spec bs h h3
  rw [if_pos he] at k
  exact CallsF.le (CallsA.mono k fun r h' ⟨a, b⟩ => ⟨by rw [a]; exact AV.le.tup (LeL.cons (cenV_le _) (LeL.refl _)), b⟩)
theorem rcensusU (L : List (Int × List Int)) (hl : L.length ≤ 230) (hok : ∀ x ∈ L, okU x) : CallsF Try.prog 9 [.ro 2 (L.map uRow)] [] (.ro 3 (crows (cenL L))) [] :=
  CallsF.le (CallsA.mono (rcensus_spec L hl hok) fun r h' ⟨a, b⟩ => ⟨by rw [a]; exact cenV_le _, b⟩)

set_option maxRecDepth 10000 in
set_option maxHeartbeats 2000000 in
theorem counts_spec (bs : List Int) (h : okB bs) (hb : bs.length ≤ 9223372036854775807) (n : Int) : CallsF Try.prog 3 [.ri .u8 bs, iv n] [] (.bool true) [] := by
  have kf := lfirst_spec
  by_cases h3 : bs.length ≤ 3000
  case neg =>
    refine e3 ?_
    conv => whnf
    refine CallsF.call [] [] kf rfl rfl rfl rfl rfl (.inl rfl) ?_
    conv => whnf
    rw [show decide (((bs.length : Nat) : Int) > 3000) = true from decide_eq_true (by omega)]
    conv => whnf
    exact ⟨[], [], rfl, rfl, rfl⟩
  obtain ⟨hok, hl⟩ := sU_ok h h3
  have k1 := rsplitU bs h h3
  have kF := find_spec bs h h3 n
  by_cases he : splitE bs = 0
  · have kc := censusU bs h h3 he
    have kr := rcensusU (sU bs) hl hok
    have krf := rfind_spec (sU bs) (by omega) hok n
    have hwl : (crows (cenL (sU bs))).length ≤ 64 := by rw [crows, List.length_map]; exact cenL_len _
    have hrow : ∀ i : Nat, i < (crows (cenL (sU bs))).length → ∃ x : Int × Nat × Nat, nth (crows (cenL (sU bs))) (i : Int).toNat = some [iv x.1, iv x.2.1, iv x.2.2] := fun i hi => by
      rw [crows, List.length_map] at hi
      exact ⟨_, crow_nth (List.getElem?_eq_getElem hi)⟩
    rw [if_pos he] at kF
    rw [he] at k1
    unfold findV at kF
    unfold idxV at krf
    generalize (sU bs).map uRow = U at *
    generalize crows (cenL (sU bs)) = C at *
    generalize (sU bs).findIdx (findB n) = ix at *
    generalize (sU bs).length = ul at *
    by_cases hf : ix < ul
    · rw [if_pos hf] at kF krf
      refine e3 ?_
      conv => whnf
      refine CallsF.call [] [] kf rfl rfl rfl rfl rfl (.inl rfl) ?_
      conv => whnf
      rw [show decide (((bs.length : Nat) : Int) > 3000) = false from decide_eq_false (by omega)]
      conv => whnf
      refine CallsF.call [] [] k1 rfl rfl rfl rfl rfl (.inl rfl) ?_
      conv => whnf
      refine CallsF.call [] [] kc rfl rfl rfl rfl rfl (.inl rfl) ?_
      conv => whnf
      refine CallsF.call [] [] kF rfl rfl rfl rfl rfl (.inl rfl) ?_
      conv => whnf
      refine CallsF.call [] [] kr rfl rfl rfl rfl rfl (.inl rfl) ?_
      conv => whnf
      refine CallsF.call [] [] krf rfl rfl rfl rfl rfl (.inl rfl) ?_
      conv => whnf
      rw [show (((C.length : Nat) : Int) != ((C.length : Nat) : Int)) = false by simp]
      conv => whnf
      rw [show (((ix : Nat) : Int) != ((ix : Nat) : Int)) = false by simp]
      conv => whnf
      refine LoopA.inv (fun m st => ∃ i : Nat, m + i = C.length ∧ st = ⟨[(7, .ro 3 C), (11, .ro 3 C), (89, iv (C.length : Nat)), (90, iv i)], [], 0, 0⟩) C.length [7, 11, 89, 90] [] [] (by rfl) ?_ ?_
      · conv => whnf
        exact ⟨0, rfl, rfl⟩
      rintro m st ⟨i, hm, rfl⟩
      by_cases h1 : i < C.length
      · obtain ⟨x, hx⟩ := hrow i h1
        conv => whnf
        refine ifB_of (fun _ => ?_) (fun h => ((of_decide_eq_false h) (by omega)).elim)
        conv => whnf
        rw [aop_idxS_ro hx rfl rfl]
        conv => whnf
        rw [aop_idxS_ro hx rfl rfl]
        conv => whnf
        rw [beq_self_eq_true x.1, beq_self_eq_true (x.2.1 : Int), beq_self_eq_true (x.2.2 : Int)]
        conv => whnf
        rw [inc_nat i (by omega)]
        refine ⟨(m - 1), [7, 11, 89, 90], [], [], by omega, rfl, ?_⟩
        conv => whnf
        exact ⟨i + 1, by omega, rfl⟩
      · conv => whnf
        refine ifB_of (fun h => absurd (of_decide_eq_true h) (by omega)) (fun _ => ?_)
        conv => whnf
        exact ⟨[], [], rfl, rfl, rfl⟩
    · rw [if_neg hf] at kF krf
      refine e3 ?_
      conv => whnf
      refine CallsF.call [] [] kf rfl rfl rfl rfl rfl (.inl rfl) ?_
      conv => whnf
      rw [show decide (((bs.length : Nat) : Int) > 3000) = false from decide_eq_false (by omega)]
      conv => whnf
      refine CallsF.call [] [] k1 rfl rfl rfl rfl rfl (.inl rfl) ?_
      conv => whnf
      refine CallsF.call [] [] kc rfl rfl rfl rfl rfl (.inl rfl) ?_
      conv => whnf
      refine CallsF.call [] [] kF rfl rfl rfl rfl rfl (.inl rfl) ?_
      conv => whnf
      refine CallsF.call [] [] kr rfl rfl rfl rfl rfl (.inl rfl) ?_
      conv => whnf
      refine CallsF.call [] [] krf rfl rfl rfl rfl rfl (.inl rfl) ?_
      conv => whnf
      rw [show (((C.length : Nat) : Int) != ((C.length : Nat) : Int)) = false by simp]
      conv => whnf
      refine LoopA.inv (fun m st => ∃ i : Nat, m + i = C.length ∧ st = ⟨[(7, .ro 3 C), (11, .ro 3 C), (89, iv (C.length : Nat)), (90, iv i)], [], 0, 0⟩) C.length [7, 11, 89, 90] [] [] (by rfl) ?_ ?_
      · conv => whnf
        exact ⟨0, rfl, rfl⟩
      rintro m st ⟨i, hm, rfl⟩
      by_cases h1 : i < C.length
      · obtain ⟨x, hx⟩ := hrow i h1
        conv => whnf
        refine ifB_of (fun _ => ?_) (fun h => ((of_decide_eq_false h) (by omega)).elim)
        conv => whnf
        rw [aop_idxS_ro hx rfl rfl]
        conv => whnf
        rw [aop_idxS_ro hx rfl rfl]
        conv => whnf
        rw [beq_self_eq_true x.1, beq_self_eq_true (x.2.1 : Int), beq_self_eq_true (x.2.2 : Int)]
        conv => whnf
        rw [inc_nat i (by omega)]
        refine ⟨(m - 1), [7, 11, 89, 90], [], [], by omega, rfl, ?_⟩
        conv => whnf
        exact ⟨i + 1, by omega, rfl⟩
      · conv => whnf
        refine ifB_of (fun h => absurd (of_decide_eq_true h) (by omega)) (fun _ => ?_)
        conv => whnf
        exact ⟨[], [], rfl, rfl, rfl⟩
  · have kc := census_spec bs h h3
    rw [if_neg he] at kc kF
    generalize splitE bs = e at *
    refine e3 ?_
    conv => whnf
    refine CallsF.call [] [] kf rfl rfl rfl rfl rfl (.inl rfl) ?_
    conv => whnf
    rw [show decide (((bs.length : Nat) : Int) > 3000) = false from decide_eq_false (by omega)]
    conv => whnf
    refine CallsF.call [] [] k1 rfl rfl rfl rfl rfl (.inl rfl) ?_
    conv => whnf
    refine CallsF.call [] [] kc rfl rfl rfl rfl rfl (.inl rfl) ?_
    conv => whnf
    refine CallsF.call [] [] kF rfl rfl rfl rfl rfl (.inl rfl) ?_
    conv => whnf
    rw [show (e != 0) = true by simp [he]]
    conv => whnf
    rw [beq_self_eq_true e]
    conv => whnf
    rw [beq_self_eq_true e]
    conv => whnf
    exact ⟨[], [], rfl, rfl, rfl⟩


end Go.Proofs.TryN

