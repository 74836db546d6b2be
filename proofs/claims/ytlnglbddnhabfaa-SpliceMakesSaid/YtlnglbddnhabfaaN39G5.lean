/- Layer 39: a stream whose video is told again: the walk. -/
import Derived.Test.YtlnglbddnhabfaaN39G4
namespace Go.Proofs.TryN
open Go Go.AL Go.Proofs

/-! Layer 39: a stream whose video is told again: the walk. -/

/-- Units, with the first one once more behind some pictures. -/
def againL (x0 : Int × List Int) (ev : Nat) : List (Int × List Int) → Nat → List (Int × List Int)
  | [], _ => []
  | x :: r, left => if isP x.1 = true then (if left = 1 then x :: x0 :: againL x0 ev r ev else x :: againL x0 ev r (left - 1)) else x :: againL x0 ev r left
theorem againL_cons (x0 : Int × List Int) (ev : Nat) (x : Int × List Int) (r : List (Int × List Int)) (left : Nat) :
    againL x0 ev (x :: r) left = if isP x.1 = true then (if left = 1 then x :: x0 :: againL x0 ev r ev else x :: againL x0 ev r (left - 1)) else x :: againL x0 ev r left := rfl

theorem againL_len (x0 : Int × List Int) (ev : Nat) : ∀ (L : List (Int × List Int)) (n : Nat), (againL x0 ev L n).length ≤ 2 * L.length ∧ ∀ x ∈ againL x0 ev L n, x = x0 ∨ x ∈ L
  | [], n => ⟨Nat.le_refl _, by simp [againL]⟩
  | x :: r, n => by
    have key : ∀ m, (x :: againL x0 ev r m).length ≤ 2 * (x :: r).length ∧ ∀ y ∈ x :: againL x0 ev r m, y = x0 ∨ y ∈ x :: r := fun m => by
      obtain ⟨h1, h2⟩ := againL_len x0 ev r m
      refine ⟨by simp only [List.length_cons]; omega, fun y hy => ?_⟩
      rcases List.mem_cons.1 hy with rfl | hy
      · exact .inr List.mem_cons_self
      · exact (h2 y hy).imp id (List.mem_cons_of_mem _)
    rw [againL_cons]
    split
    · split
      · obtain ⟨h1, h2⟩ := againL_len x0 ev r ev
        refine ⟨by simp only [List.length_cons]; omega, fun y hy => ?_⟩
        rcases List.mem_cons.1 hy with rfl | hy
        · exact .inr List.mem_cons_self
        rcases List.mem_cons.1 hy with rfl | hy
        · exact .inl rfl
        · exact (h2 y hy).imp id (List.mem_cons_of_mem _)
      · exact key _
    · exact key _

/-- How often a video is told again. -/
def evN (n : Int) : Nat := (max n 1).toNat

/-- A stream's units, with the first one again; nothing where there is none. -/
def againU (L : List (Int × List Int)) (n : Int) : List (Int × List Int) := match L with | [] => [] | x0 :: _ => againL x0 (evN n) L (evN n)

theorem okL_again {bs : List Int} (h : okB bs) (h3 : bs.length ≤ 3000) (n : Int) : okL (againU (sU bs) n) := by
  obtain ⟨h1, h2⟩ := sU_ok h h3
  unfold againU
  cases hs : sU bs with
  | nil => exact ⟨by simp, by simp⟩
  | cons x0 r =>
    rw [hs] at h1 h2
    obtain ⟨h4, h5⟩ := againL_len x0 (evN n) (x0 :: r) (evN n)
    refine ⟨fun x hx => ?_, by show (againL x0 (evN n) (x0 :: r) (evN n)).length ≤ 1000; omega⟩
    rcases h5 x hx with rfl | hx
    · exact h1 _ List.mem_cons_self
    · exact h1 _ hx

theorem rem_nat (a b : Nat) (_h : 0 < b) : ((a : Int)).tmod (b : Int) = ((a % b : Nat) : Int) := by
  rw [Int.tmod_eq_emod_of_nonneg (by omega)]; omega

theorem left_eq {ev n : Nat} (h : 0 < ev) : (ev - n % ev = 1 ↔ (n + 1) % ev = 0) ∧ ((n + 1) % ev = 0 → ev - (n + 1) % ev = ev) ∧ ((n + 1) % ev ≠ 0 → ev - n % ev - 1 = ev - (n + 1) % ev) := by
  have h1 := Nat.mod_lt n h
  have h2 : (n + 1) % ev = if n % ev + 1 = ev then 0 else n % ev + 1 := by
    rw [Nat.add_mod]
    by_cases he : ev = 1
    · subst he; simp [Nat.mod_one]
    · rw [Nat.mod_eq_of_lt (show 1 < ev by omega)]
      split
      · rename_i h3; rw [h3, Nat.mod_self]
      · exact Nat.mod_eq_of_lt (by omega)
  refine ⟨?_, ?_, ?_⟩
  · rw [h2]; split <;> omega
  · intro h3; rw [h3]; omega
  · rw [h2]; split <;> omega

theorem againU_eq (L : List (Int × List Int)) (n : Int) : ∃ x0, (∀ h : 0 < L.length, L[0] = x0) ∧ againU L n = againL x0 (evN n) L (evN n) := by
  cases L with
  | nil => exact ⟨(0, []), fun h => absurd h (Nat.lt_irrefl 0), rfl⟩
  | cons x r => exact ⟨x, fun _ => rfl, rfl⟩

set_option maxRecDepth 10000 in
set_option maxHeartbeats 2000000 in
theorem ragain_spec (L : List (Int × List Int)) (hL : L.length < 1000000) (n : Int) (hn : n ≤ 300) : CallsF Try.prog 19 [.ro 2 (L.map uRow), iv n] [] (unitsV (againU L n)) [] := by
  obtain ⟨x0, hx0, hU⟩ := againU_eq L n
  obtain ⟨rows, hr⟩ : ∃ rows, L.map uRow = rows := ⟨_, rfl⟩
  have hrl : rows.length = L.length := by rw [← hr, List.length_map]
  have hev : 1 ≤ evN n ∧ evN n ≤ 300 := by unfold evN; omega
  have ee : (if n > 1 then n else 1) = (evN n : Int) := by unfold evN; split <;> omega
  rw [hr]
  generalize againU L n = U at *
  generalize evN n = ev at *
  refine e19 ?_
  conv => whnf
  refine LoopA.inv (fun m st => ∃ (i q : Nat) (A : List (Int × List Int)), m + i = L.length ∧ 1 ≤ q ∧ q ≤ 300 ∧ A.length ≤ 2 * i ∧ U = A ++ againL x0 ev (L.drop i) q ∧ st = ⟨[(0, .ro 2 rows), (1, iv n), (5, accV (A.map uRow)), (6, iv q), (11, .ro 2 rows), (12, iv (rows.length : Nat)), (13, iv i)], accH 2 (A.map uRow), (accH 2 (A.map uRow)).length, 0⟩) L.length [0, 1, 5, 6, 11, 12, 13] [] [] (by rfl) ?_ ?_
  · conv => whnf
    exact ⟨0, ev, [], rfl, hev.1, hev.2, Nat.le_refl _, hU, by rw [← ee]; rfl⟩
  rintro m st ⟨i, q, A, hm, hq1, hq2, hAl, hf, rfl⟩
  obtain ⟨acc, hacc⟩ : ∃ acc, A.map uRow = acc := ⟨_, rfl⟩
  rw [hacc]
  have hal : acc.length ≤ 2 * i := by rw [← hacc, List.length_map]; exact hAl
  by_cases h1 : i < L.length
  · have hrow := uRow_at hr h1
    have hrow0 := uRow_at hr (show 0 < L.length by omega)
    rw [hx0 (by omega)] at hrow0
    have hd : L.drop i = L[i] :: L.drop (i + 1) := List.drop_eq_getElem_cons h1
    have kp := rpicture_spec L[i]
    rw [hd, againL_cons] at hf
    obtain ⟨c, d, hcd⟩ : ∃ c d, L[i] = (c, d) := ⟨_, _, rfl⟩
    obtain ⟨c0, d0, hcd0⟩ : ∃ c d, x0 = (c, d) := ⟨_, _, rfl⟩
    rw [hcd] at hrow hf kp
    have hrow : nth rows (i : Int).toNat = some [iv c, .ri .u8 d] := hrow
    have hrow0 : nth rows (0 : Int).toNat = some [iv c0, .ri .u8 d0] := by rw [hcd0] at hrow0; exact hrow0
    have kp : CallsF Try.prog 32 [.agg [iv c, .ri .u8 d]] [] (.bool (isP c)) [] := kp
    have hf : U = A ++ if isP c = true then (if q = 1 then (c, d) :: x0 :: againL x0 ev (L.drop (i + 1)) ev else (c, d) :: againL x0 ev (L.drop (i + 1)) (q - 1)) else (c, d) :: againL x0 ev (L.drop (i + 1)) q := hf
    have hst1 : ∀ (q' : Nat) (st : St), st = ⟨[(0, .ro 2 rows), (1, iv n), (5, .sl 0 0 (acc.length + 1)), (6, iv q'), (11, .ro 2 rows), (12, iv (rows.length : Nat)), (13, iv (i + 1 : Nat))], [some (.arr 2 (acc ++ [[iv c, .ri .u8 d]]))], 1, 0⟩ →
        st = ⟨[(0, .ro 2 rows), (1, iv n), (5, accV ((A ++ [(c, d)]).map uRow)), (6, iv q'), (11, .ro 2 rows), (12, iv (rows.length : Nat)), (13, iv (i + 1 : Nat))], accH 2 ((A ++ [(c, d)]).map uRow), (accH 2 ((A ++ [(c, d)]).map uRow)).length, 0⟩ := by
      intro q' st h
      rw [h, uRow_snoc, hacc, accV_snoc, accH_snoc]; rfl
    have hst2 : ∀ (q' : Nat) (st : St), st = ⟨[(0, .ro 2 rows), (1, iv n), (5, .sl 0 0 (acc.length + 2)), (6, iv q'), (11, .ro 2 rows), (12, iv (rows.length : Nat)), (13, iv (i + 1 : Nat))], [some (.arr 2 (acc ++ [[iv c, .ri .u8 d], [iv c0, .ri .u8 d0]]))], 1, 0⟩ →
        st = ⟨[(0, .ro 2 rows), (1, iv n), (5, accV ((A ++ [(c, d), x0]).map uRow)), (6, iv q'), (11, .ro 2 rows), (12, iv (rows.length : Nat)), (13, iv (i + 1 : Nat))], accH 2 ((A ++ [(c, d), x0]).map uRow), (accH 2 ((A ++ [(c, d), x0]).map uRow)).length, 0⟩ := by
      intro q' st h
      rw [h, List.map_append, hacc, accV_app acc (by simp), accH_app 2 acc (by simp), hcd0]; rfl
    have hsn : ∀ R : List (Int × List Int), A ++ (c, d) :: R = (A ++ [(c, d)]) ++ R := fun R => by rw [List.append_assoc]; rfl
    have hsn2 : ∀ R : List (Int × List Int), A ++ (c, d) :: x0 :: R = (A ++ [(c, d), x0]) ++ R := fun R => by rw [List.append_assoc]; rfl
    have hq : IntKind.wrap .i64 ((q : Int) - 1) = ((q - 1 : Nat) : Int) := by rw [wrap_id (by omega) (by omega)]; omega
    by_cases hne : acc = []
    · subst hne
      conv => whnf
      refine ifB_of (fun _ => ?_) (fun h => ((of_decide_eq_false h) (by omega)).elim)
      conv => whnf
      rw [aop_idxS_ro hrow rfl rfl]
      conv => whnf
      cases hp : isP c with
      | false =>
        rw [hp] at kp hf
        rw [if_neg (by decide), hsn] at hf
        refine CallsF.call [] [] kp rfl rfl rfl rfl rfl (.inl rfl) ?_
        conv => whnf
        rw [inc_nat i (by omega)]
        refine ⟨(m - 1), [0, 1, 5, 6, 11, 12, 13], [2], [], by omega, rfl, ?_⟩
        conv => whnf
        exact ⟨i + 1, q, A ++ [(c, d)], by omega, by omega, by omega, by simp; omega, hf, hst1 _ _ rfl⟩
      | true =>
        rw [hp] at kp hf
        rw [if_pos rfl] at hf
        refine CallsF.call [] [] kp rfl rfl rfl rfl rfl (.inl rfl) ?_
        conv => whnf
        rw [hq]
        by_cases h2 : q = 1
        · rw [if_pos h2, hsn2] at hf
          rw [show (((q - 1 : Nat) : Int) == 0) = true by rw [h2]; rfl]
          conv => whnf
          rw [aop_idxS_ro hrow0 rfl rfl]
          conv => whnf
          rw [inc_nat i (by omega), ee]
          refine ⟨(m - 1), [0, 1, 5, 6, 11, 12, 13], [4], [], by omega, rfl, ?_⟩
          conv => whnf
          exact ⟨i + 1, ev, A ++ [(c, d), x0], by omega, by omega, by omega, by simp; omega, hf, hst2 _ _ (rfl)⟩
        · rw [if_neg h2, hsn] at hf
          rw [show (((q - 1 : Nat) : Int) == 0) = false from beq_eq_false_iff_ne.2 (by omega)]
          conv => whnf
          rw [inc_nat i (by omega)]
          refine ⟨(m - 1), [0, 1, 5, 6, 11, 12, 13], [2], [], by omega, rfl, ?_⟩
          conv => whnf
          exact ⟨i + 1, q - 1, A ++ [(c, d)], by omega, by omega, by omega, by simp; omega, hf, hst1 _ _ rfl⟩
    · rw [accV_cons hne, accH_cons 2 hne]
      conv => whnf
      refine ifB_of (fun _ => ?_) (fun h => ((of_decide_eq_false h) (by omega)).elim)
      conv => whnf
      rw [aop_idxS_ro hrow rfl rfl]
      conv => whnf
      refine need_of ((by rw [Bool.and_eq_true, decide_eq_true_iff]; exact ⟨⟨by omega, (show 33 * (acc.length + 1) ≤ 2 ^ 46 by omega)⟩, rfl⟩)) ?_
      conv => whnf
      cases hp : isP c with
      | false =>
        rw [hp] at kp hf
        rw [if_neg (by decide), hsn] at hf
        refine CallsF.call [] [] kp rfl rfl rfl rfl rfl (.inl rfl) ?_
        conv => whnf
        rw [inc_nat i (by omega)]
        refine ⟨(m - 1), [0, 1, 5, 6, 11, 12, 13], [3], [], by omega, rfl, ?_⟩
        conv => whnf
        exact ⟨i + 1, q, A ++ [(c, d)], by omega, by omega, by omega, by simp; omega, hf, hst1 _ _ rfl⟩
      | true =>
        rw [hp] at kp hf
        rw [if_pos rfl] at hf
        refine CallsF.call [] [] kp rfl rfl rfl rfl rfl (.inl rfl) ?_
        conv => whnf
        rw [hq]
        by_cases h2 : q = 1
        · rw [if_pos h2, hsn2] at hf
          rw [show (((q - 1 : Nat) : Int) == 0) = true by rw [h2]; rfl]
          conv => whnf
          rw [aop_idxS_ro hrow0 rfl rfl]
          conv => whnf
          refine need_of ((by rw [Bool.and_eq_true, decide_eq_true_iff]; exact ⟨⟨by simp, (show 33 * (acc.length + 1 + 1) ≤ 2 ^ 46 by omega)⟩, rfl⟩)) ?_
          conv => whnf
          rw [inc_nat i (by omega), ee]
          refine ⟨(m - 1), [0, 1, 5, 6, 11, 12, 13], [5], [], by omega, rfl, ?_⟩
          conv => whnf
          exact ⟨i + 1, ev, A ++ [(c, d), x0], by omega, by omega, by omega, by simp; omega, hf, hst2 _ _ (by
            show (St.mk [(0, .ro 2 rows), (1, iv n), (5, .sl 0 0 (acc.length + 1 + 1)), (6, iv ev), (11, .ro 2 rows), (12, iv (rows.length : Nat)), (13, iv (i + 1 : Nat))] [some (.arr 2 ((acc.drop 0 ++ [[iv c, .ri .u8 d]]).drop 0 ++ [[iv c0, .ri .u8 d0]]))] 1 0) = _
            simp)⟩
        · rw [if_neg h2, hsn] at hf
          rw [show (((q - 1 : Nat) : Int) == 0) = false from beq_eq_false_iff_ne.2 (by omega)]
          conv => whnf
          rw [inc_nat i (by omega)]
          refine ⟨(m - 1), [0, 1, 5, 6, 11, 12, 13], [3], [], by omega, rfl, ?_⟩
          conv => whnf
          exact ⟨i + 1, q - 1, A ++ [(c, d)], by omega, by omega, by omega, by simp; omega, hf, hst1 _ _ rfl⟩
  · have hie : i = L.length := by omega
    subst hie
    rw [List.drop_length] at hf
    rw [show againL x0 ev [] q = [] from rfl, List.append_nil] at hf
    rw [hf]
    by_cases hne : acc = []
    · subst hne
      rw [unitsV_nil hacc]
      conv => whnf
      refine ifB_of (fun h => absurd (of_decide_eq_true h) (by omega)) (fun _ => ?_)
      conv => whnf
      exact ⟨[], [], rfl, rfl, rfl⟩
    · rw [accV_cons hne, accH_cons 2 hne, ← unitsV_rows hacc hne]
      conv => whnf
      refine ifB_of (fun h => absurd (of_decide_eq_true h) (by omega)) (fun _ => ?_)
      conv => whnf
      exact ⟨[], [0], rfl, rfl, rfl⟩


/-! Layer 39: a stream whose video is told again, by the program: the walk. -/

/-- Is the first unit a video's? -/
def vidB (L : List (Int × List Int)) : Bool := match L with | [] => false | x :: _ => x.1 == 0

def againV (e : Int) (L : List (Int × List Int)) (n : Int) : AV := if e ≠ 0 then .tup [.snil, iv e] else if vidB L = true then .tup [.ri .u8 (joinL 0 (againU L n)), iv 0] else .tup [.snil, iv 272]

set_option maxRecDepth 10000 in
set_option maxHeartbeats 2000000 in
theorem again_spec (bs : List Int) (h : okB bs) (h3 : bs.length ≤ 3000) (n : Int) (hn : n ≤ 300) : CallsF Try.prog 18 [.ri .u8 bs, iv n] [] (againV (splitE bs) (sU bs) n) [] := by
  have ks := split_spec bs h (by omega)
  obtain ⟨h1', hl⟩ := sU_ok h h3
  have kj := joinU (okL_again h h3 n)
  change CallsF _ _ _ _ (.tup [unitsV (sU bs), iv (splitE bs)]) [] at ks
  unfold againV
  generalize splitE bs = e at *
  generalize sU bs = L at *
  by_cases he : e = 0
  case neg =>
    rw [if_pos he]
    rcases unitsV_two L with hu | hu <;> rw [hu] at ks
    all_goals
      refine e18 ?_
      conv => whnf
      refine CallsF.call [] [] ks rfl rfl rfl rfl rfl (.inl rfl) ?_
      conv => whnf
      rw [show (e != 0) = true by simp [he]]
      conv => whnf
      exact ⟨[], [], rfl, rfl, rfl⟩
  subst he
  rw [if_neg (by decide)]
  cases L with
  | nil =>
    rw [if_neg (by decide)]
    have ks : CallsF Try.prog 23 [.ri .u8 bs] [] (.tup [.snil, iv 0]) [] := ks
    refine e18 ?_
    conv => whnf
    refine CallsF.call [] [] ks rfl rfl rfl rfl rfl (.inl rfl) ?_
    conv => whnf
    exact ⟨[], [], rfl, rfl, rfl⟩
  | cons x0 r =>
    have hU : againU (x0 :: r) n = againL x0 (evN n) (x0 :: r) (evN n) := rfl
    have hv : vidB (x0 :: r) = (x0.1 == 0) := rfl
    have ks : CallsF Try.prog 23 [.ri .u8 bs] [] (.tup [.ro 2 ((x0 :: r).map uRow), iv 0]) [] := ks
    have hx0 : ∀ h : 0 < (x0 :: r).length, (x0 :: r)[0] = x0 := fun _ => rfl
    have hpos : 0 < (x0 :: r).length := by simp
    rw [hv]
    obtain ⟨L, hL⟩ : ∃ L, x0 :: r = L := ⟨_, rfl⟩
    simp only [hL] at hx0 hU hpos hl kj ks h1' ⊢
    obtain ⟨rows, hr⟩ : ∃ rows, L.map uRow = rows := ⟨_, rfl⟩
    have hrl : rows.length = L.length := by rw [← hr, List.length_map]
    have hrow0 := uRow_at hr hpos
    rw [hx0 hpos] at hrow0
    obtain ⟨c0, d0, hcd0⟩ : ∃ c d, x0 = (c, d) := ⟨_, _, rfl⟩
    have hrow0 : nth rows (0 : Int).toNat = some [iv c0, .ri .u8 d0] := by rw [hcd0] at hrow0; exact hrow0
    have hev : 1 ≤ evN n ∧ evN n ≤ 300 := by unfold evN; omega
    have ee : (if 1 > n then 1 else n) = (evN n : Int) := by unfold evN; split <;> omega
    rw [hr] at ks
    rw [show x0.1 = c0 by rw [hcd0]]
    generalize againU L n = U at *
    generalize evN n = ev at *
    have hl0 : (((rows.length : Nat) : Int) == 0) = false := beq_eq_false_iff_ne.2 (by omega)
    by_cases hc0 : c0 = 0
    case neg =>
      rw [show (c0 == 0) = false by simp [hc0], if_neg (by decide)]
      refine e18 ?_
      conv => whnf
      refine CallsF.call [] [] ks rfl rfl rfl rfl rfl (.inl rfl) ?_
      conv => whnf
      rw [hl0]
      conv => whnf
      rw [aop_idxS_ro hrow0 rfl rfl]
      conv => whnf
      rw [show (c0 != 0) = true by simp [hc0]]
      conv => whnf
      exact ⟨[], [], rfl, rfl, rfl⟩
    rw [show (c0 == 0) = true by simp [hc0], if_pos rfl]
    refine e18 ?_
    conv => whnf
    refine CallsF.call [] [] ks rfl rfl rfl rfl rfl (.inl rfl) ?_
    conv => whnf
    rw [hl0]
    conv => whnf
    rw [aop_idxS_ro hrow0 rfl rfl]
    conv => whnf
    rw [show (c0 != 0) = false by simp [hc0]]
    conv => whnf
    refine LoopA.inv (fun m st => ∃ (i k : Nat) (A : List (Int × List Int)), m + i = L.length ∧ k ≤ i ∧ A.length ≤ 2 * i ∧ U = A ++ againL x0 ev (L.drop i) (ev - k % ev) ∧ st = ⟨[(1, iv ev), (6, .ro 2 rows), (8, iv k), (9, accV (A.map uRow)), (34, .ro 2 rows), (35, iv (rows.length : Nat)), (36, iv i)], accH 2 (A.map uRow), (accH 2 (A.map uRow)).length, 0⟩) L.length [1, 6, 8, 9, 34, 35, 36] [] [] (by rfl) ?_ ?_
    · conv => whnf
      exact ⟨0, 0, [], rfl, Nat.le_refl _, Nat.le_refl _, hU, by rw [← ee]; rfl⟩
    rintro m st ⟨i, k, A, hm, hki, hAl, hf, rfl⟩
    obtain ⟨acc, hacc⟩ : ∃ acc, A.map uRow = acc := ⟨_, rfl⟩
    rw [hacc]
    have hal : acc.length ≤ 2 * i := by rw [← hacc, List.length_map]; exact hAl
    obtain ⟨g1, g2, g3⟩ := left_eq (ev := ev) (n := k) (by omega)
    by_cases h1 : i < L.length
    · have hrow := uRow_at hr h1
      have hd : L.drop i = L[i] :: L.drop (i + 1) := List.drop_eq_getElem_cons h1
      have kp := picture_spec L[i] (knownB_in (h1' _ (List.getElem_mem h1)).1)
      rw [hd, againL_cons] at hf
      obtain ⟨c, d, hcd⟩ : ∃ c d, L[i] = (c, d) := ⟨_, _, rfl⟩
      rw [hcd] at hrow hf kp
      have hrow : nth rows (i : Int).toNat = some [iv c, .ri .u8 d] := hrow
      have kp : CallsF Try.prog 31 [.agg [iv c, .ri .u8 d]] [] (.bool (isP c)) [] := kp
      have hf : U = A ++ if isP c = true then (if ev - k % ev = 1 then (c, d) :: x0 :: againL x0 ev (L.drop (i + 1)) ev else (c, d) :: againL x0 ev (L.drop (i + 1)) (ev - k % ev - 1)) else (c, d) :: againL x0 ev (L.drop (i + 1)) (ev - k % ev) := hf
      have hst1 : ∀ (q' : Nat) (st : St), st = ⟨[(1, iv ev), (6, .ro 2 rows), (8, iv q'), (9, .sl 0 0 (acc.length + 1)), (34, .ro 2 rows), (35, iv (rows.length : Nat)), (36, iv (i + 1 : Nat))], [some (.arr 2 (acc ++ [[iv c, .ri .u8 d]]))], 1, 0⟩ →
          st = ⟨[(1, iv ev), (6, .ro 2 rows), (8, iv q'), (9, accV ((A ++ [(c, d)]).map uRow)), (34, .ro 2 rows), (35, iv (rows.length : Nat)), (36, iv (i + 1 : Nat))], accH 2 ((A ++ [(c, d)]).map uRow), (accH 2 ((A ++ [(c, d)]).map uRow)).length, 0⟩ := by
        intro q' st h
        rw [h, uRow_snoc, hacc, accV_snoc, accH_snoc]; rfl
      have hst2 : ∀ (q' : Nat) (st : St), st = ⟨[(1, iv ev), (6, .ro 2 rows), (8, iv q'), (9, .sl 0 0 (acc.length + 2)), (34, .ro 2 rows), (35, iv (rows.length : Nat)), (36, iv (i + 1 : Nat))], [some (.arr 2 (acc ++ [[iv c, .ri .u8 d], [iv c0, .ri .u8 d0]]))], 1, 0⟩ →
          st = ⟨[(1, iv ev), (6, .ro 2 rows), (8, iv q'), (9, accV ((A ++ [(c, d), x0]).map uRow)), (34, .ro 2 rows), (35, iv (rows.length : Nat)), (36, iv (i + 1 : Nat))], accH 2 ((A ++ [(c, d), x0]).map uRow), (accH 2 ((A ++ [(c, d), x0]).map uRow)).length, 0⟩ := by
        intro q' st h
        rw [h, List.map_append, hacc, accV_app acc (by simp), accH_app 2 acc (by simp), hcd0]; rfl
      have hsn : ∀ R : List (Int × List Int), A ++ (c, d) :: R = (A ++ [(c, d)]) ++ R := fun R => by rw [List.append_assoc]; rfl
      have hsn2 : ∀ R : List (Int × List Int), A ++ (c, d) :: x0 :: R = (A ++ [(c, d), x0]) ++ R := fun R => by rw [List.append_assoc]; rfl
      by_cases hne : acc = []
      · subst hne
        conv => whnf
        refine ifB_of (fun _ => ?_) (fun h => ((of_decide_eq_false h) (by omega)).elim)
        conv => whnf
        rw [aop_idxS_ro hrow rfl rfl]
        conv => whnf
        cases hp : isP c with
        | false =>
          rw [hp] at kp hf
          rw [if_neg (by decide), hsn] at hf
          refine CallsF.call [] [] kp rfl rfl rfl rfl rfl (.inl rfl) ?_
          conv => whnf
          rw [inc_nat i (by omega)]
          refine ⟨(m - 1), [1, 6, 8, 9, 34, 35, 36], [2], [], by omega, rfl, ?_⟩
          conv => whnf
          exact ⟨i + 1, k, A ++ [(c, d)], by omega, by omega, by simp; omega, hf, hst1 _ _ rfl⟩
        | true =>
          rw [hp] at kp hf
          rw [if_pos rfl] at hf
          refine CallsF.call [] [] kp rfl rfl rfl rfl rfl (.inl rfl) ?_
          conv => whnf
          rw [inc_nat k (by omega)]
          refine need_of ((decide_eq_true (by omega))) ?_
          conv => whnf
          rw [rem_nat (k + 1) ev (by omega)]
          by_cases h2 : (k + 1) % ev = 0
          · rw [if_pos (g1.2 h2), hsn2] at hf
            rw [h2, show (((0 : Nat) : Int) == 0) = true from rfl]
            conv => whnf
            rw [aop_idxS_ro hrow0 rfl rfl]
            conv => whnf
            rw [inc_nat i (by omega)]
            refine ⟨(m - 1), [1, 6, 8, 9, 34, 35, 36], [4], [], by omega, rfl, ?_⟩
            conv => whnf
            exact ⟨i + 1, k + 1, A ++ [(c, d), x0], by omega, by omega, by simp; omega, by rw [g2 h2]; exact hf, hst2 _ _ (rfl)⟩
          · rw [if_neg (fun h => h2 (g1.1 h)), hsn] at hf
            rw [show (((((k + 1) % ev : Nat) : Int)) == 0) = false from beq_eq_false_iff_ne.2 (by omega)]
            conv => whnf
            rw [inc_nat i (by omega)]
            refine ⟨(m - 1), [1, 6, 8, 9, 34, 35, 36], [2], [], by omega, rfl, ?_⟩
            conv => whnf
            exact ⟨i + 1, k + 1, A ++ [(c, d)], by omega, by omega, by simp; omega, by rw [← g3 h2]; exact hf, hst1 _ _ rfl⟩
      · rw [accV_cons hne, accH_cons 2 hne]
        conv => whnf
        refine ifB_of (fun _ => ?_) (fun h => ((of_decide_eq_false h) (by omega)).elim)
        conv => whnf
        rw [aop_idxS_ro hrow rfl rfl]
        conv => whnf
        refine need_of ((by rw [Bool.and_eq_true, decide_eq_true_iff]; exact ⟨⟨by omega, (show 33 * (acc.length + 1) ≤ 2 ^ 46 by omega)⟩, rfl⟩)) ?_
        conv => whnf
        cases hp : isP c with
        | false =>
          rw [hp] at kp hf
          rw [if_neg (by decide), hsn] at hf
          refine CallsF.call [] [] kp rfl rfl rfl rfl rfl (.inl rfl) ?_
          conv => whnf
          rw [inc_nat i (by omega)]
          refine ⟨(m - 1), [1, 6, 8, 9, 34, 35, 36], [3], [], by omega, rfl, ?_⟩
          conv => whnf
          exact ⟨i + 1, k, A ++ [(c, d)], by omega, by omega, by simp; omega, hf, hst1 _ _ rfl⟩
        | true =>
          rw [hp] at kp hf
          rw [if_pos rfl] at hf
          refine CallsF.call [] [] kp rfl rfl rfl rfl rfl (.inl rfl) ?_
          conv => whnf
          rw [inc_nat k (by omega)]
          refine need_of ((decide_eq_true (by omega))) ?_
          conv => whnf
          rw [rem_nat (k + 1) ev (by omega)]
          by_cases h2 : (k + 1) % ev = 0
          · rw [if_pos (g1.2 h2), hsn2] at hf
            rw [h2, show (((0 : Nat) : Int) == 0) = true from rfl]
            conv => whnf
            rw [aop_idxS_ro hrow0 rfl rfl]
            conv => whnf
            refine need_of ((by rw [Bool.and_eq_true, decide_eq_true_iff]; exact ⟨⟨by simp, (show 33 * (acc.length + 1 + 1) ≤ 2 ^ 46 by omega)⟩, rfl⟩)) ?_
            conv => whnf
            rw [inc_nat i (by omega)]
            refine ⟨(m - 1), [1, 6, 8, 9, 34, 35, 36], [5], [], by omega, rfl, ?_⟩
            conv => whnf
            exact ⟨i + 1, k + 1, A ++ [(c, d), x0], by omega, by omega, by simp; omega, by rw [g2 h2]; exact hf, hst2 _ _ (by
              show (St.mk [(1, iv ev), (6, .ro 2 rows), (8, iv (k + 1 : Nat)), (9, .sl 0 0 (acc.length + 1 + 1)), (34, .ro 2 rows), (35, iv (rows.length : Nat)), (36, iv (i + 1 : Nat))] [some (.arr 2 ((acc.drop 0 ++ [[iv c, .ri .u8 d]]).drop 0 ++ [[iv c0, .ri .u8 d0]]))] 1 0) = _
              simp)⟩
          · rw [if_neg (fun h => h2 (g1.1 h)), hsn] at hf
            rw [show (((((k + 1) % ev : Nat) : Int)) == 0) = false from beq_eq_false_iff_ne.2 (by omega)]
            conv => whnf
            rw [inc_nat i (by omega)]
            refine ⟨(m - 1), [1, 6, 8, 9, 34, 35, 36], [3], [], by omega, rfl, ?_⟩
            conv => whnf
            exact ⟨i + 1, k + 1, A ++ [(c, d)], by omega, by omega, by simp; omega, by rw [← g3 h2]; exact hf, hst1 _ _ rfl⟩
    · have hie : i = L.length := by omega
      subst hie
      rw [List.drop_length] at hf
      rw [show againL x0 ev [] (ev - k % ev) = [] from rfl, List.append_nil] at hf
      subst hf
      rw [hacc] at kj
      by_cases hne : acc = []
      · subst hne
        have kj : CallsF Try.prog 40 [.snil] [] (.tup [.ri .u8 (joinL 0 U), iv 0]) [] := CallsF.weak (LeL.cons (AV.le.snil_o 2) .nil) kj
        conv => whnf
        refine ifB_of (fun h => absurd (of_decide_eq_true h) (by omega)) (fun _ => ?_)
        conv => whnf
        refine CallsF.call [] [] kj rfl rfl rfl rfl rfl (.inl rfl) ?_
        conv => whnf
        exact ⟨[], [], rfl, rfl, rfl⟩
      · rw [accV_cons hne, accH_cons 2 hne]
        have et : (acc.drop 0).take acc.length = acc := by rw [List.drop_zero, List.take_length]
        rw [← et] at kj
        conv => whnf
        refine ifB_of (fun h => absurd (of_decide_eq_true h) (by omega)) (fun _ => ?_)
        conv => whnf
        refine CallsA.frz [0] ?_
        conv => whnf
        refine CallsF.call [] [] kj rfl rfl rfl rfl rfl (.inl rfl) ?_
        conv => whnf
        exact ⟨[], [], rfl, rfl, rfl⟩


/-! Layer 28: the bits of one video, by the document: the walk. -/

theorem lit0 : ({ data := #[48] } : ByteArray) = strOfNums [48] := by rfl
theorem lit1 : ({ data := #[49] } : ByteArray) = strOfNums [49] := by rfl
theorem litE : ({ data := #[] } : ByteArray) = strOfNums [] := by rfl

theorem bits1 : CallsF Try.prog 74 [.int .u64 1, iv 1] [] (.str (strOfNums [49])) [] := by
  refine e74 ?_
  conv => whnf
  refine LoopA.steps 2 [0, 1, 5, 6] [] [] (by rfl) ?_
  conv => whnf
  first | refine pt_of [0, 1, 5, 6] [] [] (by rfl) ?_ | refine ptw_of [0, 1, 5, 6] [] [] (by rfl) ?_
  conv => whnf
  exact ⟨[], [], rfl, rfl, rfl⟩
theorem bits2 : CallsF Try.prog 74 [.int .u64 2, iv 2] [] (.str (strOfNums [49, 48])) [] := by
  refine e74 ?_
  conv => whnf
  refine LoopA.steps 3 [0, 1, 5, 6] [] [] (by rfl) ?_
  conv => whnf
  first | refine pt_of [0, 1, 5, 6] [] [] (by rfl) ?_ | refine ptw_of [0, 1, 5, 6] [] [] (by rfl) ?_
  conv => whnf
  first | refine pt_of [0, 1, 5, 6] [] [] (by rfl) ?_ | refine ptw_of [0, 1, 5, 6] [] [] (by rfl) ?_
  conv => whnf
  exact ⟨[], [], rfl, rfl, rfl⟩
theorem bits3 : CallsF Try.prog 74 [.int .u64 3, iv 2] [] (.str (strOfNums [49, 49])) [] := by
  refine e74 ?_
  conv => whnf
  refine LoopA.steps 3 [0, 1, 5, 6] [] [] (by rfl) ?_
  conv => whnf
  first | refine pt_of [0, 1, 5, 6] [] [] (by rfl) ?_ | refine ptw_of [0, 1, 5, 6] [] [] (by rfl) ?_
  conv => whnf
  first | refine pt_of [0, 1, 5, 6] [] [] (by rfl) ?_ | refine ptw_of [0, 1, 5, 6] [] [] (by rfl) ?_
  conv => whnf
  exact ⟨[], [], rfl, rfl, rfl⟩

theorem code0 : CallsF Try.prog 64 [iv 0] [] (.str (strOfNums [49])) [] := by
  refine e64 ?_
  conv => whnf
  refine LoopA.steps 1 [0, 3, 4] [] [] (by rfl) ?_
  conv => whnf
  refine CallsF.call [] [] bits1 rfl rfl rfl rfl rfl (.inl rfl) ?_
  conv => whnf
  refine LoopA.steps 1 [5, 6, 7] [] [] (by rfl) ?_
  conv => whnf
  exact ⟨[], [], rfl, rfl, rfl⟩
theorem code1 : CallsF Try.prog 64 [iv 1] [] (.str (strOfNums [48, 48, 49])) [] := by
  refine e64 ?_
  conv => whnf
  refine LoopA.steps 2 [0, 3, 4] [] [] (by rfl) ?_
  conv => whnf
  first | refine pt_of [0, 3, 4] [] [] (by rfl) ?_ | refine ptw_of [0, 3, 4] [] [] (by rfl) ?_
  conv => whnf
  refine CallsF.call [] [] bits2 rfl rfl rfl rfl rfl (.inl rfl) ?_
  conv => whnf
  refine LoopA.steps 2 [5, 6, 7] [] [] (by rfl) ?_
  conv => whnf
  first | refine pt_of [5, 6, 7] [] [] (by rfl) ?_ | refine ptw_of [5, 6, 7] [] [] (by rfl) ?_
  conv => whnf
  exact ⟨[], [], rfl, rfl, rfl⟩
theorem code2 : CallsF Try.prog 64 [iv 2] [] (.str (strOfNums [48, 49, 49])) [] := by
  refine e64 ?_
  conv => whnf
  refine LoopA.steps 2 [0, 3, 4] [] [] (by rfl) ?_
  conv => whnf
  first | refine pt_of [0, 3, 4] [] [] (by rfl) ?_ | refine ptw_of [0, 3, 4] [] [] (by rfl) ?_
  conv => whnf
  refine CallsF.call [] [] bits3 rfl rfl rfl rfl rfl (.inl rfl) ?_
  conv => whnf
  refine LoopA.steps 2 [5, 6, 7] [] [] (by rfl) ?_
  conv => whnf
  first | refine pt_of [5, 6, 7] [] [] (by rfl) ?_ | refine ptw_of [5, 6, 7] [] [] (by rfl) ?_
  conv => whnf
  exact ⟨[], [], rfl, rfl, rfl⟩


def basesR : List (List AV) := [[iv 16, iv 16, iv 2, iv 8], [iv 32, iv 24, iv 2, iv 8], [iv 48, iv 32, iv 1, iv 8], [iv 64, iv 48, iv 1, iv 10], [iv 128, iv 96, iv 0, iv 16]]
theorem bases_spec : CallsF Try.prog 63 [] [] (.ro 4 basesR) [] := by
  refine e63 ?_
  conv => whnf
  exact ⟨[], [0], rfl, rfl, rfl⟩

theorem one_spec (b : Bool) : CallsF Try.prog 75 [.bool b] [] (iv (if b then 1 else 0)) [] := by
  refine e75 ?_
  conv => whnf
  cases b <;> exact ⟨[], [], rfl, rfl, rfl⟩

def vidR : AV := .agg [iv 2, iv 2, iv 0, iv 8]

theorem other0 : CallsF Try.prog 65 [vidR, iv 0] [] (iv 2) [] := by
  have k := bases_spec
  refine e65 ?_
  conv => whnf
  refine CallsF.call [] [] k rfl rfl rfl rfl rfl (.inl rfl) ?_
  conv => whnf
  refine CallsF.call [] [] (one_spec true) rfl rfl rfl rfl rfl (.inl rfl) ?_
  conv => whnf
  refine ⟨.inl ⟨_, rfl⟩, ?_⟩
  conv => whnf
  refine CallsF.call [] [] (one_spec true) rfl rfl rfl rfl rfl (.inl rfl) ?_
  conv => whnf
  refine ⟨.inl ⟨_, rfl⟩, ?_⟩
  conv => whnf
  refine CallsF.call [] [] (one_spec false) rfl rfl rfl rfl rfl (.inl rfl) ?_
  conv => whnf
  exact ⟨[], [], rfl, rfl, rfl⟩

theorem other1 : CallsF Try.prog 65 [vidR, iv 1] [] (iv 2) [] := by
  have k := bases_spec
  refine e65 ?_
  conv => whnf
  refine CallsF.call [] [] k rfl rfl rfl rfl rfl (.inl rfl) ?_
  conv => whnf
  refine CallsF.call [] [] (one_spec true) rfl rfl rfl rfl rfl (.inl rfl) ?_
  conv => whnf
  refine ⟨.inl ⟨_, rfl⟩, ?_⟩
  conv => whnf
  refine CallsF.call [] [] (one_spec true) rfl rfl rfl rfl rfl (.inl rfl) ?_
  conv => whnf
  refine ⟨.inl ⟨_, rfl⟩, ?_⟩
  conv => whnf
  refine CallsF.call [] [] (one_spec false) rfl rfl rfl rfl rfl (.inl rfl) ?_
  conv => whnf
  exact ⟨[], [], rfl, rfl, rfl⟩

theorem other2 : CallsF Try.prog 65 [vidR, iv 2] [] (iv 2) [] := by
  have k := bases_spec
  refine e65 ?_
  conv => whnf
  refine CallsF.call [] [] k rfl rfl rfl rfl rfl (.inl rfl) ?_
  conv => whnf
  refine CallsF.call [] [] (one_spec true) rfl rfl rfl rfl rfl (.inl rfl) ?_
  conv => whnf
  refine ⟨.inl ⟨_, rfl⟩, ?_⟩
  conv => whnf
  refine CallsF.call [] [] (one_spec true) rfl rfl rfl rfl rfl (.inl rfl) ?_
  conv => whnf
  refine ⟨.inl ⟨_, rfl⟩, ?_⟩
  conv => whnf
  refine CallsF.call [] [] (one_spec false) rfl rfl rfl rfl rfl (.inl rfl) ?_
  conv => whnf
  exact ⟨[], [], rfl, rfl, rfl⟩

theorem other3 : CallsF Try.prog 65 [vidR, iv 3] [] (iv 3) [] := by
  have k := bases_spec
  refine e65 ?_
  conv => whnf
  refine CallsF.call [] [] k rfl rfl rfl rfl rfl (.inl rfl) ?_
  conv => whnf
  refine CallsF.call [] [] (one_spec true) rfl rfl rfl rfl rfl (.inl rfl) ?_
  conv => whnf
  refine ⟨.inl ⟨_, rfl⟩, ?_⟩
  conv => whnf
  refine CallsF.call [] [] (one_spec true) rfl rfl rfl rfl rfl (.inl rfl) ?_
  conv => whnf
  refine ⟨.inl ⟨_, rfl⟩, ?_⟩
  conv => whnf
  refine CallsF.call [] [] (one_spec true) rfl rfl rfl rfl rfl (.inl rfl) ?_
  conv => whnf
  exact ⟨[], [], rfl, rfl, rfl⟩

theorem other4 : CallsF Try.prog 65 [vidR, iv 4] [] (iv 2) [] := by
  have k := bases_spec
  refine e65 ?_
  conv => whnf
  refine CallsF.call [] [] k rfl rfl rfl rfl rfl (.inl rfl) ?_
  conv => whnf
  refine CallsF.call [] [] (one_spec true) rfl rfl rfl rfl rfl (.inl rfl) ?_
  conv => whnf
  refine ⟨.inl ⟨_, rfl⟩, ?_⟩
  conv => whnf
  refine CallsF.call [] [] (one_spec false) rfl rfl rfl rfl rfl (.inl rfl) ?_
  conv => whnf
  refine ⟨.inl ⟨_, rfl⟩, ?_⟩
  conv => whnf
  refine CallsF.call [] [] (one_spec true) rfl rfl rfl rfl rfl (.inl rfl) ?_
  conv => whnf
  exact ⟨[], [], rfl, rfl, rfl⟩

theorem best_spec : CallsF Try.prog 43 [vidR] [] (iv 0) [] := by
  refine e43 ?_
  conv => whnf
  refine LoopA.steps 3 [1, 3] [0] [] (by rfl) ?_
  conv => whnf
  refine LoopA.steps 6 [1, 3, 4] [0] [] (by rfl) ?_
  conv => whnf
  refine CallsF.call [] [] other0 rfl rfl rfl rfl rfl (.inl rfl) ?_
  conv => whnf
  first | refine pt_of [1, 3, 4] [0] [] (by rfl) ?_ | refine ptw_of [1, 3, 4] [0] [] (by rfl) ?_
  conv => whnf
  refine CallsF.call [] [] other1 rfl rfl rfl rfl rfl (.inl rfl) ?_
  conv => whnf
  first | refine pt_of [1, 3, 4] [0] [] (by rfl) ?_ | refine ptw_of [1, 3, 4] [0] [] (by rfl) ?_
  conv => whnf
  refine CallsF.call [] [] other2 rfl rfl rfl rfl rfl (.inl rfl) ?_
  conv => whnf
  first | refine pt_of [1, 3, 4] [0] [] (by rfl) ?_ | refine ptw_of [1, 3, 4] [0] [] (by rfl) ?_
  conv => whnf
  refine CallsF.call [] [] other3 rfl rfl rfl rfl rfl (.inl rfl) ?_
  conv => whnf
  first | refine pt_of [1, 3, 4] [0] [] (by rfl) ?_ | refine ptw_of [1, 3, 4] [0] [] (by rfl) ?_
  conv => whnf
  refine CallsF.call [] [] other4 rfl rfl rfl rfl rfl (.inl rfl) ?_
  conv => whnf
  first | refine pt_of [1, 3, 4] [0] [] (by rfl) ?_ | refine ptw_of [1, 3, 4] [0] [] (by rfl) ?_
  conv => whnf
  first | refine pt_of [1, 3] [0] [] (by rfl) ?_ | refine ptw_of [1, 3] [0] [] (by rfl) ?_
  conv => whnf
  refine LoopA.steps 6 [1, 3, 4] [0] [] (by rfl) ?_
  conv => whnf
  refine CallsF.call [] [] other0 rfl rfl rfl rfl rfl (.inl rfl) ?_
  conv => whnf
  first | refine pt_of [1, 3, 4] [0] [] (by rfl) ?_ | refine ptw_of [1, 3, 4] [0] [] (by rfl) ?_
  conv => whnf
  refine CallsF.call [] [] other1 rfl rfl rfl rfl rfl (.inl rfl) ?_
  conv => whnf
  first | refine pt_of [1, 3, 4] [0] [] (by rfl) ?_ | refine ptw_of [1, 3, 4] [0] [] (by rfl) ?_
  conv => whnf
  refine CallsF.call [] [] other2 rfl rfl rfl rfl rfl (.inl rfl) ?_
  conv => whnf
  first | refine pt_of [1, 3, 4] [0] [] (by rfl) ?_ | refine ptw_of [1, 3, 4] [0] [] (by rfl) ?_
  conv => whnf
  refine CallsF.call [] [] other3 rfl rfl rfl rfl rfl (.inl rfl) ?_
  conv => whnf
  first | refine pt_of [1, 3, 4] [0] [] (by rfl) ?_ | refine ptw_of [1, 3, 4] [0] [] (by rfl) ?_
  conv => whnf
  refine CallsF.call [] [] other4 rfl rfl rfl rfl rfl (.inl rfl) ?_
  conv => whnf
  first | refine pt_of [1, 3, 4] [0] [] (by rfl) ?_ | refine ptw_of [1, 3, 4] [0] [] (by rfl) ?_
  conv => whnf
  first | refine pt_of [1, 3] [0] [] (by rfl) ?_ | refine ptw_of [1, 3] [0] [] (by rfl) ?_
  conv => whnf
  refine LoopA.steps 6 [1, 3, 4] [0] [] (by rfl) ?_
  conv => whnf
  refine CallsF.call [] [] other0 rfl rfl rfl rfl rfl (.inl rfl) ?_
  conv => whnf
  exact ⟨[], [], rfl, rfl, rfl⟩


set_option maxRecDepth 10000 in
theorem by_spec : CallsF Try.prog 42 [vidR, iv 0] [] (.str (strOfNums [48, 48, 49, 49, 49, 48, 49, 49, 48, 49, 49, 49, 49, 48])) [] := by
  refine e42 ?_
  conv => whnf
  refine CallsF.call [] [] bases_spec rfl rfl rfl rfl rfl (.inl rfl) ?_
  conv => whnf
  refine CallsF.call [] [] code1 rfl rfl rfl rfl rfl (.inl rfl) ?_
  conv => whnf
  refine CallsF.call [] [] code0 rfl rfl rfl rfl rfl (.inl rfl) ?_
  conv => whnf
  refine CallsF.call [] [] code2 rfl rfl rfl rfl rfl (.inl rfl) ?_
  conv => whnf
  refine ⟨.inl ⟨_, rfl⟩, ?_⟩
  conv => whnf
  refine CallsF.call [] [] code2 rfl rfl rfl rfl rfl (.inl rfl) ?_
  conv => whnf
  refine CallsF.call [] [] code0 rfl rfl rfl rfl rfl (.inl rfl) ?_
  conv => whnf
  exact ⟨[], [], rfl, rfl, rfl⟩

theorem pad_spec : CallsF Try.prog 61 [.str (strOfNums [48, 48, 49, 49, 49, 48, 49, 49, 48, 49, 49, 49, 49, 48])] [] (.str (strOfNums [48, 48, 49, 49, 49, 48, 49, 49, 48, 49, 49, 49, 49, 48, 48, 48])) [] := by
  refine e61 ?_
  conv => whnf
  refine LoopA.steps 3 [0] [] [] (by rfl) ?_
  conv => whnf
  first | refine pt_of [0] [] [] (by rfl) ?_ | refine ptw_of [0] [] [] (by rfl) ?_
  conv => whnf
  first | refine pt_of [0] [] [] (by rfl) ?_ | refine ptw_of [0] [] [] (by rfl) ?_
  conv => whnf
  exact ⟨[], [], rfl, rfl, rfl⟩

theorem number0 : CallsF Try.prog 62 [.str (strOfNums [48, 48, 49, 49, 49, 48, 49, 49])] [] (.int .u64 59) [] := by
  refine e62 ?_
  conv => whnf
  refine LoopA.steps 9 [0, 3, 4] [] [] (by rfl) ?_
  conv => whnf
  first | refine pt_of [0, 3, 4] [] [] (by rfl) ?_ | refine ptw_of [0, 3, 4] [] [] (by rfl) ?_
  conv => whnf
  first | refine pt_of [0, 3, 4] [] [] (by rfl) ?_ | refine ptw_of [0, 3, 4] [] [] (by rfl) ?_
  conv => whnf
  first | refine pt_of [0, 3, 4] [] [] (by rfl) ?_ | refine ptw_of [0, 3, 4] [] [] (by rfl) ?_
  conv => whnf
  first | refine pt_of [0, 3, 4] [] [] (by rfl) ?_ | refine ptw_of [0, 3, 4] [] [] (by rfl) ?_
  conv => whnf
  first | refine pt_of [0, 3, 4] [] [] (by rfl) ?_ | refine ptw_of [0, 3, 4] [] [] (by rfl) ?_
  conv => whnf
  first | refine pt_of [0, 3, 4] [] [] (by rfl) ?_ | refine ptw_of [0, 3, 4] [] [] (by rfl) ?_
  conv => whnf
  first | refine pt_of [0, 3, 4] [] [] (by rfl) ?_ | refine ptw_of [0, 3, 4] [] [] (by rfl) ?_
  conv => whnf
  first | refine pt_of [0, 3, 4] [] [] (by rfl) ?_ | refine ptw_of [0, 3, 4] [] [] (by rfl) ?_
  conv => whnf
  exact ⟨[], [], rfl, rfl, rfl⟩

theorem number1 : CallsF Try.prog 62 [.str (strOfNums [48, 49, 49, 49, 49, 48, 48, 48])] [] (.int .u64 120) [] := by
  refine e62 ?_
  conv => whnf
  refine LoopA.steps 9 [0, 3, 4] [] [] (by rfl) ?_
  conv => whnf
  first | refine pt_of [0, 3, 4] [] [] (by rfl) ?_ | refine ptw_of [0, 3, 4] [] [] (by rfl) ?_
  conv => whnf
  first | refine pt_of [0, 3, 4] [] [] (by rfl) ?_ | refine ptw_of [0, 3, 4] [] [] (by rfl) ?_
  conv => whnf
  first | refine pt_of [0, 3, 4] [] [] (by rfl) ?_ | refine ptw_of [0, 3, 4] [] [] (by rfl) ?_
  conv => whnf
  first | refine pt_of [0, 3, 4] [] [] (by rfl) ?_ | refine ptw_of [0, 3, 4] [] [] (by rfl) ?_
  conv => whnf
  first | refine pt_of [0, 3, 4] [] [] (by rfl) ?_ | refine ptw_of [0, 3, 4] [] [] (by rfl) ?_
  conv => whnf
  first | refine pt_of [0, 3, 4] [] [] (by rfl) ?_ | refine ptw_of [0, 3, 4] [] [] (by rfl) ?_
  conv => whnf
  first | refine pt_of [0, 3, 4] [] [] (by rfl) ?_ | refine ptw_of [0, 3, 4] [] [] (by rfl) ?_
  conv => whnf
  first | refine pt_of [0, 3, 4] [] [] (by rfl) ?_ | refine ptw_of [0, 3, 4] [] [] (by rfl) ?_
  conv => whnf
  exact ⟨[], [], rfl, rfl, rfl⟩

set_option maxRecDepth 10000 in
theorem vbytes_spec : CallsF Try.prog 41 [.str (strOfNums [48, 48, 49, 49, 49, 48, 49, 49, 48, 49, 49, 49, 49, 48])] [] (.ri .u8 [59, 120]) [] := by
  refine e41 ?_
  conv => whnf
  refine CallsF.call [] [] pad_spec rfl rfl rfl rfl rfl (.inl rfl) ?_
  conv => whnf
  refine LoopA.steps 3 [0, 3, 4] [] [] (by rfl) ?_
  conv => whnf
  refine CallsF.call [] [] number0 rfl rfl rfl rfl rfl (.inl rfl) ?_
  conv => whnf
  first | refine pt_of [0, 3, 4] [1] [] (by rfl) ?_ | refine ptw_of [0, 3, 4] [1] [] (by rfl) ?_
  conv => whnf
  refine CallsF.call [] [] number1 rfl rfl rfl rfl rfl (.inl rfl) ?_
  conv => whnf
  first | refine pt_of [0, 3, 4] [2] [] (by rfl) ?_ | refine ptw_of [0, 3, 4] [2] [] (by rfl) ?_
  conv => whnf
  exact ⟨[], [0], rfl, rfl, rfl⟩

theorem vput_spec : CallsF Try.prog 20 [vidR] [] (.ri .u8 [59, 120]) [] := by
  refine e20 ?_
  conv => whnf
  refine CallsF.call [] [] best_spec rfl rfl rfl rfl rfl (.inl rfl) ?_
  conv => whnf
  refine ⟨.inl ⟨_, rfl⟩, ?_⟩
  conv => whnf
  refine CallsF.call [] [] by_spec rfl rfl rfl rfl rfl (.inl rfl) ?_
  conv => whnf
  refine CallsF.call [] [] vbytes_spec rfl rfl rfl rfl rfl (.inl rfl) ?_
  conv => whnf
  exact ⟨[], [], rfl, rfl, rfl⟩


/-! Layer 39: where a picture is: the walk. -/

/-- Is a unit the picture of a number? -/
def findB (n : Int) (x : Int × List Int) : Bool := isP x.1 && decide (4 ≤ x.2.length) && (numB (x.2.take 4) == n)

theorem number_nil : CallsF Try.prog 53 [.snil] [] (iv 0) [] := by
  refine e53 ?_
  conv => whnf
  refine LoopA.steps 1 [3, 6, 7, 8] [] [] (by rfl) ?_
  conv => whnf
  exact ⟨[], [], rfl, rfl, rfl⟩

theorem word_no (bs : List Int) (hb : bs.length < 4294967290) (h : bs.length < 4) : CallsF Try.prog 30 [.bp 0 0] [cur bs 0] (.tup [iv 0, .bool false]) [cur bs 0] := by
  refine e30 ?_
  conv => whnf
  refine CallsF.call [0] [] (cnext_no bs hb 0 (by omega) 4 (by omega)) rfl rfl rfl rfl rfl (.inl rfl) ?_
  conv => whnf
  refine CallsF.call [] [] number_nil rfl rfl rfl rfl rfl (.inl rfl) ?_
  conv => whnf
  exact ⟨[], [], rfl, rfl, rfl⟩

theorem find1_spec (n : Int) (x : Int × List Int) (hx : okU x) : CallsF Try.prog 28 [.agg (uRow x), .rp [iv n] 0] [] (.bool (findB n x)) [] := by
  obtain ⟨c, d⟩ := x
  obtain ⟨h1, h2, h3, h4⟩ := hx
  have h1 : knownB c = true := h1
  have h3 : okB d := h3
  have h4 : d.length ≤ 3000 := h4
  have kp := picture_spec (c, d) (knownB_in h1)
  unfold uRow at kp ⊢
  have kn := cnew_spec d (by omega)
  unfold findB
  have kp : CallsF Try.prog 31 [.agg [iv c, .ri .u8 d]] [] (.bool (isP c)) [] := kp
  show CallsF _ _ [.agg [iv c, .ri .u8 d], .rp [iv n] 0] _ (.bool (isP c && decide (4 ≤ d.length) && (numB (d.take 4) == n))) _
  by_cases hl : 4 ≤ d.length
  · have kw := word_spec d h3 (by omega) 0 (by omega)
    rw [List.drop_zero] at kw
    rw [decide_eq_true hl, Bool.and_true]
    refine e28 ?_
    conv => whnf
    refine CallsF.call [] [] kn rfl rfl rfl rfl rfl (.inl rfl) ?_
    conv => whnf
    refine CallsF.call [1] [] kw rfl rfl rfl rfl rfl (.inl rfl) ?_
    conv => whnf
    cases hp : isP c <;> rw [hp] at kp
    all_goals
      refine CallsF.call [] [] kp rfl rfl rfl rfl rfl (.inl rfl) ?_
      conv => whnf
      exact ⟨[], [], rfl, rfl, rfl⟩
  · have kw := word_no d (by omega) (by omega)
    rw [decide_eq_false hl, Bool.and_false, Bool.false_and]
    refine e28 ?_
    conv => whnf
    refine CallsF.call [] [] kn rfl rfl rfl rfl rfl (.inl rfl) ?_
    conv => whnf
    refine CallsF.call [1] [] kw rfl rfl rfl rfl rfl (.inl rfl) ?_
    conv => whnf
    cases hp : isP c <;> rw [hp] at kp
    all_goals
      refine CallsF.call [] [] kp rfl rfl rfl rfl rfl (.inl rfl) ?_
      conv => whnf
      exact ⟨[], [], rfl, rfl, rfl⟩

set_option maxRecDepth 10000 in
theorem indexF_spec (L : List (Int × List Int)) (hL : L.length < 1000000) (hk : ∀ x ∈ L, okU x) (n : Int) : CallsF Try.prog 27 [.ro 2 (L.map uRow), .fn 28 [.rp [iv n] 0]] [] (idxV (findB n) L) [] := by
  obtain ⟨rows, hr⟩ : ∃ rows, L.map uRow = rows := ⟨_, rfl⟩
  have hrl : rows.length = L.length := by rw [← hr, List.length_map]
  rw [hr]
  refine e27 ?_
  conv => whnf
  refine LoopA.inv (fun m st => ∃ i : Nat, m + i = L.length ∧ (∀ (t : Nat) (h : t < L.length), t < i → findB n L[t] = false) ∧ st = ⟨[(0, .ro 2 rows), (1, .fn 28 [.rp [iv n] 0]), (6, .ro 2 rows), (7, iv (rows.length : Nat)), (8, iv i)], [], 0, 0⟩) L.length [0, 1, 6, 7, 8] [] [] (by rfl) ?_ ?_
  · conv => whnf
    exact ⟨0, rfl, fun t h h0 => absurd h0 (by omega), rfl⟩
  rintro m st ⟨i, hm, hno, rfl⟩
  by_cases h1 : i < L.length
  · have hrow := uRow_at hr h1
    have kb := find1_spec n L[i] (hk _ (List.getElem_mem h1))
    unfold uRow at hrow kb
    conv => whnf
    refine ifB_of (fun _ => ?_) (fun h => ((of_decide_eq_false h) (by omega)).elim)
    conv => whnf
    rw [aop_idxS_ro hrow rfl rfl]
    conv => whnf
    cases hq : findB n L[i] with
    | true =>
      rw [hq] at kb
      refine CallsF.call [] [] kb rfl rfl rfl rfl rfl (.inl rfl) ?_
      conv => whnf
      exact ⟨[], [], rfl, (idxV_at h1 hq hno).symm, rfl⟩
    | false =>
      rw [hq] at kb
      refine CallsF.call [] [] kb rfl rfl rfl rfl rfl (.inl rfl) ?_
      conv => whnf
      rw [inc_nat i (by omega)]
      refine ⟨(m - 1), [0, 1, 6, 7, 8], [], [], by omega, rfl, ?_⟩
      conv => whnf
      refine ⟨i + 1, by omega, fun t h ht => ?_, rfl⟩
      by_cases hti : t = i
      · subst hti; exact hq
      · exact hno t h (by omega)
  · conv => whnf
    refine ifB_of (fun h => absurd (of_decide_eq_true h) (by omega)) (fun _ => ?_)
    conv => whnf
    refine ⟨[], [], rfl, ?_, rfl⟩
    exact (idxV_no fun t h => hno t h (by omega)).symm

/-- Where a picture is. -/
def findV (L : List (Int × List Int)) (n : Int) : AV := if L.findIdx (findB n) < L.length then .tup [iv (L.findIdx (findB n)), iv 0] else .tup [iv (-1), iv 250]

theorem find_spec (bs : List Int) (h : okB bs) (h3 : bs.length ≤ 3000) (n : Int) : CallsF Try.prog 8 [.ri .u8 bs, iv n] [] (if splitE bs = 0 then findV (sU bs) n else .tup [iv (-1), iv (splitE bs)]) [] := by
  have ks := split_spec bs h (by omega)
  obtain ⟨h1, hl⟩ := sU_ok h h3
  have ki := unitsV_arg (rest := [.fn 28 [.rp [iv n] 0]]) (indexF_spec (sU bs) (by omega) h1 n)
  change CallsF _ _ _ _ (.tup [unitsV (sU bs), iv (splitE bs)]) [] at ks
  generalize splitE bs = e at *
  by_cases he : e = 0
  · subst he
    rw [if_pos rfl]
    unfold findV
    unfold idxV at ki
    rcases unitsV_two (sU bs) with hu | hu <;> rw [hu] at ks ki
    all_goals
      refine e8 ?_
      conv => whnf
      refine CallsF.call [] [] ks rfl rfl rfl rfl rfl (.inl rfl) ?_
      conv => whnf
      refine CallsA.frz [0] ?_
      conv => whnf
      split at ki
      · rename_i hlt
        rw [if_pos hlt]
        refine CallsF.call [] [] ki rfl rfl rfl rfl rfl (.inl rfl) ?_
        conv => whnf
        exact ⟨[], [], rfl, rfl, rfl⟩
      · rename_i hlt
        rw [if_neg hlt]
        refine CallsF.call [] [] ki rfl rfl rfl rfl rfl (.inl rfl) ?_
        conv => whnf
        exact ⟨[], [], rfl, rfl, rfl⟩
  · rw [if_neg he]
    rcases unitsV_two (sU bs) with hu | hu <;> rw [hu] at ks
    all_goals
      refine e8 ?_
      conv => whnf
      refine CallsF.call [] [] ks rfl rfl rfl rfl rfl (.inl rfl) ?_
      conv => whnf
      rw [show (e != 0) = true by simp [he]]
      conv => whnf
      exact ⟨[], [], rfl, rfl, rfl⟩


/-! Layer 39: where a picture is, by the document: the walk. -/

theorem numB_w4 {xs : List Int} (h : okB xs) (hl : xs.length = 4) {n : Int} (_hn : 0 ≤ n ∧ n ≤ 4294967295) : decide (xs = w4 n) = (numB xs == n) := by
  match xs, hl with
  | [a, b, c, d], _ =>
    have ha := h a (by simp)
    have hb := h b (by simp)
    have hc := h c (by simp)
    have hd := h d (by simp)
    have e : numB [a, b, c, d] = 256 * (256 * (256 * a + b) + c) + d := by simp [numB]
    rw [e, Bool.eq_iff_iff]
    simp only [decide_eq_true_eq, beq_iff_eq, w4, List.cons.injEq, and_true]
    omega

theorem numB_range {xs : List Int} (h : okB xs) (hl : xs.length = 4) : 0 ≤ numB xs ∧ numB xs ≤ 4294967295 := by
  match xs, hl with
  | [a, b, c, d], _ =>
    have ha := h a (by simp)
    have hb := h b (by simp)
    have hc := h c (by simp)
    have hd := h d (by simp)
    have e : numB [a, b, c, d] = 256 * (256 * (256 * a + b) + c) + d := by simp [numB]
    rw [e]; omega

theorem findB_no {n : Int} {c : Int} {d : List Int} (h : isP c = false ∨ ¬ 4 ≤ d.length ∨ (okB d ∧ ¬ (0 ≤ n ∧ n < 4294967296))) : findB n (c, d) = false := by
  show (isP c && decide (4 ≤ d.length) && (numB (d.take 4) == n)) = false
  rcases h with h | h | ⟨h, h'⟩
  · rw [h]; rfl
  · rw [decide_eq_false h, Bool.and_false]; rfl
  · by_cases hl : 4 ≤ d.length
    · have := numB_range (okB_take h 4) (by rw [List.length_take]; omega)
      rw [show (numB (d.take 4) == n) = false from beq_eq_false_iff_ne.2 (by omega), Bool.and_false]
    · rw [decide_eq_false hl, Bool.and_false]; rfl

set_option maxRecDepth 10000 in
set_option maxHeartbeats 1000000 in
theorem rfind_spec (L : List (Int × List Int)) (hL : L.length < 1000000) (hk : ∀ x ∈ L, okU x) (n : Int) : CallsF Try.prog 10 [.ro 2 (L.map uRow), iv n] [] (idxV (findB n) L) [] := by
  obtain ⟨rows, hr⟩ : ∃ rows, L.map uRow = rows := ⟨_, rfl⟩
  have hrl : rows.length = L.length := by rw [← hr, List.length_map]
  rw [hr]
  refine e10 ?_
  conv => whnf
  refine LoopA.inv (fun m st => ∃ i : Nat, m + i = L.length ∧ (∀ (t : Nat) (h : t < L.length), t < i → findB n L[t] = false) ∧ st = ⟨[(1, iv n), (7, .ro 2 rows), (8, iv (rows.length : Nat)), (9, iv i)], [], 0, 0⟩) L.length [1, 7, 8, 9] [] [] (by rfl) ?_ ?_
  · conv => whnf
    exact ⟨0, rfl, fun t h h0 => absurd h0 (by omega), rfl⟩
  rintro m st ⟨i, hm, hno, rfl⟩
  by_cases h1 : i < L.length
  · have hrow := uRow_at hr h1
    have hok := hk L[i] (List.getElem_mem h1)
    have kp := rpicture_spec L[i]
    have hstep : findB n L[i] = false → ∀ (t : Nat) (h : t < L.length), t < i + 1 → findB n L[t] = false := fun hq t h ht => by
      by_cases hti : t = i
      · subst hti; exact hq
      · exact hno t h (by omega)
    have hfound : findB n L[i] = true → idxV (findB n) L = iv i := fun hq => idxV_at h1 hq hno
    obtain ⟨c, d, hcd⟩ : ∃ c d, L[i] = (c, d) := ⟨_, _, rfl⟩
    rw [hcd] at hrow hok kp hstep hfound
    have hrow : nth rows (i : Int).toNat = some [iv c, .ri .u8 d] := hrow
    have kp : CallsF Try.prog 32 [.agg [iv c, .ri .u8 d]] [] (.bool (isP c)) [] := kp
    have hb : okB d := hok.2.2.1
    conv => whnf
    refine ifB_of (fun _ => ?_) (fun h => ((of_decide_eq_false h) (by omega)).elim)
    conv => whnf
    rw [aop_idxS_ro hrow rfl rfl]
    conv => whnf
    cases hp : isP c with
    | false =>
      rw [hp] at kp
      refine CallsF.call [] [] kp rfl rfl rfl rfl rfl (.inl rfl) ?_
      conv => whnf
      rw [inc_nat i (by omega)]
      refine ⟨(m - 1), [1, 7, 8, 9], [], [], by omega, rfl, ?_⟩
      conv => whnf
      exact ⟨i + 1, by omega, hstep (findB_no (.inl hp)), rfl⟩
    | true =>
    rw [hp] at kp
    refine CallsF.call [] [] kp rfl rfl rfl rfl rfl (.inl rfl) ?_
    conv => whnf
    by_cases hl : 4 ≤ d.length
    case neg =>
      rw [show decide ((d.length : Int) ≥ 4) = false from decide_eq_false (by omega)]
      conv => whnf
      rw [inc_nat i (by omega)]
      refine ⟨(m - 1), [1, 7, 8, 9], [], [], by omega, rfl, ?_⟩
      conv => whnf
      exact ⟨i + 1, by omega, hstep (findB_no (.inr (.inl hl))), rfl⟩
    rw [show decide ((d.length : Int) ≥ 4) = true from decide_eq_true (by omega)]
    conv => whnf
    by_cases hn0 : 0 ≤ n
    case neg =>
      rw [show decide (n ≥ 0) = false from decide_eq_false (by omega)]
      conv => whnf
      rw [inc_nat i (by omega)]
      refine ⟨(m - 1), [1, 7, 8, 9], [], [], by omega, rfl, ?_⟩
      conv => whnf
      exact ⟨i + 1, by omega, hstep (findB_no (.inr (.inr ⟨hb, by omega⟩))), rfl⟩
    rw [show decide (n ≥ 0) = true from decide_eq_true hn0]
    conv => whnf
    by_cases hn1 : n < 4294967296
    case neg =>
      rw [decide_eq_false hn1]
      conv => whnf
      rw [inc_nat i (by omega)]
      refine ⟨(m - 1), [1, 7, 8, 9], [], [], by omega, rfl, ?_⟩
      conv => whnf
      exact ⟨i + 1, by omega, hstep (findB_no (.inr (.inr ⟨hb, by omega⟩))), rfl⟩
    rw [decide_eq_true hn1]
    conv => whnf
    have kw := rword_spec n (by omega)
    refine need_of ((decide_eq_true ⟨by omega, by omega, by omega⟩)) ?_
    conv => whnf
    have hlt : (d.take 4).length = 4 := by rw [List.length_take]; omega
    have hq : findB n (c, d) = (strOfNums (d.take 4) == strOfNums (w4 n)) := by
      rw [str_beq _ _ (okB_take hb 4) (w4_ok (by omega)), numB_w4 (okB_take hb 4) hlt (by omega)]
      show (isP c && decide (4 ≤ d.length) && (numB (d.take 4) == n)) = _
      rw [hp, decide_eq_true hl]; rfl
    have et : List.take (Int.toNat 4 - Int.toNat 0) (List.drop (Int.toNat 0) d) = d.take 4 := by rfl
    rw [et]
    refine CallsF.call [] [] kw rfl rfl rfl rfl rfl (.inl rfl) ?_
    conv => whnf
    refine ⟨.inl ⟨_, rfl⟩, ?_⟩
    conv => whnf
    rw [← hq]
    cases hqq : findB n (c, d) with
    | true =>
      conv => whnf
      exact ⟨[], [], rfl, (hfound hqq).symm, rfl⟩
    | false =>
      conv => whnf
      rw [inc_nat i (by omega)]
      refine ⟨(m - 1), [1, 7, 8, 9], [], [], by omega, rfl, ?_⟩
      conv => whnf
      exact ⟨i + 1, by omega, hstep hqq, rfl⟩
  · conv => whnf
    refine ifB_of (fun h => absurd (of_decide_eq_true h) (by omega)) (fun _ => ?_)
    conv => whnf
    refine ⟨[], [], rfl, ?_, rfl⟩
    exact (idxV_no fun t h => hno t h (by omega)).symm


end Go.Proofs.TryN

