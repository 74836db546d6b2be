/- Layer 39: what a stream's units are; a stream is stripped: the walk. -/
import Derived.Test.YtlnglbddnhabfaaN39G3
namespace Go.Proofs.TryN
open Go Go.AL Go.Proofs

/-! Layer 39: what a stream's units are; a stream is stripped: the walk. -/

/-- A unit as it stands in a stream of few bytes. -/
def okU (x : Int × List Int) : Prop := knownB x.1 = true ∧ x.1 ≠ 16 ∧ okB x.2 ∧ x.2.length ≤ 3000
/-- Units that may be joined. -/
def okL (L : List (Int × List Int)) : Prop := (∀ x ∈ L, okU x) ∧ L.length ≤ 1000

theorem unitsL_ok (bs : List Int) (h : okB bs) (h3 : bs.length ≤ 3000) : ∀ (f p : Nat) (size : Int), p ≤ bs.length → (∀ x ∈ (unitsL bs f p size).1, okU x) ∧ 13 * (unitsL bs f p size).1.length + p ≤ bs.length
  | 0, p, size, hp => ⟨by simp [unitsL], by simp [unitsL]; omega⟩
  | f + 1, p, size, hp => by
    rw [unitsL]
    split
    · rename_i he
      obtain ⟨n1, n2⟩ := lookE_ok he
      split
      · exact ⟨by simp, by simp; omega⟩
      · rename_i h16
        obtain ⟨i1, i2⟩ := unitsL_ok bs h h3 f (p + (unitN bs p).toNat) (unitN bs p) (by omega)
        refine ⟨fun x hx => ?_, by simp only [List.length_cons]; omega⟩
        rcases List.mem_cons.1 hx with rfl | hx
        · refine ⟨?_, h16, okB_drop (okB_take (okB_drop h p) _) 13, ?_⟩
          · have hc : chk (hCode (hd bs p)) (hNext (hd bs p)) (hPrev (hd bs p)) size = 0 := by
              unfold lookE at he
              split at he
              · omega
              split at he
              · omega
              split at he
              · rename_i h5; exact absurd he h5
              · rename_i h5; exact Classical.byContradiction h5
            exact (chk_ok hc).1
          · show (((bs.drop p).take (unitN bs p).toNat).drop 13).length ≤ 3000
            rw [List.length_drop, List.length_take, List.length_drop]; omega
        · exact i1 x hx
    · exact ⟨by simp, by simp; omega⟩

/-- A stream's units. -/
def sU (bs : List Int) : List (Int × List Int) := (unitsL bs (bs.length + 1) 0 0).1
theorem sU_ok {bs : List Int} (h : okB bs) (h3 : bs.length ≤ 3000) : (∀ x ∈ sU bs, okU x) ∧ (sU bs).length ≤ 230 := by
  obtain ⟨h1, h2⟩ := unitsL_ok bs h h3 (bs.length + 1) 0 0 (by omega)
  exact ⟨h1, by unfold sU; omega⟩

theorem joinL_max : ∀ (L : List (Int × List Int)) (p : Int), (∀ x ∈ L, okU x) → (joinL p L).length ≤ 3013 * L.length + 13
  | [], p, _ => by rw [joinL, headB_len]; simp
  | x :: r, p, h => by
    have := joinL_max r ((13 + x.2.length : Nat) : Int) fun y hy => h y (List.mem_cons_of_mem _ hy)
    have h4 := (h x List.mem_cons_self).2.2.2
    rw [joinL]; simp only [List.length_append, headB_len, List.length_cons]; omega

theorem w4_ok {v : Int} (h : 0 ≤ v ∧ v ≤ 4294967295) : okB (w4 v) := by
  intro b hb
  simp only [w4, List.mem_cons, List.not_mem_nil, or_false] at hb
  omega
theorem okB_app {a b : List Int} (ha : okB a) (hb : okB b) : okB (a ++ b) := fun x hx => (List.mem_append.1 hx).elim (ha x) (hb x)
theorem headB_ok {c n p : Int} (hc : 0 ≤ c ∧ c ≤ 255) (hn : 0 ≤ n ∧ n ≤ 4294967295) (hp : 0 ≤ p ∧ p ≤ 4294967295) : okB (headB c n p) := by
  refine okB_app (okB_app ?_ (w4_ok hn)) (w4_ok hp)
  intro b hb
  simp only [List.mem_cons, List.not_mem_nil, or_false] at hb
  omega
theorem joinL_okB : ∀ (L : List (Int × List Int)) (p : Int), (∀ x ∈ L, okU x) → 0 ≤ p ∧ p ≤ 4294967295 → okB (joinL p L)
  | [], p, _, hp => by rw [joinL]; exact headB_ok (by decide) (by decide) hp
  | x :: r, p, h, hp => by
    have h4 := h x List.mem_cons_self
    rw [joinL]
    exact okB_app (okB_app (headB_ok (knownB_in h4.1) (by have := h4.2.2.2; omega) hp) h4.2.2.1) (joinL_okB r _ (fun y hy => h y (List.mem_cons_of_mem _ hy)) (by have := h4.2.2.2; omega))

/-- Units are joined, by the program and by the document. -/
theorem joinU {L : List (Int × List Int)} (h : okL L) : CallsF Try.prog 40 [.ro 2 (L.map uRow)] [] (.tup [.ri .u8 (joinL 0 L), iv 0]) [] :=
  join_spec L (fun x hx => ⟨(h.1 x hx).1, (h.1 x hx).2.1⟩) (by have := joinL_max L 0 h.1; have := h.2; omega)
theorem rjoinU {L : List (Int × List Int)} (h : okL L) : CallsF Try.prog 21 [.ro 2 (L.map uRow)] [] (.tup [.ri .u8 (joinL 0 L), .bool true]) [] :=
  rjoin_spec L (fun x hx => ⟨(h.1 x hx).1, (h.1 x hx).2.1⟩) (joinL_okB L 0 h.1 (by decide)) (by have := joinL_max L 0 h.1; have := h.2; omega)

/-- What is answered with units or an error. -/
def madeV (e : Int) (L : List (Int × List Int)) : AV := if e = 0 then .tup [.ri .u8 (joinL 0 L), iv 0] else .tup [.snil, iv e]

theorem okL_strip {bs : List Int} (h : okB bs) (h3 : bs.length ≤ 3000) : okL (stripL (sU bs)) := by
  obtain ⟨h1, h2⟩ := sU_ok h h3
  exact ⟨fun x hx => h1 x (List.mem_filter.1 hx).1, by have := List.length_filter_le (fun x => !bareB x) (sU bs); unfold stripL; omega⟩

set_option maxRecDepth 10000 in
theorem joinedS_spec (bs : List Int) (h : okB bs) (h3 : bs.length ≤ 3000) : CallsF Try.prog 34 [.ri .u8 bs, .fn 35 []] [] (madeV (splitE bs) (stripL (sU bs))) [] := by
  have ks := splitO_spec bs h (by omega)
  have hl := (sU_ok h h3).2
  have kj := joinU (okL_strip h h3)
  have k1 := strip1_spec (sU bs) (by omega)
  unfold madeV
  show CallsF _ _ _ _ _ _
  change CallsF _ _ _ _ (.tup [accV ((sU bs).map uRow), iv (splitE bs)]) (accH 2 ((sU bs).map uRow)) at ks
  generalize splitE bs = e at *
  by_cases hne : sU bs = []
  · rw [hne] at ks kj ⊢
    have k0 := strip1_nil
    have kj : CallsF Try.prog 40 [.snil] [] (.tup [.ri .u8 (joinL 0 (stripL [])), iv 0]) [] := CallsF.weak (LeL.cons (AV.le.snil_o 2) .nil) kj
    by_cases he : e = 0
    · subst he
      rw [if_pos rfl]
      generalize joinL 0 (stripL []) = J at *
      refine e34 ?_
      conv => whnf
      refine CallsF.call [] [] ks rfl rfl rfl rfl rfl (.inl rfl) ?_
      conv => whnf
      refine CallsF.call [] [] k0 rfl rfl rfl rfl rfl (.inl rfl) ?_
      conv => whnf
      refine CallsF.call [] [] kj rfl rfl rfl rfl rfl (.inl rfl) ?_
      conv => whnf
      exact ⟨[], [], rfl, rfl, rfl⟩
    · rw [if_neg he]
      refine e34 ?_
      conv => whnf
      refine CallsF.call [] [] ks rfl rfl rfl rfl rfl (.inl rfl) ?_
      conv => whnf
      rw [show (e != 0) = true by simp [he]]
      conv => whnf
      exact ⟨[], [], rfl, rfl, rfl⟩
  · have hne' : (sU bs).map uRow ≠ [] := by simpa using hne
    rw [accV_cons hne', accH_cons 2 hne', List.length_map] at ks
    generalize (sU bs).map uRow = rows at *
    generalize (sU bs).length = n at *
    have et : (((stripL (sU bs)).map uRow ++ List.replicate (n - (stripL (sU bs)).length) [iv 0, .snil]).drop 0).take (stripL (sU bs)).length = (stripL (sU bs)).map uRow := by
      rw [List.drop_zero, List.take_left' (by simp)]
    rw [← et] at kj
    generalize (stripL (sU bs)).map uRow ++ List.replicate (n - (stripL (sU bs)).length) [iv 0, .snil] = R at *
    generalize (stripL (sU bs)).length = k at *
    generalize joinL 0 (stripL (sU bs)) = J at *
    by_cases he : e = 0
    · subst he
      rw [if_pos rfl]
      refine e34 ?_
      conv => whnf
      refine CallsF.call [] [] ks rfl rfl rfl rfl rfl (.inl rfl) ?_
      conv => whnf
      refine CallsF.call [0] [] k1 rfl rfl rfl rfl rfl (.inl rfl) ?_
      conv => whnf
      refine CallsA.frz [0] ?_
      conv => whnf
      refine CallsF.call [] [] kj rfl rfl rfl rfl rfl (.inl rfl) ?_
      conv => whnf
      exact ⟨[], [], rfl, rfl, rfl⟩
    · rw [if_neg he]
      refine e34 ?_
      conv => whnf
      refine CallsF.call [] [] ks rfl rfl rfl rfl rfl (.inl rfl) ?_
      conv => whnf
      rw [show (e != 0) = true by simp [he]]
      conv => whnf
      exact ⟨[], [], rfl, rfl, rfl⟩


/-! Layer 39: streams are stripped and spread: the walk. -/

theorem strip_spec (bs : List Int) (h : okB bs) (h3 : bs.length ≤ 3000) : CallsF Try.prog 11 [.ri .u8 bs] [] (madeV (splitE bs) (stripL (sU bs))) [] := by
  have k := joinedS_spec bs h h3
  unfold madeV at *
  generalize splitE bs = e at *
  by_cases he : e = 0
  · rw [if_pos he] at *
    refine e11 ?_
    conv => whnf
    refine CallsF.call [] [] k rfl rfl rfl rfl rfl (.inl rfl) ?_
    conv => whnf
    exact ⟨[], [], rfl, rfl, rfl⟩
  · rw [if_neg he] at *
    refine e11 ?_
    conv => whnf
    refine CallsF.call [] [] k rfl rfl rfl rfl rfl (.inl rfl) ?_
    conv => whnf
    exact ⟨[], [], rfl, rfl, rfl⟩

theorem accV_app (rows : List (List AV)) {ext : List (List AV)} (h : ext ≠ []) : accV (rows ++ ext) = .sl 0 0 (rows.length + ext.length) := by
  rw [accV_cons (by simp [h]), List.length_append]
theorem accH_app (s : Nat) (rows : List (List AV)) {ext : List (List AV)} (h : ext ≠ []) : accH s (rows ++ ext) = [some (.arr s (rows ++ ext))] := accH_cons s (by simp [h])

/-- What a list of units is when it is given up. -/
theorem unitsV_rows {A : List (Int × List Int)} {rows : List (List AV)} (h : A.map uRow = rows) (hn : rows ≠ []) : AV.ro 2 ((rows.drop 0).take rows.length) = unitsV A := by
  rw [ro_take, unitsV_cons h hn]

set_option maxRecDepth 10000 in
set_option maxHeartbeats 1000000 in
theorem rstrip_spec (L : List (Int × List Int)) (hL : L.length < 1000000) : CallsF Try.prog 13 [.ro 2 (L.map uRow)] [] (unitsV (stripL L)) [] := by
  obtain ⟨rows, hr⟩ : ∃ rows, L.map uRow = rows := ⟨_, rfl⟩
  have hrl : rows.length = L.length := by rw [← hr, List.length_map]
  rw [hr]
  refine e13 ?_
  conv => whnf
  refine LoopA.inv (fun m st => ∃ (i : Nat) (A : List (Int × List Int)), m + i = L.length ∧ A = stripL (L.take i) ∧ st = ⟨[(3, accV (A.map uRow)), (6, .ro 2 rows), (7, iv (rows.length : Nat)), (8, iv i)], accH 2 (A.map uRow), (accH 2 (A.map uRow)).length, 0⟩) L.length [3, 6, 7, 8] [] [] (by rfl) ?_ ?_
  · conv => whnf
    exact ⟨0, [], rfl, rfl, rfl⟩
  rintro m st ⟨i, A, hm, hA, rfl⟩
  obtain ⟨acc, hacc⟩ : ∃ acc, A.map uRow = acc := ⟨_, rfl⟩
  rw [hacc]
  by_cases h1 : i < L.length
  · have hrow := uRow_at hr h1
    have hs := strip_succ h1
    have hAl : A.length ≤ i := by
      rw [hA]
      refine Nat.le_trans (List.length_filter_le ..) ?_
      rw [List.length_take]; omega
    have hal : acc.length ≤ i := by rw [← hacc, List.length_map]; exact hAl
    obtain ⟨c, d, hcd⟩ : ∃ c d, L[i] = (c, d) := ⟨_, _, rfl⟩
    rw [hcd] at hrow hs
    have hrow : nth rows (i : Int).toNat = some [iv c, .ri .u8 d] := hrow
    have hst : ∀ st : St, st = ⟨[(3, .sl 0 0 (acc.length + 1)), (6, .ro 2 rows), (7, iv (rows.length : Nat)), (8, iv (i + 1 : Nat))], [some (.arr 2 (acc ++ [[iv c, .ri .u8 d]]))], 1, 0⟩ →
        st = ⟨[(3, accV ((A ++ [(c, d)]).map uRow)), (6, .ro 2 rows), (7, iv (rows.length : Nat)), (8, iv (i + 1 : Nat))], accH 2 ((A ++ [(c, d)]).map uRow), (accH 2 ((A ++ [(c, d)]).map uRow)).length, 0⟩ := by
      intro st h
      rw [h, uRow_snoc, hacc, accV_snoc, accH_snoc]; rfl
    have hb0 : (c = 32 ∨ c = 48) → stripL (L.take (i + 1)) = A := fun h => by
      rw [hs, if_pos (by unfold bareB; simpa using h), hA]
    have hb1 : ¬ c = 32 → ¬ c = 48 → stripL (L.take (i + 1)) = A ++ [(c, d)] := fun h h' => by
      rw [hs, if_neg (by unfold bareB; simp [h, h']), hA]
    by_cases hne : acc = []
    · subst hne
      conv => whnf
      refine ifB_of (fun _ => ?_) (fun h => ((of_decide_eq_false h) (by omega)).elim)
      conv => whnf
      rw [aop_idxS_ro hrow rfl rfl]
      conv => whnf
      by_cases c1 : c = 32
      · rw [show (c != 32) = false by simp [c1]]
        conv => whnf
        rw [inc_nat i (by omega)]
        refine ⟨(m - 1), [3, 6, 7, 8], [], [], by omega, rfl, ?_⟩
        conv => whnf
        exact ⟨i + 1, A, by omega, (hb0 (.inl c1)).symm, by rw [hacc]; rfl⟩
      rw [show (c != 32) = true by simp [c1]]
      conv => whnf
      by_cases c2 : c = 48
      · rw [show (c != 48) = false by simp [c2]]
        conv => whnf
        rw [inc_nat i (by omega)]
        refine ⟨(m - 1), [3, 6, 7, 8], [], [], by omega, rfl, ?_⟩
        conv => whnf
        exact ⟨i + 1, A, by omega, (hb0 (.inr c2)).symm, by rw [hacc]; rfl⟩
      rw [show (c != 48) = true by simp [c2]]
      conv => whnf
      rw [inc_nat i (by omega)]
      refine ⟨(m - 1), [3, 6, 7, 8], [2], [], by omega, rfl, ?_⟩
      conv => whnf
      exact ⟨i + 1, A ++ [(c, d)], by omega, (hb1 c1 c2).symm, hst _ rfl⟩
    · rw [accV_cons hne, accH_cons 2 hne]
      conv => whnf
      refine ifB_of (fun _ => ?_) (fun h => ((of_decide_eq_false h) (by omega)).elim)
      conv => whnf
      rw [aop_idxS_ro hrow rfl rfl]
      conv => whnf
      by_cases c1 : c = 32
      · rw [show (c != 32) = false by simp [c1]]
        conv => whnf
        rw [inc_nat i (by omega)]
        refine ⟨(m - 1), [3, 6, 7, 8], [0], [], by omega, rfl, ?_⟩
        conv => whnf
        exact ⟨i + 1, A, by omega, (hb0 (.inl c1)).symm, by rw [hacc, accV_cons hne, accH_cons 2 hne]; rfl⟩
      rw [show (c != 32) = true by simp [c1]]
      conv => whnf
      by_cases c2 : c = 48
      · rw [show (c != 48) = false by simp [c2]]
        conv => whnf
        rw [inc_nat i (by omega)]
        refine ⟨(m - 1), [3, 6, 7, 8], [0], [], by omega, rfl, ?_⟩
        conv => whnf
        exact ⟨i + 1, A, by omega, (hb0 (.inr c2)).symm, by rw [hacc, accV_cons hne, accH_cons 2 hne]; rfl⟩
      rw [show (c != 48) = true by simp [c2]]
      conv => whnf
      refine need_of ((by rw [Bool.and_eq_true, decide_eq_true_iff]; exact ⟨⟨by omega, (show 33 * (acc.length + 1) ≤ 2 ^ 46 by omega)⟩, rfl⟩)) ?_
      conv => whnf
      rw [inc_nat i (by omega)]
      refine ⟨(m - 1), [3, 6, 7, 8], [3], [], by omega, rfl, ?_⟩
      conv => whnf
      exact ⟨i + 1, A ++ [(c, d)], by omega, (hb1 c1 c2).symm, hst _ rfl⟩
  · have hie : i = L.length := by omega
    subst hie
    rw [List.take_length] at hA
    subst hA
    by_cases hne : acc = []
    · subst hne
      rw [unitsV_nil hacc]
      conv => whnf
      refine ifB_of (fun h => absurd (of_decide_eq_true h) (by omega)) (fun _ => ?_)
      conv => whnf
      exact ⟨[], [], rfl, rfl, rfl⟩
    · rw [accV_cons hne, accH_cons 2 hne, ← unitsV_rows hacc hne]
      conv => whnf
      refine ifB_of (fun h => absurd (of_decide_eq_true h) (by omega)) (fun _ => ?_)
      conv => whnf
      exact ⟨[], [0], rfl, rfl, rfl⟩


/-! Layer 39: streams are spread: the walk. -/

/-- Units, each with padding behind it. -/
def spreadL (L : List (Int × List Int)) (z : List Int) : List (Int × List Int) := L.flatMap fun x => [x, (48, z)]
theorem spread_succ {L : List (Int × List Int)} {i : Nat} (h : i < L.length) (z : List Int) : spreadL (L.take (i + 1)) z = spreadL (L.take i) z ++ [L[i], (48, z)] := by
  rw [List.take_succ_eq_append_getElem h]; unfold spreadL; rw [List.flatMap_append]; rfl
theorem spread_len (L : List (Int × List Int)) (z : List Int) : (spreadL L z).length = 2 * L.length := by
  induction L with
  | nil => rfl
  | cons x r ih => simp only [spreadL, List.flatMap_cons, List.length_append, List.length_cons, List.length_nil] at ih ⊢; omega
def zerosL (n : Nat) : List Int := List.replicate n 0

set_option maxRecDepth 10000 in
set_option maxHeartbeats 1000000 in
theorem spread1_spec (L : List (Int × List Int)) (hL : L.length < 1000000) (z : List Int) : CallsF Try.prog 38 [.ro 2 (L.map uRow), .rp [iv 48, .ri .u8 z] 0] [] (unitsV (spreadL L z)) [] := by
  obtain ⟨rows, hr⟩ : ∃ rows, L.map uRow = rows := ⟨_, rfl⟩
  have hrl : rows.length = L.length := by rw [← hr, List.length_map]
  rw [hr]
  refine e38 ?_
  conv => whnf
  refine LoopA.inv (fun m st => ∃ (i : Nat) (A : List (Int × List Int)), m + i = L.length ∧ A = spreadL (L.take i) z ∧ st = ⟨[(1, .rp [iv 48, .ri .u8 z] 0), (4, accV (A.map uRow)), (7, .ro 2 rows), (8, iv (rows.length : Nat)), (9, iv i)], accH 2 (A.map uRow), (accH 2 (A.map uRow)).length, 0⟩) L.length [1, 4, 7, 8, 9] [] [] (by rfl) ?_ ?_
  · conv => whnf
    exact ⟨0, [], rfl, rfl, rfl⟩
  rintro m st ⟨i, A, hm, hA, rfl⟩
  obtain ⟨acc, hacc⟩ : ∃ acc, A.map uRow = acc := ⟨_, rfl⟩
  rw [hacc]
  by_cases h1 : i < L.length
  · have hrow := uRow_at hr h1
    have hs := spread_succ h1 z
    have hAl : A.length ≤ 2 * i := by rw [hA, spread_len, List.length_take]; omega
    have hal : acc.length ≤ 2 * i := by rw [← hacc, List.length_map]; exact hAl
    obtain ⟨c, d, hcd⟩ : ∃ c d, L[i] = (c, d) := ⟨_, _, rfl⟩
    rw [hcd] at hrow hs
    have hrow : nth rows (i : Int).toNat = some [iv c, .ri .u8 d] := hrow
    have hst : ∀ st : St, st = ⟨[(1, .rp [iv 48, .ri .u8 z] 0), (4, .sl 0 0 (acc.length + 2)), (7, .ro 2 rows), (8, iv (rows.length : Nat)), (9, iv (i + 1 : Nat))], [some (.arr 2 (acc ++ [[iv c, .ri .u8 d], [iv 48, .ri .u8 z]]))], 1, 0⟩ →
        st = ⟨[(1, .rp [iv 48, .ri .u8 z] 0), (4, accV ((A ++ [(c, d), (48, z)]).map uRow)), (7, .ro 2 rows), (8, iv (rows.length : Nat)), (9, iv (i + 1 : Nat))], accH 2 ((A ++ [(c, d), (48, z)]).map uRow), (accH 2 ((A ++ [(c, d), (48, z)]).map uRow)).length, 0⟩ := by
      intro st h
      rw [h, List.map_append, hacc, accV_app acc (by simp), accH_app 2 acc (by simp)]; rfl
    by_cases hne : acc = []
    · subst hne
      conv => whnf
      refine ifB_of (fun _ => ?_) (fun h => ((of_decide_eq_false h) (by omega)).elim)
      conv => whnf
      rw [aop_idxS_ro hrow rfl rfl]
      conv => whnf
      rw [inc_nat i (by omega)]
      refine ⟨(m - 1), [1, 4, 7, 8, 9], [2], [], by omega, rfl, ?_⟩
      conv => whnf
      exact ⟨i + 1, A ++ [(c, d), (48, z)], by omega, by rw [hs, hA], hst _ rfl⟩
    · rw [accV_cons hne, accH_cons 2 hne]
      conv => whnf
      refine ifB_of (fun _ => ?_) (fun h => ((of_decide_eq_false h) (by omega)).elim)
      conv => whnf
      rw [aop_idxS_ro hrow rfl rfl]
      conv => whnf
      refine need_of ((by rw [Bool.and_eq_true, decide_eq_true_iff]; exact ⟨⟨by omega, (show 33 * (acc.length + 2) ≤ 2 ^ 46 by omega)⟩, rfl⟩)) ?_
      conv => whnf
      rw [inc_nat i (by omega)]
      refine ⟨(m - 1), [1, 4, 7, 8, 9], [3], [], by omega, rfl, ?_⟩
      conv => whnf
      exact ⟨i + 1, A ++ [(c, d), (48, z)], by omega, by rw [hs, hA], hst _ rfl⟩
  · have hie : i = L.length := by omega
    subst hie
    rw [List.take_length] at hA
    subst hA
    by_cases hne : acc = []
    · subst hne
      rw [unitsV_nil hacc]
      conv => whnf
      refine ifB_of (fun h => absurd (of_decide_eq_true h) (by omega)) (fun _ => ?_)
      conv => whnf
      exact ⟨[], [], rfl, rfl, rfl⟩
    · rw [accV_cons hne, accH_cons 2 hne, ← unitsV_rows hacc hne]
      conv => whnf
      refine ifB_of (fun h => absurd (of_decide_eq_true h) (by omega)) (fun _ => ?_)
      conv => whnf
      exact ⟨[], [0], rfl, rfl, rfl⟩

/-- How much padding is asked for. -/
def padN (n : Int) : Nat := (min (max n 0) 65536).toNat

theorem okL_spread {bs : List Int} (h : okB bs) (h3 : bs.length ≤ 3000) {n : Int} (hn : n ≤ 300) : okL (spreadL (sU bs) (zerosL (padN n))) := by
  obtain ⟨h1, h2⟩ := sU_ok h h3
  refine ⟨fun x hx => ?_, by rw [spread_len]; omega⟩
  obtain ⟨y, hy, hxy⟩ := List.mem_flatMap.1 hx
  simp only [List.mem_cons, List.not_mem_nil, or_false] at hxy
  rcases hxy with rfl | rfl
  · exact h1 _ hy
  · refine ⟨(by decide : knownB 48 = true), (by decide : (48 : Int) ≠ 16), fun b hb => ?_, ?_⟩
    · have := (List.mem_replicate.1 hb).2; omega
    · show (List.replicate (padN n) (0 : Int)).length ≤ 3000
      rw [List.length_replicate]; unfold padN; omega

/-- A list that was given up, as a function's argument. -/
theorem unitsV_arg {f : FuncId} {L : List (Int × List Int)} {rest : List AV} {h hv : AHeap} {v : AV} (k : CallsF Try.prog f (.ro 2 (L.map uRow) :: rest) h v hv) : CallsF Try.prog f (unitsV L :: rest) h v hv := by
  cases L with
  | nil => exact CallsF.weak (LeL.cons (AV.le.snil_o 2) (LeL.refl _)) k
  | cons a l => exact k

theorem unitsV_two (L : List (Int × List Int)) : unitsV L = .snil ∨ unitsV L = .ro 2 (L.map uRow) := by
  cases L with
  | nil => exact .inl rfl
  | cons a l => exact .inr rfl

set_option maxRecDepth 10000 in
theorem joinedP_spec (bs : List Int) (h : okB bs) (h3 : bs.length ≤ 3000) (z : List Int) (ho : okL (spreadL (sU bs) z)) :
    CallsF Try.prog 34 [.ri .u8 bs, .fn 38 [.rp [iv 48, .ri .u8 z] 0]] [] (madeV (splitE bs) (spreadL (sU bs) z)) [] := by
  have ks := split_spec bs h (by omega)
  have hl := (sU_ok h h3).2
  have kj := unitsV_arg (rest := []) (joinU ho)
  have k1 := unitsV_arg (rest := [.rp [iv 48, .ri .u8 z] 0]) (spread1_spec (sU bs) (by omega) z)
  unfold madeV
  change CallsF _ _ _ _ (.tup [unitsV (sU bs), iv (splitE bs)]) [] at ks
  generalize splitE bs = e at *
  by_cases he : e = 0
  · subst he
    rw [if_pos rfl]
    generalize joinL 0 (spreadL (sU bs) z) = J at *
    rcases unitsV_two (sU bs) with hu | hu <;> rcases unitsV_two (spreadL (sU bs) z) with hv | hv <;> rw [hu] at ks k1 <;> rw [hv] at k1 kj
    all_goals
      refine e34 ?_
      conv => whnf
      refine CallsF.call [] [] ks rfl rfl rfl rfl rfl (.inl rfl) ?_
      conv => whnf
      refine CallsF.call [] [] k1 rfl rfl rfl rfl rfl (.inl rfl) ?_
      conv => whnf
      refine CallsF.call [] [] kj rfl rfl rfl rfl rfl (.inl rfl) ?_
      conv => whnf
      exact ⟨[], [], rfl, rfl, rfl⟩
  · rw [if_neg he]
    rcases unitsV_two (sU bs) with hu | hu <;> rw [hu] at ks
    all_goals
      refine e34 ?_
      conv => whnf
      refine CallsF.call [] [] ks rfl rfl rfl rfl rfl (.inl rfl) ?_
      conv => whnf
      rw [show (e != 0) = true by simp [he]]
      conv => whnf
      exact ⟨[], [], rfl, rfl, rfl⟩

set_option maxRecDepth 10000 in
theorem spread_spec (bs : List Int) (h : okB bs) (h3 : bs.length ≤ 3000) (n : Int) (hn : n ≤ 300) : CallsF Try.prog 14 [.ri .u8 bs, iv n] [] (madeV (splitE bs) (spreadL (sU bs) (zerosL (padN n)))) [] := by
  have k := joinedP_spec bs h h3 (zerosL (padN n)) (okL_spread h h3 hn)
  have e : (if 65536 < (if 0 > n then 0 else n) then (65536 : Int) else (if 0 > n then 0 else n)) = (padN n : Int) := by unfold padN; split <;> split <;> omega
  have e2 : padN n ≤ 300 := by unfold padN; omega
  unfold madeV at *
  generalize padN n = q at *
  generalize splitE bs = e0 at *
  have et : zerosL q = ((zerosL q).drop 0).take q := by rw [List.drop_zero, List.take_of_length_le (by simp [zerosL])]
  generalize spreadL (sU bs) (zerosL q) = sp at *
  rw [et] at k
  by_cases he : e0 = 0
  · rw [if_pos he] at *
    refine e14 ?_
    conv => whnf
    rw [e]
    refine need_of ((decide_eq_true ⟨by omega, rfl, (show (2 : Int) * q ≤ 2 ^ 46 by omega)⟩)) ?_
    conv => whnf
    refine CallsA.frz [0, 1] ?_
    conv => whnf
    refine CallsF.call [] [] k rfl rfl rfl rfl rfl (.inl rfl) ?_
    conv => whnf
    exact ⟨[], [], rfl, rfl, rfl⟩
  · rw [if_neg he] at *
    refine e14 ?_
    conv => whnf
    rw [e]
    refine need_of ((decide_eq_true ⟨by omega, rfl, (show (2 : Int) * q ≤ 2 ^ 46 by omega)⟩)) ?_
    conv => whnf
    refine CallsA.frz [0, 1] ?_
    conv => whnf
    refine CallsF.call [] [] k rfl rfl rfl rfl rfl (.inl rfl) ?_
    conv => whnf
    exact ⟨[], [], rfl, rfl, rfl⟩


/-! Layer 39: the document spreads a stream: the walk. -/

set_option maxRecDepth 10000 in
set_option maxHeartbeats 1000000 in
theorem rspread_spec (L : List (Int × List Int)) (hL : L.length < 1000000) (n : Int) (hn : n ≤ 300) : CallsF Try.prog 15 [.ro 2 (L.map uRow), iv n] [] (unitsV (spreadL L (zerosL (padN n)))) [] := by
  obtain ⟨rows, hr⟩ : ∃ rows, L.map uRow = rows := ⟨_, rfl⟩
  have hrl : rows.length = L.length := by rw [← hr, List.length_map]
  obtain ⟨z, hz⟩ : ∃ z, zerosL (padN n) = z := ⟨_, rfl⟩
  rw [hr, hz]
  have hp : padN n ≤ 300 := by unfold padN; omega
  refine e15 ?_
  conv => whnf
  refine ifB_of (fun c0 => ?_) (fun c0 => ?_)
  · have c0 : n < 0 := of_decide_eq_true c0
    obtain ⟨q, hq, hz, hq3⟩ : ∃ q : Nat, (0 : Int) = q ∧ zerosL q = z ∧ q ≤ 300 := ⟨0, rfl, by rw [← hz]; congr 1; unfold padN; omega, by decide⟩
    conv => whnf
    refine LoopA.inv (fun m st => ∃ (i : Nat) (A : List (Int × List Int)), m + i = L.length ∧ A = spreadL (L.take i) z ∧ st = ⟨[(1, iv q), (5, accV (A.map uRow)), (12, .ro 2 rows), (13, iv (rows.length : Nat)), (14, iv i)], accH 2 (A.map uRow), (accH 2 (A.map uRow)).length, 0⟩) L.length [1, 5, 12, 13, 14] [] [] (by rfl) ?_ ?_
    · conv => whnf
      exact ⟨0, [], rfl, rfl, by rw [← hq]; rfl⟩
    rintro m st ⟨i, A, hm, hA, rfl⟩
    obtain ⟨acc, hacc⟩ : ∃ acc, A.map uRow = acc := ⟨_, rfl⟩
    rw [hacc]
    by_cases h1 : i < L.length
    · have hrow := uRow_at hr h1
      have hs := spread_succ h1 z
      have hAl : A.length ≤ 2 * i := by rw [hA, spread_len, List.length_take]; omega
      have hal : acc.length ≤ 2 * i := by rw [← hacc, List.length_map]; exact hAl
      obtain ⟨c, d, hcd⟩ : ∃ c d, L[i] = (c, d) := ⟨_, _, rfl⟩
      rw [hcd] at hrow hs
      have hrow : nth rows (i : Int).toNat = some [iv c, .ri .u8 d] := hrow
      have hst : ∀ st : St, st = ⟨[(1, iv q), (5, .sl 0 0 (acc.length + 2)), (12, .ro 2 rows), (13, iv (rows.length : Nat)), (14, iv (i + 1 : Nat))], [some (.arr 2 (acc ++ [[iv c, .ri .u8 d], [iv 48, .ri .u8 z]]))], 1, 0⟩ →
          st = ⟨[(1, iv q), (5, accV ((A ++ [(c, d), (48, z)]).map uRow)), (12, .ro 2 rows), (13, iv (rows.length : Nat)), (14, iv (i + 1 : Nat))], accH 2 ((A ++ [(c, d), (48, z)]).map uRow), (accH 2 ((A ++ [(c, d), (48, z)]).map uRow)).length, 0⟩ := by
        intro st h
        rw [h, List.map_append, hacc, accV_app acc (by simp), accH_app 2 acc (by simp)]; rfl
      by_cases hne : acc = []
      · subst hne
        conv => whnf
        refine ifB_of (fun _ => ?_) (fun h => ((of_decide_eq_false h) (by omega)).elim)
        conv => whnf
        rw [aop_idxS_ro hrow rfl rfl]
        conv => whnf
        refine need_of ((decide_eq_true ⟨by omega, rfl, (show (2 : Int) * q ≤ 2 ^ 46 by omega)⟩)) ?_
        conv => whnf
        rw [inc_nat i (by omega)]
        refine ⟨(m - 1), [1, 5, 12, 13, 14], [3], [], by omega, rfl, ?_⟩
        conv => whnf
        exact ⟨i + 1, A ++ [(c, d), (48, z)], by omega, by rw [hs, hA], hst _ (by rw [← hz]; rfl)⟩
      · rw [accV_cons hne, accH_cons 2 hne]
        conv => whnf
        refine ifB_of (fun _ => ?_) (fun h => ((of_decide_eq_false h) (by omega)).elim)
        conv => whnf
        rw [aop_idxS_ro hrow rfl rfl]
        conv => whnf
        refine need_of ((by rw [Bool.and_eq_true, decide_eq_true_iff]; exact ⟨⟨by omega, (show 33 * (acc.length + 1) ≤ 2 ^ 46 by omega)⟩, rfl⟩)) ?_
        conv => whnf
        refine need_of ((decide_eq_true ⟨by omega, rfl, (show (2 : Int) * q ≤ 2 ^ 46 by omega)⟩)) ?_
        conv => whnf
        refine need_of ((by rw [Bool.and_eq_true, decide_eq_true_iff]; exact ⟨⟨by simp, (show 33 * (acc.length + 1 + 1) ≤ 2 ^ 46 by omega)⟩, rfl⟩)) ?_
        conv => whnf
        rw [inc_nat i (by omega)]
        refine ⟨(m - 1), [1, 5, 12, 13, 14], [4], [], by omega, rfl, ?_⟩
        conv => whnf
        exact ⟨i + 1, A ++ [(c, d), (48, z)], by omega, by rw [hs, hA], hst _ (by
        rw [← hz]
        show (St.mk [(1, iv q), (5, .sl 0 0 (acc.length + 1 + 1)), (12, .ro 2 rows), (13, iv (rows.length : Nat)), (14, iv (i + 1 : Nat))] [some (.arr 2 ((acc.drop 0 ++ [[iv c, .ri .u8 d]]).drop 0 ++ [[iv 48, .ri .u8 (zerosL q)]]))] 1 0) = _
        simp)⟩
    · have hie : i = L.length := by omega
      subst hie
      rw [List.take_length] at hA
      subst hA
      by_cases hne : acc = []
      · subst hne
        rw [unitsV_nil hacc]
        conv => whnf
        refine ifB_of (fun h => absurd (of_decide_eq_true h) (by omega)) (fun _ => ?_)
        conv => whnf
        exact ⟨[], [], rfl, rfl, rfl⟩
      · rw [accV_cons hne, accH_cons 2 hne, ← unitsV_rows hacc hne]
        conv => whnf
        refine ifB_of (fun h => absurd (of_decide_eq_true h) (by omega)) (fun _ => ?_)
        conv => whnf
        exact ⟨[], [0], rfl, rfl, rfl⟩
  · have c0 : ¬ n < 0 := of_decide_eq_false c0
    obtain ⟨q, hq⟩ : ∃ q : Nat, n = q := ⟨n.toNat, by omega⟩
    have hz : zerosL q = z := by rw [← hz]; congr 1; unfold padN; omega
    have hq3 : q ≤ 300 := by omega
    rw [hq]
    clear hq
    have hq : (q : Int) = q := rfl
    conv => whnf
    refine ifB_of (fun h => absurd (of_decide_eq_true h) (by omega)) (fun _ => ?_)
    conv => whnf
    refine LoopA.inv (fun m st => ∃ (i : Nat) (A : List (Int × List Int)), m + i = L.length ∧ A = spreadL (L.take i) z ∧ st = ⟨[(1, iv q), (5, accV (A.map uRow)), (12, .ro 2 rows), (13, iv (rows.length : Nat)), (14, iv i)], accH 2 (A.map uRow), (accH 2 (A.map uRow)).length, 0⟩) L.length [1, 5, 12, 13, 14] [] [] (by rfl) ?_ ?_
    · conv => whnf
      exact ⟨0, [], rfl, rfl, by rw [← hq]; rfl⟩
    rintro m st ⟨i, A, hm, hA, rfl⟩
    obtain ⟨acc, hacc⟩ : ∃ acc, A.map uRow = acc := ⟨_, rfl⟩
    rw [hacc]
    by_cases h1 : i < L.length
    · have hrow := uRow_at hr h1
      have hs := spread_succ h1 z
      have hAl : A.length ≤ 2 * i := by rw [hA, spread_len, List.length_take]; omega
      have hal : acc.length ≤ 2 * i := by rw [← hacc, List.length_map]; exact hAl
      obtain ⟨c, d, hcd⟩ : ∃ c d, L[i] = (c, d) := ⟨_, _, rfl⟩
      rw [hcd] at hrow hs
      have hrow : nth rows (i : Int).toNat = some [iv c, .ri .u8 d] := hrow
      have hst : ∀ st : St, st = ⟨[(1, iv q), (5, .sl 0 0 (acc.length + 2)), (12, .ro 2 rows), (13, iv (rows.length : Nat)), (14, iv (i + 1 : Nat))], [some (.arr 2 (acc ++ [[iv c, .ri .u8 d], [iv 48, .ri .u8 z]]))], 1, 0⟩ →
          st = ⟨[(1, iv q), (5, accV ((A ++ [(c, d), (48, z)]).map uRow)), (12, .ro 2 rows), (13, iv (rows.length : Nat)), (14, iv (i + 1 : Nat))], accH 2 ((A ++ [(c, d), (48, z)]).map uRow), (accH 2 ((A ++ [(c, d), (48, z)]).map uRow)).length, 0⟩ := by
        intro st h
        rw [h, List.map_append, hacc, accV_app acc (by simp), accH_app 2 acc (by simp)]; rfl
      by_cases hne : acc = []
      · subst hne
        conv => whnf
        refine ifB_of (fun _ => ?_) (fun h => ((of_decide_eq_false h) (by omega)).elim)
        conv => whnf
        rw [aop_idxS_ro hrow rfl rfl]
        conv => whnf
        refine need_of ((decide_eq_true ⟨by omega, rfl, (show (2 : Int) * q ≤ 2 ^ 46 by omega)⟩)) ?_
        conv => whnf
        rw [inc_nat i (by omega)]
        refine ⟨(m - 1), [1, 5, 12, 13, 14], [3], [], by omega, rfl, ?_⟩
        conv => whnf
        exact ⟨i + 1, A ++ [(c, d), (48, z)], by omega, by rw [hs, hA], hst _ (by rw [← hz]; rfl)⟩
      · rw [accV_cons hne, accH_cons 2 hne]
        conv => whnf
        refine ifB_of (fun _ => ?_) (fun h => ((of_decide_eq_false h) (by omega)).elim)
        conv => whnf
        rw [aop_idxS_ro hrow rfl rfl]
        conv => whnf
        refine need_of ((by rw [Bool.and_eq_true, decide_eq_true_iff]; exact ⟨⟨by omega, (show 33 * (acc.length + 1) ≤ 2 ^ 46 by omega)⟩, rfl⟩)) ?_
        conv => whnf
        refine need_of ((decide_eq_true ⟨by omega, rfl, (show (2 : Int) * q ≤ 2 ^ 46 by omega)⟩)) ?_
        conv => whnf
        refine need_of ((by rw [Bool.and_eq_true, decide_eq_true_iff]; exact ⟨⟨by simp, (show 33 * (acc.length + 1 + 1) ≤ 2 ^ 46 by omega)⟩, rfl⟩)) ?_
        conv => whnf
        rw [inc_nat i (by omega)]
        refine ⟨(m - 1), [1, 5, 12, 13, 14], [4], [], by omega, rfl, ?_⟩
        conv => whnf
        exact ⟨i + 1, A ++ [(c, d), (48, z)], by omega, by rw [hs, hA], hst _ (by
        rw [← hz]
        show (St.mk [(1, iv q), (5, .sl 0 0 (acc.length + 1 + 1)), (12, .ro 2 rows), (13, iv (rows.length : Nat)), (14, iv (i + 1 : Nat))] [some (.arr 2 ((acc.drop 0 ++ [[iv c, .ri .u8 d]]).drop 0 ++ [[iv 48, .ri .u8 (zerosL q)]]))] 1 0) = _
        simp)⟩
    · have hie : i = L.length := by omega
      subst hie
      rw [List.take_length] at hA
      subst hA
      by_cases hne : acc = []
      · subst hne
        rw [unitsV_nil hacc]
        conv => whnf
        refine ifB_of (fun h => absurd (of_decide_eq_true h) (by omega)) (fun _ => ?_)
        conv => whnf
        exact ⟨[], [], rfl, rfl, rfl⟩
      · rw [accV_cons hne, accH_cons 2 hne, ← unitsV_rows hacc hne]
        conv => whnf
        refine ifB_of (fun h => absurd (of_decide_eq_true h) (by omega)) (fun _ => ?_)
        conv => whnf
        exact ⟨[], [0], rfl, rfl, rfl⟩


/-! Layer 39: the first pictures of a stream: the walk. -/

/-- Units ahead of a picture. -/
def firstL : List (Int × List Int) → Int → List (Int × List Int)
  | [], _ => []
  | x :: r, n => if isP x.1 = true then (if n ≤ 0 then [] else x :: firstL r (n - 1)) else x :: firstL r n

theorem picture_spec (x : Int × List Int) (h : 0 ≤ x.1 ∧ x.1 ≤ 255) : CallsF Try.prog 31 [.agg (uRow x)] [] (.bool (isP x.1)) [] := by
  have k := pic_spec x.1 h
  unfold picV at k
  unfold uRow
  cases hp : isP x.1 <;> rw [hp] at k
  all_goals
    refine e31 ?_
    conv => whnf
    refine CallsF.call [] [] k rfl rfl rfl rfl rfl (.inl rfl) ?_
    conv => whnf
    exact ⟨[], [], rfl, rfl, rfl⟩

theorem rpic_spec (c : Int) : CallsF Try.prog 55 [iv c] [] (.tup [iv (if isP c = true then (if 12 ≤ c then IntKind.wrap .i64 (c - 12) else IntKind.wrap .i64 (c - 8)) else 0), .bool (isP c && decide (12 ≤ c)), .bool (isP c)]) [] := by
  refine e55 ?_
  conv => whnf
  have hi : isP c = true ↔ (8 ≤ c ∧ c ≤ 10) ∨ (12 ≤ c ∧ c ≤ 14) := by unfold isP; simp
  by_cases a1 : 8 ≤ c
  case neg =>
    rw [show decide (c ≥ 8) = false from decide_eq_false (by omega)]
    conv => whnf
    rw [show decide (c ≥ 12) = false from decide_eq_false (by omega)]
    conv => whnf
    have hp : isP c = false := Bool.eq_false_iff.2 fun h => by have := hi.1 h; omega
    rw [hp]
    exact ⟨[], [], rfl, rfl, rfl⟩
  rw [show decide (c ≥ 8) = true from decide_eq_true (by omega)]
  conv => whnf
  by_cases a2 : c ≤ 10
  · rw [show decide (c ≤ 10) = true from decide_eq_true (by omega)]
    conv => whnf
    have hp : isP c = true := hi.2 (by omega)
    rw [hp, if_pos rfl, if_neg (by omega), decide_eq_false (show ¬ 12 ≤ c by omega)]
    exact ⟨[], [], rfl, rfl, rfl⟩
  rw [show decide (c ≤ 10) = false from decide_eq_false (by omega)]
  conv => whnf
  by_cases a3 : 12 ≤ c
  case neg =>
    rw [show decide (c ≥ 12) = false from decide_eq_false (by omega)]
    conv => whnf
    have hp : isP c = false := Bool.eq_false_iff.2 fun h => by have := hi.1 h; omega
    rw [hp]
    exact ⟨[], [], rfl, rfl, rfl⟩
  rw [show decide (c ≥ 12) = true from decide_eq_true (by omega)]
  conv => whnf
  by_cases a4 : c ≤ 14
  · rw [show decide (c ≤ 14) = true from decide_eq_true (by omega)]
    conv => whnf
    have hp : isP c = true := hi.2 (by omega)
    rw [hp, if_pos rfl, if_pos (by omega)]
    exact ⟨[], [], rfl, rfl, rfl⟩
  · rw [show decide (c ≤ 14) = false from decide_eq_false (by omega)]
    conv => whnf
    have hp : isP c = false := Bool.eq_false_iff.2 fun h => by have := hi.1 h; omega
    rw [hp]
    exact ⟨[], [], rfl, rfl, rfl⟩

theorem rpicture_spec (x : Int × List Int) : CallsF Try.prog 32 [.agg (uRow x)] [] (.bool (isP x.1)) [] := by
  have k := rpic_spec x.1
  unfold uRow
  generalize (if isP x.1 = true then (if 12 ≤ x.1 then IntKind.wrap .i64 (x.1 - 12) else IntKind.wrap .i64 (x.1 - 8)) else 0) = q at *
  refine e32 ?_
  conv => whnf
  refine CallsF.call [] [] k rfl rfl rfl rfl rfl (.inl rfl) ?_
  conv => whnf
  exact ⟨[], [], rfl, rfl, rfl⟩

theorem firstL_cons (x : Int × List Int) (r : List (Int × List Int)) (n : Int) : firstL (x :: r) n = if isP x.1 = true then (if n ≤ 0 then [] else x :: firstL r (n - 1)) else x :: firstL r n := rfl

theorem firstL_len : ∀ (L : List (Int × List Int)) (n : Int), (firstL L n).length ≤ L.length ∧ ∀ x ∈ firstL L n, x ∈ L
  | [], n => ⟨Nat.le_refl _, by simp [firstL]⟩
  | x :: r, n => by
    rw [firstL_cons]
    split
    · split
      · exact ⟨Nat.zero_le _, by simp⟩
      · obtain ⟨h1, h2⟩ := firstL_len r (n - 1)
        refine ⟨by simp only [List.length_cons]; omega, fun y hy => ?_⟩
        rcases List.mem_cons.1 hy with rfl | hy
        · exact List.mem_cons_self
        · exact List.mem_cons_of_mem _ (h2 y hy)
    · obtain ⟨h1, h2⟩ := firstL_len r n
      refine ⟨by simp only [List.length_cons]; omega, fun y hy => ?_⟩
      rcases List.mem_cons.1 hy with rfl | hy
      · exact List.mem_cons_self
      · exact List.mem_cons_of_mem _ (h2 y hy)

theorem take_snoc {L : List (Int × List Int)} {i : Nat} (h : i < L.length) (R : List (Int × List Int)) : L.take i ++ L[i] :: R = L.take (i + 1) ++ R := by
  rw [List.take_succ_eq_append_getElem h, List.append_assoc]; rfl

set_option maxRecDepth 10000 in
set_option maxHeartbeats 1000000 in
theorem first1_spec (L : List (Int × List Int)) (hL : L.length < 1000000) (hk : ∀ x ∈ L, okU x) (n : Int) : CallsF Try.prog 39 [.ro 2 (L.map uRow), .rp [iv n] 0] [] (.ro 2 ((firstL L n).map uRow)) [] := by
  obtain ⟨rows, hr⟩ : ∃ rows, L.map uRow = rows := ⟨_, rfl⟩
  have hrl : rows.length = L.length := by rw [← hr, List.length_map]
  rw [hr]
  refine e39 ?_
  conv => whnf
  refine LoopA.inv (fun m st => ∃ (i k : Nat), m + i = L.length ∧ k ≤ i ∧ firstL L n = L.take i ++ firstL (L.drop i) (n - k) ∧ st = ⟨[(0, .ro 2 rows), (1, .rp [iv n] 0), (4, iv k), (7, .ro 2 rows), (8, iv (rows.length : Nat)), (9, iv i)], [], 0, 0⟩) L.length [0, 1, 4, 7, 8, 9] [] [] (by rfl) ?_ ?_
  · conv => whnf
    exact ⟨0, 0, rfl, Nat.le_refl _, by simp, rfl⟩
  rintro m st ⟨i, k, hm, hki, hf, rfl⟩
  by_cases h1 : i < L.length
  · have hrow := uRow_at hr h1
    have hd : L.drop i = L[i] :: L.drop (i + 1) := List.drop_eq_getElem_cons h1
    have kp := picture_spec L[i] (knownB_in (hk _ (List.getElem_mem h1)).1)
    have ht := take_snoc h1
    rw [hd, firstL_cons] at hf
    unfold uRow at hrow kp
    generalize L[i] = x at *
    conv => whnf
    refine ifB_of (fun _ => ?_) (fun h => ((of_decide_eq_false h) (by omega)).elim)
    conv => whnf
    rw [aop_idxS_ro hrow rfl rfl]
    conv => whnf
    cases hp : isP x.1 with
    | false =>
      rw [hp] at kp hf
      rw [if_neg (by decide), ht] at hf
      refine CallsF.call [] [] kp rfl rfl rfl rfl rfl (.inl rfl) ?_
      conv => whnf
      rw [inc_nat i (by omega)]
      refine ⟨(m - 1), [0, 1, 4, 7, 8, 9], [], [], by omega, rfl, ?_⟩
      conv => whnf
      exact ⟨i + 1, k, by omega, by omega, hf, rfl⟩
    | true =>
      rw [hp] at kp hf
      rw [if_pos rfl] at hf
      refine CallsF.call [] [] kp rfl rfl rfl rfl rfl (.inl rfl) ?_
      conv => whnf
      refine ifB_of (fun h2 => ?_) (fun h2 => ?_)
      · have h2 := of_decide_eq_true h2
        rw [if_pos (by omega), List.append_nil] at hf
        conv => whnf
        refine need_of ((decide_eq_true ⟨by omega, by omega, by omega⟩)) ?_
        conv => whnf
        refine ⟨[], [], rfl, ?_, rfl⟩
        rw [hf, List.map_take, hr]
        rfl
      · have h2 := of_decide_eq_false h2
        rw [if_neg (by omega), ht] at hf
        conv => whnf
        rw [inc_nat i (by omega), inc_nat k (by omega)]
        refine ⟨(m - 1), [0, 1, 4, 7, 8, 9], [], [], by omega, rfl, ?_⟩
        conv => whnf
        exact ⟨i + 1, k + 1, by omega, by omega, by rw [hf]; congr 2; omega, rfl⟩
  · have hie : i = L.length := by omega
    subst hie
    rw [List.drop_length, List.take_length] at hf
    rw [show firstL [] (n - (k : Int)) = [] from rfl, List.append_nil] at hf
    rw [hf, hr]
    conv => whnf
    refine ifB_of (fun h => absurd (of_decide_eq_true h) (by omega)) (fun _ => ?_)
    conv => whnf
    exact ⟨[], [], rfl, rfl, rfl⟩

theorem okL_first {bs : List Int} (h : okB bs) (h3 : bs.length ≤ 3000) (n : Int) : okL (firstL (sU bs) n) := by
  obtain ⟨h1, h2⟩ := sU_ok h h3
  obtain ⟨h4, h5⟩ := firstL_len (sU bs) n
  exact ⟨fun x hx => h1 x (h5 x hx), by omega⟩

set_option maxRecDepth 10000 in
theorem joinedF_spec (bs : List Int) (h : okB bs) (h3 : bs.length ≤ 3000) (n : Int) :
    CallsF Try.prog 34 [.ri .u8 bs, .fn 39 [.rp [iv n] 0]] [] (madeV (splitE bs) (firstL (sU bs) n)) [] := by
  have ks := split_spec bs h (by omega)
  obtain ⟨h1, hl⟩ := sU_ok h h3
  have kj := joinU (okL_first h h3 n)
  have k1 := unitsV_arg (rest := [.rp [iv n] 0]) (first1_spec (sU bs) (by omega) h1 n)
  unfold madeV
  change CallsF _ _ _ _ (.tup [unitsV (sU bs), iv (splitE bs)]) [] at ks
  generalize splitE bs = e at *
  by_cases he : e = 0
  · subst he
    rw [if_pos rfl]
    generalize joinL 0 (firstL (sU bs) n) = J at *
    rcases unitsV_two (sU bs) with hu | hu <;> rw [hu] at ks k1
    all_goals
      refine e34 ?_
      conv => whnf
      refine CallsF.call [] [] ks rfl rfl rfl rfl rfl (.inl rfl) ?_
      conv => whnf
      refine CallsF.call [] [] k1 rfl rfl rfl rfl rfl (.inl rfl) ?_
      conv => whnf
      refine CallsF.call [] [] kj rfl rfl rfl rfl rfl (.inl rfl) ?_
      conv => whnf
      exact ⟨[], [], rfl, rfl, rfl⟩
  · rw [if_neg he]
    rcases unitsV_two (sU bs) with hu | hu <;> rw [hu] at ks
    all_goals
      refine e34 ?_
      conv => whnf
      refine CallsF.call [] [] ks rfl rfl rfl rfl rfl (.inl rfl) ?_
      conv => whnf
      rw [show (e != 0) = true by simp [he]]
      conv => whnf
      exact ⟨[], [], rfl, rfl, rfl⟩

theorem first_spec (bs : List Int) (h : okB bs) (h3 : bs.length ≤ 3000) (n : Int) : CallsF Try.prog 16 [.ri .u8 bs, iv n] [] (madeV (splitE bs) (firstL (sU bs) n)) [] := by
  have k := joinedF_spec bs h h3 n
  unfold madeV at *
  generalize splitE bs = e at *
  by_cases he : e = 0
  · rw [if_pos he] at *
    refine e16 ?_
    conv => whnf
    refine CallsA.frz [0] ?_
    conv => whnf
    refine CallsF.call [] [] k rfl rfl rfl rfl rfl (.inl rfl) ?_
    conv => whnf
    exact ⟨[], [], rfl, rfl, rfl⟩
  · rw [if_neg he] at *
    refine e16 ?_
    conv => whnf
    refine CallsA.frz [0] ?_
    conv => whnf
    refine CallsF.call [] [] k rfl rfl rfl rfl rfl (.inl rfl) ?_
    conv => whnf
    exact ⟨[], [], rfl, rfl, rfl⟩


/-! Layer 39: the document's first pictures of a stream: the walk. -/

set_option maxRecDepth 10000 in
set_option maxHeartbeats 1000000 in
theorem rfirst_spec (L : List (Int × List Int)) (hL : L.length < 1000000) (n : Int) (hn : n ≤ 300) : CallsF Try.prog 17 [.ro 2 (L.map uRow), iv n] [] (unitsV (firstL L n)) [] := by
  obtain ⟨rows, hr⟩ : ∃ rows, L.map uRow = rows := ⟨_, rfl⟩
  have hrl : rows.length = L.length := by rw [← hr, List.length_map]
  rw [hr]
  refine e17 ?_
  conv => whnf
  refine LoopA.inv (fun m st => ∃ (i : Nat) (q : Int) (A : List (Int × List Int)), m + i = L.length ∧ q ≤ 300 ∧ A.length ≤ i ∧ firstL L n = A ++ firstL (L.drop i) q ∧ st = ⟨[(1, iv q), (5, accV (A.map uRow)), (8, .ro 2 rows), (9, iv (rows.length : Nat)), (10, iv i)], accH 2 (A.map uRow), (accH 2 (A.map uRow)).length, 0⟩) L.length [1, 5, 8, 9, 10] [] [] (by rfl) ?_ ?_
  · conv => whnf
    exact ⟨0, n, [], rfl, hn, Nat.le_refl _, rfl, rfl⟩
  rintro m st ⟨i, q, A, hm, hq, hAl, hf, rfl⟩
  obtain ⟨acc, hacc⟩ : ∃ acc, A.map uRow = acc := ⟨_, rfl⟩
  rw [hacc]
  have hal : acc.length ≤ i := by rw [← hacc, List.length_map]; exact hAl
  by_cases h1 : i < L.length
  · have hrow := uRow_at hr h1
    have hd : L.drop i = L[i] :: L.drop (i + 1) := List.drop_eq_getElem_cons h1
    have kp := rpicture_spec L[i]
    rw [hd, firstL_cons] at hf
    obtain ⟨c, d, hcd⟩ : ∃ c d, L[i] = (c, d) := ⟨_, _, rfl⟩
    rw [hcd] at hrow hf kp
    have hrow : nth rows (i : Int).toNat = some [iv c, .ri .u8 d] := hrow
    have kp : CallsF Try.prog 32 [.agg [iv c, .ri .u8 d]] [] (.bool (isP c)) [] := kp
    have hf : firstL L n = A ++ if isP c = true then if q ≤ 0 then [] else (c, d) :: firstL (L.drop (i + 1)) (q - 1) else (c, d) :: firstL (L.drop (i + 1)) q := hf
    have hst : ∀ (q' : Int) (st : St), st = ⟨[(1, iv q'), (5, .sl 0 0 (acc.length + 1)), (8, .ro 2 rows), (9, iv (rows.length : Nat)), (10, iv (i + 1 : Nat))], [some (.arr 2 (acc ++ [[iv c, .ri .u8 d]]))], 1, 0⟩ →
        st = ⟨[(1, iv q'), (5, accV ((A ++ [(c, d)]).map uRow)), (8, .ro 2 rows), (9, iv (rows.length : Nat)), (10, iv (i + 1 : Nat))], accH 2 ((A ++ [(c, d)]).map uRow), (accH 2 ((A ++ [(c, d)]).map uRow)).length, 0⟩ := by
      intro q' st h
      rw [h, uRow_snoc, hacc, accV_snoc, accH_snoc]; rfl
    have hsn : ∀ R : List (Int × List Int), A ++ (c, d) :: R = (A ++ [(c, d)]) ++ R := fun R => by rw [List.append_assoc]; rfl
    by_cases hne : acc = []
    · subst hne
      conv => whnf
      refine ifB_of (fun _ => ?_) (fun h => ((of_decide_eq_false h) (by omega)).elim)
      conv => whnf
      rw [aop_idxS_ro hrow rfl rfl]
      conv => whnf
      cases hp : isP c with
      | false =>
        rw [hp] at kp hf
        rw [if_neg (by decide), hsn] at hf
        refine CallsF.call [] [] kp rfl rfl rfl rfl rfl (.inl rfl) ?_
        conv => whnf
        rw [inc_nat i (by omega)]
        refine ⟨(m - 1), [1, 5, 8, 9, 10], [2], [], by omega, rfl, ?_⟩
        conv => whnf
        exact ⟨i + 1, q, A ++ [(c, d)], by omega, by omega, by simp; omega, hf, hst _ _ rfl⟩
      | true =>
        rw [hp] at kp hf
        rw [if_pos rfl] at hf
        refine CallsF.call [] [] kp rfl rfl rfl rfl rfl (.inl rfl) ?_
        conv => whnf
        refine ifB_of (fun h2 => ?_) (fun h2 => ?_)
        · have h2 := of_decide_eq_true h2
          rw [if_pos h2, List.append_nil] at hf
          rw [hf, unitsV_nil hacc]
          conv => whnf
          exact ⟨[], [], rfl, rfl, rfl⟩
        · have h2 := of_decide_eq_false h2
          rw [if_neg h2, hsn] at hf
          conv => whnf
          rw [inc_nat i (by omega), wrap_id (n := q - 1) (by omega) (by omega)]
          refine ⟨(m - 1), [1, 5, 8, 9, 10], [2], [], by omega, rfl, ?_⟩
          conv => whnf
          exact ⟨i + 1, q - 1, A ++ [(c, d)], by omega, by omega, by simp; omega, hf, hst _ _ rfl⟩
    · rw [accV_cons hne, accH_cons 2 hne]
      conv => whnf
      refine ifB_of (fun _ => ?_) (fun h => ((of_decide_eq_false h) (by omega)).elim)
      conv => whnf
      rw [aop_idxS_ro hrow rfl rfl]
      conv => whnf
      cases hp : isP c with
      | false =>
        rw [hp] at kp hf
        rw [if_neg (by decide), hsn] at hf
        refine CallsF.call [] [] kp rfl rfl rfl rfl rfl (.inl rfl) ?_
        conv => whnf
        refine need_of ((by rw [Bool.and_eq_true, decide_eq_true_iff]; exact ⟨⟨by omega, (show 33 * (acc.length + 1) ≤ 2 ^ 46 by omega)⟩, rfl⟩)) ?_
        conv => whnf
        rw [inc_nat i (by omega)]
        refine ⟨(m - 1), [1, 5, 8, 9, 10], [3], [], by omega, rfl, ?_⟩
        conv => whnf
        exact ⟨i + 1, q, A ++ [(c, d)], by omega, by omega, by simp; omega, hf, hst _ _ rfl⟩
      | true =>
        rw [hp] at kp hf
        rw [if_pos rfl] at hf
        refine CallsF.call [] [] kp rfl rfl rfl rfl rfl (.inl rfl) ?_
        conv => whnf
        refine ifB_of (fun h2 => ?_) (fun h2 => ?_)
        · have h2 := of_decide_eq_true h2
          rw [if_pos h2, List.append_nil] at hf
          rw [hf, ← unitsV_rows hacc hne]
          conv => whnf
          exact ⟨[], [0], rfl, rfl, rfl⟩
        · have h2 := of_decide_eq_false h2
          rw [if_neg h2, hsn] at hf
          conv => whnf
          refine need_of ((by rw [Bool.and_eq_true, decide_eq_true_iff]; exact ⟨⟨by omega, (show 33 * (acc.length + 1) ≤ 2 ^ 46 by omega)⟩, rfl⟩)) ?_
          conv => whnf
          rw [inc_nat i (by omega), wrap_id (n := q - 1) (by omega) (by omega)]
          refine ⟨(m - 1), [1, 5, 8, 9, 10], [3], [], by omega, rfl, ?_⟩
          conv => whnf
          exact ⟨i + 1, q - 1, A ++ [(c, d)], by omega, by omega, by simp; omega, hf, hst _ _ rfl⟩
  · have hie : i = L.length := by omega
    subst hie
    rw [List.drop_length] at hf
    rw [show firstL [] q = [] from rfl, List.append_nil] at hf
    rw [hf]
    by_cases hne : acc = []
    · subst hne
      rw [unitsV_nil hacc]
      conv => whnf
      refine ifB_of (fun h => absurd (of_decide_eq_true h) (by omega)) (fun _ => ?_)
      conv => whnf
      exact ⟨[], [], rfl, rfl, rfl⟩
    · rw [accV_cons hne, accH_cons 2 hne, ← unitsV_rows hacc hne]
      conv => whnf
      refine ifB_of (fun h => absurd (of_decide_eq_true h) (by omega)) (fun _ => ?_)
      conv => whnf
      exact ⟨[], [0], rfl, rfl, rfl⟩


end Go.Proofs.TryN

