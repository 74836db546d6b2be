/- Layer 25: the law of the play. -/
import Derived.Test.YtdjnndcdplgojaaN25J
namespace Go.Proofs.TryN
open Go Go.AL Go.Proofs Go.Sort Go.Shelf

theorem keys_at (L : List (Int × Int)) (j : Nat) (x : Int × Int) (h : L.drop j = x :: L.drop (j + 1)) : (L.map (fun x => x.1)).getD (j : Int).toNat 0 = x.1 := by
  have : L[j]? = some x := by
    rw [← List.head?_drop, h]; rfl
  rw [Int.toNat_natCast, List.getD_eq_getElem?_getD, List.getElem?_map, this]; rfl

structure Op where
  k : Int
  n : Int
  v : Int

def Op.row (o : Op) : List AV := [iv o.k, iv o.n, iv o.v]

theorem nbb (b : Bool) : (!(b == b)) = false := by cases b <;> rfl

set_option maxRecDepth 20000 in
set_option maxHeartbeats 4000000 in
theorem play_spec (O : List Op) (hO : O.length ≤ 9223372036854775807) : CallsF Try.prog 3 [.ro 3 (O.map Op.row)] [] (.bool true) [] := by
  obtain ⟨rows, hr⟩ : ∃ rows, O.map Op.row = rows := ⟨_, rfl⟩
  have hlen : rows.length ≤ 9223372036854775807 := by rw [← hr, List.length_map]; exact hO
  have hline : ∀ i : Nat, i < rows.length → ∃ o : Op, nth rows (i : Int).toNat = some o.row := by
    intro i hi
    subst hr
    rw [List.length_map] at hi
    refine ⟨O[i], ?_⟩
    rw [Int.toNat_natCast, nth_get, List.getElem?_map, List.getElem?_eq_getElem hi]; rfl
  rw [hr]
  clear hr hO O
  refine e3 ?_
  conv => whnf
  refine CallsF.call [] [] first_spec rfl rfl rfl rfl rfl (.inl rfl) ?_
  conv => whnf
  refine CallsF.call [] [] new_all rfl rfl rfl rfl rfl (.inl rfl) ?_
  conv => whnf
  refine ptw_le [0, 3, 4, 5] [0, 1, 2] [] ⟨[(0, .ro 3 rows), (3, .bp 0 0), (4, .bp 2 0), (5, .pnil)], bufH [] ++ refH [], 3, 0⟩ (by rfl) ⟨fun t => AV.le.refl _, rfl, rfl, ?_, rfl, rfl⟩ ?_
  · intro k x y hx hy
    match k, hx, hy with
    | 0, hx, hy => cases hx; cases hy; exact oleB.refl _
    | 1, hx, hy => cases hx; cases hy; exact oleB.refl _
    | 2, hx, hy =>
      cases hx; cases hy
      refine ⟨rfl, fun i x y hx hy => ?_⟩
      match i, hx, hy with
      | 0, hx, hy => cases hx; cases hy; exact AV.le.snil_o 10
      | i + 1, hx, hy => cases hx
    | k + 3, hx, hy => cases hx
  conv => whnf
  refine LoopA.inv (fun m st => ∃ (i : Nat) (B L : List (Int × Int)), m + i = rows.length ∧ Bf B L ∧ st = ⟨[(3, .bp 0 0), (4, .bp 2 0), (5, .pnil), (22, .ro 3 rows), (23, iv (rows.length : Nat)), (24, iv i)], bufH B ++ refH L, 3, 0⟩) rows.length [3, 4, 5, 22, 23, 24] [0, 1, 2] [] (by rfl) ?_ ?_
  · conv => whnf
    exact ⟨0, [], [], rfl, Bf.fresh, rfl⟩
  rintro m st ⟨i, B, L, hm, hB, rfl⟩
  have hl := hB.len
  unfold bufH refH
  conv => whnf
  refine ifB_of (fun h1 => ?_) (fun h1 => ?_)
  · have h1 : i < rows.length := by have := of_decide_eq_true h1; omega
    obtain ⟨⟨k, n, v⟩, ho⟩ := hline i h1
    conv => whnf
    rw [aop_idxS_ro ho rfl rfl]
    conv => whnf
    refine need_of ((decide_eq_true (Int.natCast_nonneg i))) ?_
    conv => whnf
    refine ifB_of (fun h2 => ?_) (fun h2 => ?_)
    · conv => whnf
      refine CallsF.call [] [] numbers_nil rfl rfl rfl rfl rfl (.inl rfl) ?_
      conv => whnf
      exact ⟨[], [], rfl, rfl, rfl⟩
    have h2 : i < 60 := by have := of_decide_eq_false h2; omega
    clear ho hline
    conv => whnf
    generalize (IntKind.u64.wrap k).tmod 3 = q
    refine ifB_of (fun h3 => ?_) (fun h3 => ?_)
    · conv => whnf
      obtain ⟨B2, hB2, kp⟩ := put_all n v hB
      have kr := rput_all n v L hl
      obtain ⟨L2, hL2⟩ : ∃ L2, putL n v L = L2 := ⟨_, rfl⟩
      rw [hL2] at hB2 kr
      generalize putE n L = ee at *
      clear hL2 hB
      refine CallsF.call [] [] (one_spec v) rfl rfl rfl rfl rfl (.inl rfl) ?_
      conv => whnf
      refine ⟨.inl ⟨_, rfl⟩, ?_⟩
      conv => whnf
      refine CallsF.call [0, 1] [] kp rfl rfl rfl rfl rfl (.inl rfl) ?_
      conv => whnf
      refine ⟨.inr (by repeat (first | exact same_nil | refine same_of rfl ?_)), ?_⟩
      conv => whnf
      refine CallsF.call [] [] (one_spec v) rfl rfl rfl rfl rfl (.inl rfl) ?_
      conv => whnf
      refine ⟨.inl ⟨_, rfl⟩, ?_⟩
      conv => whnf
      refine CallsF.call [2] [] kr rfl rfl rfl rfl rfl (.inl rfl) ?_
      conv => whnf
      rw [neq_self]
      conv => whnf
      refine CallsF.call [] [] (one_spec v) rfl rfl rfl rfl rfl (.inl rfl) ?_
      conv => whnf
      refine ⟨.inl ⟨_, rfl⟩, ?_⟩
      conv => whnf
      refine CallsF.call [] [] (put_nil n v) rfl rfl rfl rfl rfl (.inl rfl) ?_
      conv => whnf
      first | refine pt_of [3, 4, 5, 22, 23, 24] [0, 1, 2] [] (by rfl) ?_ | refine ptw_of [3, 4, 5, 22, 23, 24] [0, 1, 2] [] (by rfl) ?_
      conv => whnf
      refine CallsF.call [0, 1] [] (numbers_all hB2) rfl rfl rfl rfl rfl (.inl rfl) ?_
      conv => whnf
      have e1 : ((((L2.map (fun x => x.1)).length : Nat) : Int) != (((L2.map irow).length : Nat) : Int)) = false := by simp
      rw [e1]
      clear e1
      conv => whnf
      have hat := rows_at L2
      have hkey := keys_at L2
      have hle : (L2.map irow).length = (L2.map (fun x => x.1)).length := by simp
      have hl4 : (L2.map irow).length ≤ 4 := by have := hB2.len; simpa using this
      generalize L2.map (fun x => x.1) = ks at *
      obtain ⟨rs, hrs⟩ : ∃ rs, L2.map irow = rs := ⟨_, rfl⟩
      rw [hrs] at hat hle hl4 ⊢
      refine LoopA.inv (fun m2 st => ∃ j : Nat, m2 + j = ks.length ∧ st = ⟨[(3, .bp 0 0), (4, .bp 2 0), (5, .pnil), (22, .ro 3 rows), (23, iv (rows.length : Nat)), (24, iv i), (122, .ri .i64 ks), (123, iv (ks.length : Nat)), (124, iv j)], bufH B2 ++ [some (.box [.ro 10 rs])], 3, 0⟩) ks.length [3, 4, 5, 22, 23, 24, 122, 123, 124] [0, 1, 2] [] (by rfl) ?_ ?_
      · conv => whnf
        exact ⟨0, rfl, rfl⟩
      · rintro m2 st ⟨j, hm2, rfl⟩
        conv => whnf
        refine ifB_of (fun h7 => ?_) (fun h7 => ?_)
        · have h7 : j < ks.length := by have := of_decide_eq_true h7; omega
          obtain ⟨x, hx, hd⟩ := hat j (by omega)
          have hk := hkey j x hd
          conv => whnf
          refine need_of ((decide_eq_true ⟨Int.natCast_nonneg j, by omega⟩)) ?_
          conv => whnf
          rw [aop_idxS_ro hx rfl rfl]
          conv => whnf
          refine need_of ((decide_eq_true (Int.natCast_nonneg j))) ?_
          conv => whnf
          rw [hk, neq_self]
          conv => whnf
          rw [inc_nat j (by omega)]
          refine ⟨(ks.length - (j + 1)), [3, 4, 5, 22, 23, 24, 122, 123, 124], [0, 1, 2], [], by omega, rfl, ?_⟩
          conv => whnf
          exact ⟨j + 1, by omega, rfl⟩
        conv => whnf
        rw [inc_nat i (by omega)]
        refine ⟨(rows.length - (i + 1)), [3, 4, 5, 22, 23, 24], [0, 1, 2], [], by omega, rfl, ?_⟩
        conv => whnf
        exact ⟨i + 1, B2, L2, by omega, hB2, by first | (rw [hrs]; done) | (rw [hrs]; rfl)⟩
    conv => whnf
    refine ifB_of (fun h4 => ?_) (fun h4 => ?_)
    · conv => whnf
      have kg := get_all n hB
      have kr := rget_all n L hl
      have ks := sameO (lk n L)
      generalize lk n L = o at kg kr ks
      cases o
      · refine CallsF.call [0, 1] [] kg rfl rfl rfl rfl rfl (.inl rfl) ?_
        conv => whnf
        refine CallsF.call [2] [] kr rfl rfl rfl rfl rfl (.inl rfl) ?_
        conv => whnf
        refine CallsF.call [] [] (get_nil n) rfl rfl rfl rfl rfl (.inl rfl) ?_
        conv => whnf
        refine CallsF.call [] [] ks rfl rfl rfl rfl rfl (.inl rfl) ?_
        conv => whnf
        obtain ⟨B2, L2, hB2e, hL2e, hB2⟩ : ∃ B2 L2, B2 = B ∧ L2 = L ∧ Bf B2 L2 := ⟨B, L, rfl, rfl, hB⟩
        rw [← hB2e, ← hL2e]
        clear hB2e hL2e
        first | refine pt_of [3, 4, 5, 22, 23, 24] [0, 1, 2] [] (by rfl) ?_ | refine ptw_of [3, 4, 5, 22, 23, 24] [0, 1, 2] [] (by rfl) ?_
        conv => whnf
        refine CallsF.call [0, 1] [] (numbers_all hB2) rfl rfl rfl rfl rfl (.inl rfl) ?_
        conv => whnf
        have e1 : ((((L2.map (fun x => x.1)).length : Nat) : Int) != (((L2.map irow).length : Nat) : Int)) = false := by simp
        rw [e1]
        clear e1
        conv => whnf
        have hat := rows_at L2
        have hkey := keys_at L2
        have hle : (L2.map irow).length = (L2.map (fun x => x.1)).length := by simp
        have hl4 : (L2.map irow).length ≤ 4 := by have := hB2.len; simpa using this
        generalize L2.map (fun x => x.1) = ks at *
        obtain ⟨rs, hrs⟩ : ∃ rs, L2.map irow = rs := ⟨_, rfl⟩
        rw [hrs] at hat hle hl4 ⊢
        refine LoopA.inv (fun m2 st => ∃ j : Nat, m2 + j = ks.length ∧ st = ⟨[(3, .bp 0 0), (4, .bp 2 0), (5, .pnil), (22, .ro 3 rows), (23, iv (rows.length : Nat)), (24, iv i), (122, .ri .i64 ks), (123, iv (ks.length : Nat)), (124, iv j)], bufH B2 ++ [some (.box [.ro 10 rs])], 3, 0⟩) ks.length [3, 4, 5, 22, 23, 24, 122, 123, 124] [0, 1, 2] [] (by rfl) ?_ ?_
        · conv => whnf
          exact ⟨0, rfl, rfl⟩
        · rintro m2 st ⟨j, hm2, rfl⟩
          conv => whnf
          refine ifB_of (fun h7 => ?_) (fun h7 => ?_)
          · have h7 : j < ks.length := by have := of_decide_eq_true h7; omega
            obtain ⟨x, hx, hd⟩ := hat j (by omega)
            have hk := hkey j x hd
            conv => whnf
            refine need_of ((decide_eq_true ⟨Int.natCast_nonneg j, by omega⟩)) ?_
            conv => whnf
            rw [aop_idxS_ro hx rfl rfl]
            conv => whnf
            refine need_of ((decide_eq_true (Int.natCast_nonneg j))) ?_
            conv => whnf
            rw [hk, neq_self]
            conv => whnf
            rw [inc_nat j (by omega)]
            refine ⟨(ks.length - (j + 1)), [3, 4, 5, 22, 23, 24, 122, 123, 124], [0, 1, 2], [], by omega, rfl, ?_⟩
            conv => whnf
            exact ⟨j + 1, by omega, rfl⟩
          conv => whnf
          rw [inc_nat i (by omega)]
          refine ⟨(rows.length - (i + 1)), [3, 4, 5, 22, 23, 24], [0, 1, 2], [], by omega, rfl, ?_⟩
          conv => whnf
          exact ⟨i + 1, B2, L2, by omega, hB2, by first | (rw [hrs]; done) | (rw [hrs]; rfl)⟩
      · refine CallsF.call [0, 1] [] kg rfl rfl rfl rfl rfl (.inl rfl) ?_
        conv => whnf
        refine CallsF.call [2] [] kr rfl rfl rfl rfl rfl (.inl rfl) ?_
        conv => whnf
        refine CallsF.call [] [] (get_nil n) rfl rfl rfl rfl rfl (.inl rfl) ?_
        conv => whnf
        refine CallsF.call [] [] ks rfl rfl rfl rfl rfl (.inl rfl) ?_
        conv => whnf
        obtain ⟨B2, L2, hB2e, hL2e, hB2⟩ : ∃ B2 L2, B2 = B ∧ L2 = L ∧ Bf B2 L2 := ⟨B, L, rfl, rfl, hB⟩
        rw [← hB2e, ← hL2e]
        clear hB2e hL2e
        first | refine pt_of [3, 4, 5, 22, 23, 24] [0, 1, 2] [] (by rfl) ?_ | refine ptw_of [3, 4, 5, 22, 23, 24] [0, 1, 2] [] (by rfl) ?_
        conv => whnf
        refine CallsF.call [0, 1] [] (numbers_all hB2) rfl rfl rfl rfl rfl (.inl rfl) ?_
        conv => whnf
        have e1 : ((((L2.map (fun x => x.1)).length : Nat) : Int) != (((L2.map irow).length : Nat) : Int)) = false := by simp
        rw [e1]
        clear e1
        conv => whnf
        have hat := rows_at L2
        have hkey := keys_at L2
        have hle : (L2.map irow).length = (L2.map (fun x => x.1)).length := by simp
        have hl4 : (L2.map irow).length ≤ 4 := by have := hB2.len; simpa using this
        generalize L2.map (fun x => x.1) = ks at *
        obtain ⟨rs, hrs⟩ : ∃ rs, L2.map irow = rs := ⟨_, rfl⟩
        rw [hrs] at hat hle hl4 ⊢
        refine LoopA.inv (fun m2 st => ∃ j : Nat, m2 + j = ks.length ∧ st = ⟨[(3, .bp 0 0), (4, .bp 2 0), (5, .pnil), (22, .ro 3 rows), (23, iv (rows.length : Nat)), (24, iv i), (122, .ri .i64 ks), (123, iv (ks.length : Nat)), (124, iv j)], bufH B2 ++ [some (.box [.ro 10 rs])], 3, 0⟩) ks.length [3, 4, 5, 22, 23, 24, 122, 123, 124] [0, 1, 2] [] (by rfl) ?_ ?_
        · conv => whnf
          exact ⟨0, rfl, rfl⟩
        · rintro m2 st ⟨j, hm2, rfl⟩
          conv => whnf
          refine ifB_of (fun h7 => ?_) (fun h7 => ?_)
          · have h7 : j < ks.length := by have := of_decide_eq_true h7; omega
            obtain ⟨x, hx, hd⟩ := hat j (by omega)
            have hk := hkey j x hd
            conv => whnf
            refine need_of ((decide_eq_true ⟨Int.natCast_nonneg j, by omega⟩)) ?_
            conv => whnf
            rw [aop_idxS_ro hx rfl rfl]
            conv => whnf
            refine need_of ((decide_eq_true (Int.natCast_nonneg j))) ?_
            conv => whnf
            rw [hk, neq_self]
            conv => whnf
            rw [inc_nat j (by omega)]
            refine ⟨(ks.length - (j + 1)), [3, 4, 5, 22, 23, 24, 122, 123, 124], [0, 1, 2], [], by omega, rfl, ?_⟩
            conv => whnf
            exact ⟨j + 1, by omega, rfl⟩
          conv => whnf
          rw [inc_nat i (by omega)]
          refine ⟨(rows.length - (i + 1)), [3, 4, 5, 22, 23, 24], [0, 1, 2], [], by omega, rfl, ?_⟩
          conv => whnf
          exact ⟨i + 1, B2, L2, by omega, hB2, by first | (rw [hrs]; done) | (rw [hrs]; rfl)⟩
    conv => whnf
    have kg := retire_all n hB
    have kr := rretire_all n L hl
    have hB2 := hB.bar n
    generalize (lk n L).isSome = bb at *
    generalize bar n B = B2 at *
    generalize bar n L = L2 at *
    refine CallsF.call [0, 1] [] kg rfl rfl rfl rfl rfl (.inl rfl) ?_
    conv => whnf
    refine ⟨.inr (by repeat (first | exact same_nil | refine same_of rfl ?_)), ?_⟩
    conv => whnf
    refine CallsF.call [2] [] kr rfl rfl rfl rfl rfl (.inl rfl) ?_
    conv => whnf
    rw [nbb]
    conv => whnf
    refine CallsF.call [] [] (retire_nil n) rfl rfl rfl rfl rfl (.inl rfl) ?_
    conv => whnf
    first | refine pt_of [3, 4, 5, 22, 23, 24] [0, 1, 2] [] (by rfl) ?_ | refine ptw_of [3, 4, 5, 22, 23, 24] [0, 1, 2] [] (by rfl) ?_
    conv => whnf
    refine CallsF.call [0, 1] [] (numbers_all hB2) rfl rfl rfl rfl rfl (.inl rfl) ?_
    conv => whnf
    have e1 : ((((L2.map (fun x => x.1)).length : Nat) : Int) != (((L2.map irow).length : Nat) : Int)) = false := by simp
    rw [e1]
    clear e1
    conv => whnf
    have hat := rows_at L2
    have hkey := keys_at L2
    have hle : (L2.map irow).length = (L2.map (fun x => x.1)).length := by simp
    have hl4 : (L2.map irow).length ≤ 4 := by have := hB2.len; simpa using this
    generalize L2.map (fun x => x.1) = ks at *
    obtain ⟨rs, hrs⟩ : ∃ rs, L2.map irow = rs := ⟨_, rfl⟩
    rw [hrs] at hat hle hl4 ⊢
    refine LoopA.inv (fun m2 st => ∃ j : Nat, m2 + j = ks.length ∧ st = ⟨[(3, .bp 0 0), (4, .bp 2 0), (5, .pnil), (22, .ro 3 rows), (23, iv (rows.length : Nat)), (24, iv i), (122, .ri .i64 ks), (123, iv (ks.length : Nat)), (124, iv j)], bufH B2 ++ [some (.box [.ro 10 rs])], 3, 0⟩) ks.length [3, 4, 5, 22, 23, 24, 122, 123, 124] [0, 1, 2] [] (by rfl) ?_ ?_
    · conv => whnf
      exact ⟨0, rfl, rfl⟩
    · rintro m2 st ⟨j, hm2, rfl⟩
      conv => whnf
      refine ifB_of (fun h7 => ?_) (fun h7 => ?_)
      · have h7 : j < ks.length := by have := of_decide_eq_true h7; omega
        obtain ⟨x, hx, hd⟩ := hat j (by omega)
        have hk := hkey j x hd
        conv => whnf
        refine need_of ((decide_eq_true ⟨Int.natCast_nonneg j, by omega⟩)) ?_
        conv => whnf
        rw [aop_idxS_ro hx rfl rfl]
        conv => whnf
        refine need_of ((decide_eq_true (Int.natCast_nonneg j))) ?_
        conv => whnf
        rw [hk, neq_self]
        conv => whnf
        rw [inc_nat j (by omega)]
        refine ⟨(ks.length - (j + 1)), [3, 4, 5, 22, 23, 24, 122, 123, 124], [0, 1, 2], [], by omega, rfl, ?_⟩
        conv => whnf
        exact ⟨j + 1, by omega, rfl⟩
      conv => whnf
      rw [inc_nat i (by omega)]
      refine ⟨(rows.length - (i + 1)), [3, 4, 5, 22, 23, 24], [0, 1, 2], [], by omega, rfl, ?_⟩
      conv => whnf
      exact ⟨i + 1, B2, L2, by omega, hB2, by first | (rw [hrs]; done) | (rw [hrs]; rfl)⟩
  conv => whnf
  refine CallsF.call [] [] numbers_nil rfl rfl rfl rfl rfl (.inl rfl) ?_
  conv => whnf
  exact ⟨[], [], rfl, rfl, rfl⟩

end Go.Proofs.TryN

