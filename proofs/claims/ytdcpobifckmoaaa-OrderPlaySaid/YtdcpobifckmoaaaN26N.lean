/- Layer 26: the law of the play. -/
import Derived.Test.YtdcpobifckmoaaaN26M
namespace Go.Proofs.TryN
open Go Go.AL Go.Proofs

theorem nextW (next : Int) (W : List (Int × Int)) : CallsF Try.prog 12 [.bp 0 0] [some (.box [iv next, .sl 1 0 W.length]), some (.arr 10 (irows W))] (iv next) [some (.box [iv next, .sl 1 0 W.length]), some (.arr 10 (irows W))] := by
  have := next_spec next (irows W)
  rwa [irows, List.length_map] at this
theorem endW (next : Int) (W : List (Int × Int)) : CallsF Try.prog 11 [.bp 0 0] [some (.box [iv next, .sl 1 0 W.length]), some (.arr 10 (irows W))] (iv (if W = [] then 0 else 260)) [some (.box [iv next, .sl 1 0 W.length]), some (.arr 10 (irows W))] := by
  have := end_spec next (irows W)
  rw [irows, List.length_map] at this
  simpa [irows] using this

theorem leL_fresh : LeL [AV.int .i64 0, .bool false, .bool false, .bool false, .bool false, .bool false, .bool false, .bool false, .bool false, .bool false, .int .i64 0, .int .i64 0, .snil, .int .i64 0, .int .i64 0, .snil, .int .i64 0, .int .i64 0, .snil, .int .i64 0, .int .i64 0, .snil, .int .i64 0, .int .i64 0, .snil, .int .i64 0, .int .i64 0, .snil, .int .i64 0, .int .i64 0, .snil, .int .i64 0, .int .i64 0, .snil, .int .i64 0, .int .i64 0, .snil, .int .i64 0, .int .i64 0, .snil, .int .i64 0, .int .i64 0, .snil, .int .i64 0, .int .i64 0, .snil, .int .i64 0, .int .i64 0, .snil, .int .i64 0, .int .i64 0, .snil, .int .i64 0, .int .i64 0, .snil, .int .i64 0, .int .i64 0, .snil, .int .i64 0, .int .i64 0, .snil, .int .i64 0, .int .i64 0, .snil, .int .i64 0, .int .i64 0, .snil, .int .i64 0, .int .i64 0, .snil, .int .i64 0, .int .i64 0, .snil, .int .i64 0, .int .i64 0, .snil, .int .i64 0, .int .i64 0, .snil, .int .i64 0, .int .i64 0, .snil, .int .i64 0, .int .i64 0, .snil, .int .i64 0, .int .i64 0, .snil, .int .i64 0, .int .i64 0, .snil] (qcells 0 (fun _ => false) (fun _ => Fr.zero)) := by
  unfold qcells
  repeat (first | exact LeL.nil | refine LeL.cons (AV.le.refl _) ?_ | refine LeL.cons (AV.le.snil _) ?_)

theorem nbb (b : Bool) : (!(b == b)) = false := by cases b <;> rfl

theorem box_le {cs ds : List AV} (h : LeL cs ds) : (ABlk.box cs).le (.box ds) := ⟨h.get.1, h.get.2⟩

set_option maxRecDepth 20000 in
set_option maxHeartbeats 8000000 in
theorem play_spec (L : List Ln) (hL : ∀ l ∈ L, -9223372036854775808 ≤ l.n ∧ l.n ≤ 9223372036854775807) : CallsF Try.prog 4 [.ro 4 (L.map Ln.row)] [] (.bool true) [] := by
  obtain ⟨rows, hr⟩ : ∃ rows, L.map Ln.row = rows := ⟨_, rfl⟩
  have hline : ∀ i : Nat, i < rows.length → ∃ l : Ln, nth rows (i : Int).toNat = some l.row ∧ -9223372036854775808 ≤ l.n ∧ l.n ≤ 9223372036854775807 := by
    intro i hi
    subst hr
    rw [List.length_map] at hi
    refine ⟨L[i], ?_, hL _ (List.getElem_mem hi)⟩
    rw [Int.toNat_natCast, nth_get, List.getElem?_map, List.getElem?_eq_getElem hi]; rfl
  rw [hr]
  clear hr hL L
  refine e4 ?_
  conv => whnf
  refine CallsF.call [] [] first_spec rfl rfl rfl rfl rfl (.inl rfl) ?_
  conv => whnf
  refine CallsF.call [] [] new_spec rfl rfl rfl rfl rfl (.inl rfl) ?_
  conv => whnf
  refine ptw_le [0, 3, 4, 5] [0, 1] [] ⟨[(0, .ro 4 rows), (3, .bp 0 0), (4, .bp 1 0), (5, .pnil)], [some (.box [iv 0, .snil]), some (.box (qcells 0 (fun _ => false) (fun _ => Fr.zero)))], 2, 0⟩ (by rfl) ⟨fun t => AV.le.refl _, rfl, rfl, ?_, rfl, rfl⟩ ?_
  · intro k x y hx hy
    match k, hx, hy with
    | 0, hx, hy => cases hx; cases hy; exact oleB.refl _
    | 1, hx, hy => cases hx; cases hy; exact box_le leL_fresh
    | k + 2, hx, hy => cases hx
  conv => whnf
  refine LoopA.inv (fun n st => ∃ (i : Nat) (next : Int) (W : List (Int × Int)) (H : Nat → Bool) (F : Nat → Fr), n + i = rows.length ∧ 0 ≤ next ∧ next ≤ 9 * i ∧ Waits next W ∧ RQ next W H F ∧ ((next = 0 ∧ W = [] ∧ st = ⟨[(3, .bp 0 0), (4, .bp 1 0), (5, .pnil), (20, .ro 4 rows), (21, iv (rows.length : Nat)), (22, iv i)], [some (.box [iv 0, .snil]), some (.box (qcells 0 H F))], 2, 0⟩) ∨ st = ⟨[(3, .bp 0 0), (4, .bp 2 0), (5, .pnil), (20, .ro 4 rows), (21, iv (rows.length : Nat)), (22, iv i)], [some (.box [iv next, .sl 1 0 W.length]), some (.arr 10 (irows W)), some (.box (qcells next H F))], 3, 0⟩)) rows.length [3, 4, 5, 20, 21, 22] [0, 1] [] (by rfl) ?_ ?_
  · conv => whnf
    exact ⟨0, 0, [], _, _, rfl, by omega, by omega, Waits.fresh, RQ.fresh, .inl ⟨rfl, rfl, rfl⟩⟩
  rintro n st ⟨i, next, W, H, F, hn, hn0, hn9, hW, q, ⟨rfl, rfl, rfl⟩ | rfl⟩
  · conv => whnf
    refine ifB_of (fun h1 => ?_) (fun h1 => ?_)
    · have h1 : i < rows.length := by have := of_decide_eq_true h1; omega
      obtain ⟨⟨k, nn, v, nr⟩, hl, hnn⟩ := hline i h1
      conv => whnf
      rw [aop_idxS_ro hl rfl rfl]
      conv => whnf
      refine ifB_of (fun h2 => ?_) (fun h2 => ?_)
      · conv => whnf
        refine CallsF.call [] [] next_nil rfl rfl rfl rfl rfl (.inl rfl) ?_
        conv => whnf
        refine CallsF.call [] [] waiting_nil rfl rfl rfl rfl rfl (.inl rfl) ?_
        conv => whnf
        refine CallsF.call [] [] end_nil rfl rfl rfl rfl rfl (.inl rfl) ?_
        conv => whnf
        exact ⟨[], [], rfl, rfl, rfl⟩
      have h2 : i < 80 := by have := of_decide_eq_false h2; omega
      clear hl hline
      conv => whnf
      refine ifB_of (fun h3 => ?_) (fun h3 => ?_)
      · cases nr
        · conv => whnf
          first | refine pt_of [3, 4, 5, 7, 8, 20, 21, 22] [0, 1, 2] [] (by rfl) ?_ | refine ptw_of [3, 4, 5, 7, 8, 20, 21, 22] [0, 1, 2] [] (by rfl) ?_
          conv => whnf
          have kx := rput_spec 0 [] H F Waits.fresh q nn v
          by_cases hbad : nn < 0 ∨ 8 < nn
          · have kq := put0_no 0 (by omega) nn v hnn (by omega)
            have eE : putE 0 [] nn = if nn < 0 then 251 else 260 := by
              unfold putE
              by_cases hc : nn < 0
              · rw [if_pos hc, if_pos hc]
              · rw [if_neg hc, if_neg hc, if_pos (by omega)]
            have eQ : putQ 0 [] nn v = [] := by
              unfold putQ
              by_cases hc : nn < 0
              · rw [if_pos hc]
              · rw [if_neg hc, if_pos (by omega)]
            rw [eE, eQ] at kx
            generalize (if nn < 0 then (251 : Int) else 260) = e at *
            refine CallsF.call [] [] (one_spec v) rfl rfl rfl rfl rfl (.inl rfl) ?_
            conv => whnf
            refine ⟨.inl ⟨_, rfl⟩, ?_⟩
            conv => whnf
            refine CallsF.call [0] [] kq rfl rfl rfl rfl rfl (.inl rfl) ?_
            conv => whnf
            refine ⟨.inl ⟨_, rfl⟩, ?_⟩
            conv => whnf
            refine CallsF.call [] [] (one_spec v) rfl rfl rfl rfl rfl (.inl rfl) ?_
            conv => whnf
            refine CallsA.call [1] [] kx rfl rfl rfl rfl rfl ?_
            rintro r h' ⟨rfl, H', F', q', rfl⟩
            refine ⟨.inl rfl, ?_⟩
            conv => whnf
            rw [neq_self]
            conv => whnf
            refine CallsF.call [] [] (one_spec 0) rfl rfl rfl rfl rfl (.inl rfl) ?_
            conv => whnf
            refine CallsF.call [] [] (put_nil nn 0) rfl rfl rfl rfl rfl (.inl rfl) ?_
            conv => whnf
            first | refine pt_of [3, 4, 5, 20, 21, 22] [0, 1] [] (by rfl) ?_ | refine ptw_of [3, 4, 5, 20, 21, 22] [0, 1] [] (by rfl) ?_
            conv => whnf
            refine CallsF.call [0] [] (waiting0_spec 0) rfl rfl rfl rfl rfl (.inl rfl) ?_
            conv => whnf
            refine CallsF.call [1] [] (rwaiting2_spec 0 [] H' F' Waits.fresh q') rfl rfl rfl rfl rfl (.inl rfl) ?_
            conv => whnf
            first | refine pt_of [3, 4, 5, 12, 13, 20, 21, 22] [0, 1] [] (by rfl) ?_ | refine ptw_of [3, 4, 5, 12, 13, 20, 21, 22] [0, 1] [] (by rfl) ?_
            conv => whnf
            refine CallsF.call [0] [] (next0_spec 0) rfl rfl rfl rfl rfl (.inl rfl) ?_
            conv => whnf
            refine ⟨.inl ⟨_, rfl⟩, ?_⟩
            conv => whnf
            refine CallsF.call [0] [] (end0_spec 0) rfl rfl rfl rfl rfl (.inl rfl) ?_
            conv => whnf
            first | refine pt_of [3, 4, 5, 12, 13, 20, 21, 22] [0, 1] [] (by rfl) ?_ | refine ptw_of [3, 4, 5, 12, 13, 20, 21, 22] [0, 1] [] (by rfl) ?_
            conv => whnf
            refine LoopA.steps 1 [3, 4, 5, 20, 21, 22, 141, 142] [0, 1] [] (by rfl) ?_
            conv => whnf
            rw [inc_nat i (by omega)]
            refine ⟨(rows.length - (i + 1)), [3, 4, 5, 20, 21, 22], [0, 1], [], by omega, rfl, ?_⟩
            conv => whnf
            exact ⟨i + 1, 0, [], H', F', by omega, by omega, by omega, Waits.fresh, q', .inl ⟨rfl, rfl, rfl⟩⟩
          · have kq := put0_spec 0 (by omega) nn v hnn (by omega) (by omega)
            have eE : putE 0 [] nn = 0 := by
              unfold putE
              rw [if_neg (by omega), if_neg (by omega)]; rfl
            have eQ : putQ 0 [] nn v = [(nn, v)] := by
              unfold putQ
              rw [if_neg (by omega), if_neg (by omega)]; rfl
            have hW2 := Waits.fresh.putQ nn v
            rw [eE, eQ] at kx
            rw [eQ] at hW2
            refine CallsF.call [] [] (one_spec v) rfl rfl rfl rfl rfl (.inl rfl) ?_
            conv => whnf
            refine ⟨.inl ⟨_, rfl⟩, ?_⟩
            conv => whnf
            refine CallsF.call [0] [] kq rfl rfl rfl rfl rfl (.inl rfl) ?_
            conv => whnf
            refine ⟨.inr (by repeat (first | exact same_nil | refine same_of rfl ?_)), ?_⟩
            conv => whnf
            refine CallsF.call [] [] (one_spec v) rfl rfl rfl rfl rfl (.inl rfl) ?_
            conv => whnf
            refine CallsA.call [1] [] kx rfl rfl rfl rfl rfl ?_
            rintro r h' ⟨rfl, H', F', q', rfl⟩
            refine ⟨.inl rfl, ?_⟩
            conv => whnf
            refine CallsF.call [] [] (one_spec 0) rfl rfl rfl rfl rfl (.inl rfl) ?_
            conv => whnf
            refine CallsF.call [] [] (put_nil nn 0) rfl rfl rfl rfl rfl (.inl rfl) ?_
            conv => whnf
            obtain ⟨W2, hWe⟩ : ∃ W2, [(nn, v)] = W2 := ⟨_, rfl⟩
            have hW1 : W2.length = 1 := by rw [← hWe]; rfl
            first | refine pt_of [3, 4, 5, 20, 21, 22] [0, 3, 1] [] (by rfl) ?_ | refine ptw_of [3, 4, 5, 20, 21, 22] [0, 3, 1] [] (by rfl) ?_
            conv => whnf
            have hl9 := hW2.len_le
            have kw := waiting_spec 0 [(nn, v)] hl9
            have kx2 := rwaiting2_spec 0 [(nn, v)] H' F' hW2 q'
            have kn := nextW 0 [(nn, v)]
            have ke := endW 0 [(nn, v)]
            have hxl : (nums [(nn, v)]).length = [(nn, v)].length := by rw [nums, List.length_map]
            have he0 : [(nn, v)] = [] ↔ nums [(nn, v)] = [] := by unfold nums; rw [List.map_eq_nil_iff]
            obtain ⟨xs, hxs⟩ : ∃ xs, nums [(nn, v)] = xs := ⟨_, rfl⟩
            rw [hxs] at kw kx2 hxl he0
            obtain ⟨e2, hE⟩ : ∃ e : Int, (if [(nn, v)] = [] then (0 : Int) else 260) = e := ⟨_, rfl⟩
            rw [hE] at ke
            have hb1 : (e2 == 0) = ((xs.length : Int) == 0) := by
              rw [← hE]
              by_cases hc : [(nn, v)] = []
              · rw [if_pos hc, he0.1 hc]; rfl
              · rw [if_neg hc]
                have : ¬ (xs.length : Int) = 0 := fun h => hc (he0.2 (List.eq_nil_of_length_eq_zero (by omega)))
                rw [beq_eq_false_iff_ne.2 this]; rfl
            have he2 : 0 < xs.length → e2 = 260 := fun h => by rw [← hE, if_neg (fun hc => by rw [he0.1 hc] at h; simp at h)]
            clear hE he0
            refine CallsF.call [0, 1] [] kw rfl rfl rfl rfl rfl (.inl rfl) ?_
            conv => whnf
            refine CallsF.call [2] [] kx2 rfl rfl rfl rfl rfl (.inl rfl) ?_
            conv => whnf
            first | refine pt_of [3, 4, 5, 12, 13, 20, 21, 22] [0, 1, 2] [] (by rfl) ?_ | refine ptw_of [3, 4, 5, 12, 13, 20, 21, 22] [0, 1, 2] [] (by rfl) ?_
            conv => whnf
            rw [neq_self]
            conv => whnf
            refine CallsF.call [0, 1] [] kn rfl rfl rfl rfl rfl (.inl rfl) ?_
            conv => whnf
            refine ⟨.inl ⟨_, rfl⟩, ?_⟩
            conv => whnf
            rw [neq_self]
            conv => whnf
            refine CallsF.call [0, 1] [] ke rfl rfl rfl rfl rfl (.inl rfl) ?_
            conv => whnf
            rw [hb1, nbb]
            conv => whnf
            refine ifB_of (fun h7 => ?_) (fun h7 => ?_)
            · have h7 : 0 < xs.length := by have := of_decide_eq_true h7; omega
              obtain rfl := he2 h7
              conv => whnf
              refine CallsF.call [0, 1] [] ke rfl rfl rfl rfl rfl (.inl rfl) ?_
              conv => whnf
              first | refine pt_of [3, 4, 5, 12, 13, 20, 21, 22] [0, 1, 2] [] (by rfl) ?_ | refine ptw_of [3, 4, 5, 12, 13, 20, 21, 22] [0, 1, 2] [] (by rfl) ?_
              conv => whnf

              refine LoopA.inv (fun m st => ∃ k : Nat, m + k = xs.length ∧ st = ⟨[(3, .bp 0 0), (4, .bp 2 0), (5, .pnil), (12, .ri .i64 xs), (13, .ri .i64 xs), (20, .ro 4 rows), (21, iv (rows.length : Nat)), (22, iv i), (141, iv (xs.length : Nat)), (142, iv k)], [some (.box [iv 0, .sl 1 0 [(nn, v)].length]), some (.arr 10 (irows [(nn, v)])), some (.box (qcells 0 H' F'))], 3, 0⟩) xs.length [3, 4, 5, 12, 13, 20, 21, 22, 141, 142] [0, 1, 2] [] (by rfl) ?_ ?_
              · conv => whnf
                exact ⟨0, rfl, rfl⟩
              rintro m st ⟨k, hm, rfl⟩
              conv => whnf
              refine ifB_of (fun h9 => ?_) (fun h9 => ?_)
              · have h9 : k < xs.length := by have := of_decide_eq_true h9; omega
                conv => whnf
                refine need_of ((decide_eq_true ⟨Int.natCast_nonneg k, by omega⟩)) ?_
                conv => whnf
                refine need_of ((decide_eq_true ⟨Int.natCast_nonneg k, by omega⟩)) ?_
                conv => whnf
                rw [neq_self]
                conv => whnf
                rw [inc_nat k (by omega)]
                refine ⟨xs.length - (k + 1), [3, 4, 5, 12, 13, 20, 21, 22, 141, 142], [0, 1, 2], [], by omega, rfl, ?_⟩
                conv => whnf
                exact ⟨k + 1, by omega, rfl⟩
              clear h9 hm
              conv => whnf

              rw [inc_nat i (by omega)]
              refine ⟨(rows.length - (i + 1)), [3, 4, 5, 20, 21, 22], [0, 1, 2], [], by omega, rfl, ?_⟩
              conv => whnf
              exact ⟨i + 1, 0, [(nn, v)], H', F', by omega, hW2.lo.1, by omega, hW2, q', .inr rfl⟩
            · conv => whnf
              first | refine pt_of [3, 4, 5, 12, 13, 20, 21, 22] [0, 1, 2] [] (by rfl) ?_ | refine ptw_of [3, 4, 5, 12, 13, 20, 21, 22] [0, 1, 2] [] (by rfl) ?_
              conv => whnf

              refine LoopA.inv (fun m st => ∃ k : Nat, m + k = xs.length ∧ st = ⟨[(3, .bp 0 0), (4, .bp 2 0), (5, .pnil), (12, .ri .i64 xs), (13, .ri .i64 xs), (20, .ro 4 rows), (21, iv (rows.length : Nat)), (22, iv i), (141, iv (xs.length : Nat)), (142, iv k)], [some (.box [iv 0, .sl 1 0 [(nn, v)].length]), some (.arr 10 (irows [(nn, v)])), some (.box (qcells 0 H' F'))], 3, 0⟩) xs.length [3, 4, 5, 12, 13, 20, 21, 22, 141, 142] [0, 1, 2] [] (by rfl) ?_ ?_
              · conv => whnf
                exact ⟨0, rfl, rfl⟩
              rintro m st ⟨k, hm, rfl⟩
              conv => whnf
              refine ifB_of (fun h9 => ?_) (fun h9 => ?_)
              · have h9 : k < xs.length := by have := of_decide_eq_true h9; omega
                conv => whnf
                refine need_of ((decide_eq_true ⟨Int.natCast_nonneg k, by omega⟩)) ?_
                conv => whnf
                refine need_of ((decide_eq_true ⟨Int.natCast_nonneg k, by omega⟩)) ?_
                conv => whnf
                rw [neq_self]
                conv => whnf
                rw [inc_nat k (by omega)]
                refine ⟨xs.length - (k + 1), [3, 4, 5, 12, 13, 20, 21, 22, 141, 142], [0, 1, 2], [], by omega, rfl, ?_⟩
                conv => whnf
                exact ⟨k + 1, by omega, rfl⟩
              clear h9 hm
              conv => whnf

              rw [inc_nat i (by omega)]
              refine ⟨(rows.length - (i + 1)), [3, 4, 5, 20, 21, 22], [0, 1, 2], [], by omega, rfl, ?_⟩
              conv => whnf
              exact ⟨i + 1, 0, [(nn, v)], H', F', by omega, hW2.lo.1, by omega, hW2, q', .inr rfl⟩
        · have hmm := mixed_ok (nn + 0)
          obtain ⟨mm, hmme⟩ : ∃ mm, IntKind.wrap .i64 (nn + 0) = mm := ⟨_, rfl⟩
          rw [hmme] at hmm
          conv => whnf
          refine ifB_of (fun h4 => ?_) (fun h4 => ?_)
          · conv => whnf
            refine ifB_of (fun h5 => ?_) (fun h5 => ?_)
            · conv => whnf
              rw [hmme]
              first | refine pt_of [3, 4, 5, 7, 8, 20, 21, 22] [0, 1, 2] [] (by rfl) ?_ | refine ptw_of [3, 4, 5, 7, 8, 20, 21, 22] [0, 1, 2] [] (by rfl) ?_
              conv => whnf
              have kx := rput_spec 0 [] H F Waits.fresh q mm v
              by_cases hbad : mm < 0 ∨ 8 < mm
              · have kq := put0_no 0 (by omega) mm v hmm (by omega)
                have eE : putE 0 [] mm = if mm < 0 then 251 else 260 := by
                  unfold putE
                  by_cases hc : mm < 0
                  · rw [if_pos hc, if_pos hc]
                  · rw [if_neg hc, if_neg hc, if_pos (by omega)]
                have eQ : putQ 0 [] mm v = [] := by
                  unfold putQ
                  by_cases hc : mm < 0
                  · rw [if_pos hc]
                  · rw [if_neg hc, if_pos (by omega)]
                rw [eE, eQ] at kx
                generalize (if mm < 0 then (251 : Int) else 260) = e at *
                refine CallsF.call [] [] (one_spec v) rfl rfl rfl rfl rfl (.inl rfl) ?_
                conv => whnf
                refine ⟨.inl ⟨_, rfl⟩, ?_⟩
                conv => whnf
                refine CallsF.call [0] [] kq rfl rfl rfl rfl rfl (.inl rfl) ?_
                conv => whnf
                refine ⟨.inl ⟨_, rfl⟩, ?_⟩
                conv => whnf
                refine CallsF.call [] [] (one_spec v) rfl rfl rfl rfl rfl (.inl rfl) ?_
                conv => whnf
                refine CallsA.call [1] [] kx rfl rfl rfl rfl rfl ?_
                rintro r h' ⟨rfl, H', F', q', rfl⟩
                refine ⟨.inl rfl, ?_⟩
                conv => whnf
                rw [neq_self]
                conv => whnf
                refine CallsF.call [] [] (one_spec 0) rfl rfl rfl rfl rfl (.inl rfl) ?_
                conv => whnf
                refine CallsF.call [] [] (put_nil mm 0) rfl rfl rfl rfl rfl (.inl rfl) ?_
                conv => whnf
                first | refine pt_of [3, 4, 5, 20, 21, 22] [0, 1] [] (by rfl) ?_ | refine ptw_of [3, 4, 5, 20, 21, 22] [0, 1] [] (by rfl) ?_
                conv => whnf
                refine CallsF.call [0] [] (waiting0_spec 0) rfl rfl rfl rfl rfl (.inl rfl) ?_
                conv => whnf
                refine CallsF.call [1] [] (rwaiting2_spec 0 [] H' F' Waits.fresh q') rfl rfl rfl rfl rfl (.inl rfl) ?_
                conv => whnf
                first | refine pt_of [3, 4, 5, 12, 13, 20, 21, 22] [0, 1] [] (by rfl) ?_ | refine ptw_of [3, 4, 5, 12, 13, 20, 21, 22] [0, 1] [] (by rfl) ?_
                conv => whnf
                refine CallsF.call [0] [] (next0_spec 0) rfl rfl rfl rfl rfl (.inl rfl) ?_
                conv => whnf
                refine ⟨.inl ⟨_, rfl⟩, ?_⟩
                conv => whnf
                refine CallsF.call [0] [] (end0_spec 0) rfl rfl rfl rfl rfl (.inl rfl) ?_
                conv => whnf
                first | refine pt_of [3, 4, 5, 12, 13, 20, 21, 22] [0, 1] [] (by rfl) ?_ | refine ptw_of [3, 4, 5, 12, 13, 20, 21, 22] [0, 1] [] (by rfl) ?_
                conv => whnf
                refine LoopA.steps 1 [3, 4, 5, 20, 21, 22, 141, 142] [0, 1] [] (by rfl) ?_
                conv => whnf
                rw [inc_nat i (by omega)]
                refine ⟨(rows.length - (i + 1)), [3, 4, 5, 20, 21, 22], [0, 1], [], by omega, rfl, ?_⟩
                conv => whnf
                exact ⟨i + 1, 0, [], H', F', by omega, by omega, by omega, Waits.fresh, q', .inl ⟨rfl, rfl, rfl⟩⟩
              · have kq := put0_spec 0 (by omega) mm v hmm (by omega) (by omega)
                have eE : putE 0 [] mm = 0 := by
                  unfold putE
                  rw [if_neg (by omega), if_neg (by omega)]; rfl
                have eQ : putQ 0 [] mm v = [(mm, v)] := by
                  unfold putQ
                  rw [if_neg (by omega), if_neg (by omega)]; rfl
                have hW2 := Waits.fresh.putQ mm v
                rw [eE, eQ] at kx
                rw [eQ] at hW2
                refine CallsF.call [] [] (one_spec v) rfl rfl rfl rfl rfl (.inl rfl) ?_
                conv => whnf
                refine ⟨.inl ⟨_, rfl⟩, ?_⟩
                conv => whnf
                refine CallsF.call [0] [] kq rfl rfl rfl rfl rfl (.inl rfl) ?_
                conv => whnf
                refine ⟨.inr (by repeat (first | exact same_nil | refine same_of rfl ?_)), ?_⟩
                conv => whnf
                refine CallsF.call [] [] (one_spec v) rfl rfl rfl rfl rfl (.inl rfl) ?_
                conv => whnf
                refine CallsA.call [1] [] kx rfl rfl rfl rfl rfl ?_
                rintro r h' ⟨rfl, H', F', q', rfl⟩
                refine ⟨.inl rfl, ?_⟩
                conv => whnf
                refine CallsF.call [] [] (one_spec 0) rfl rfl rfl rfl rfl (.inl rfl) ?_
                conv => whnf
                refine CallsF.call [] [] (put_nil mm 0) rfl rfl rfl rfl rfl (.inl rfl) ?_
                conv => whnf
                obtain ⟨W2, hWe⟩ : ∃ W2, [(mm, v)] = W2 := ⟨_, rfl⟩
                have hW1 : W2.length = 1 := by rw [← hWe]; rfl
                first | refine pt_of [3, 4, 5, 20, 21, 22] [0, 3, 1] [] (by rfl) ?_ | refine ptw_of [3, 4, 5, 20, 21, 22] [0, 3, 1] [] (by rfl) ?_
                conv => whnf
                have hl9 := hW2.len_le
                have kw := waiting_spec 0 [(mm, v)] hl9
                have kx2 := rwaiting2_spec 0 [(mm, v)] H' F' hW2 q'
                have kn := nextW 0 [(mm, v)]
                have ke := endW 0 [(mm, v)]
                have hxl : (nums [(mm, v)]).length = [(mm, v)].length := by rw [nums, List.length_map]
                have he0 : [(mm, v)] = [] ↔ nums [(mm, v)] = [] := by unfold nums; rw [List.map_eq_nil_iff]
                obtain ⟨xs, hxs⟩ : ∃ xs, nums [(mm, v)] = xs := ⟨_, rfl⟩
                rw [hxs] at kw kx2 hxl he0
                obtain ⟨e2, hE⟩ : ∃ e : Int, (if [(mm, v)] = [] then (0 : Int) else 260) = e := ⟨_, rfl⟩
                rw [hE] at ke
                have hb1 : (e2 == 0) = ((xs.length : Int) == 0) := by
                  rw [← hE]
                  by_cases hc : [(mm, v)] = []
                  · rw [if_pos hc, he0.1 hc]; rfl
                  · rw [if_neg hc]
                    have : ¬ (xs.length : Int) = 0 := fun h => hc (he0.2 (List.eq_nil_of_length_eq_zero (by omega)))
                    rw [beq_eq_false_iff_ne.2 this]; rfl
                have he2 : 0 < xs.length → e2 = 260 := fun h => by rw [← hE, if_neg (fun hc => by rw [he0.1 hc] at h; simp at h)]
                clear hE he0
                refine CallsF.call [0, 1] [] kw rfl rfl rfl rfl rfl (.inl rfl) ?_
                conv => whnf
                refine CallsF.call [2] [] kx2 rfl rfl rfl rfl rfl (.inl rfl) ?_
                conv => whnf
                first | refine pt_of [3, 4, 5, 12, 13, 20, 21, 22] [0, 1, 2] [] (by rfl) ?_ | refine ptw_of [3, 4, 5, 12, 13, 20, 21, 22] [0, 1, 2] [] (by rfl) ?_
                conv => whnf
                rw [neq_self]
                conv => whnf
                refine CallsF.call [0, 1] [] kn rfl rfl rfl rfl rfl (.inl rfl) ?_
                conv => whnf
                refine ⟨.inl ⟨_, rfl⟩, ?_⟩
                conv => whnf
                rw [neq_self]
                conv => whnf
                refine CallsF.call [0, 1] [] ke rfl rfl rfl rfl rfl (.inl rfl) ?_
                conv => whnf
                rw [hb1, nbb]
                conv => whnf
                refine ifB_of (fun h7 => ?_) (fun h7 => ?_)
                · have h7 : 0 < xs.length := by have := of_decide_eq_true h7; omega
                  obtain rfl := he2 h7
                  conv => whnf
                  refine CallsF.call [0, 1] [] ke rfl rfl rfl rfl rfl (.inl rfl) ?_
                  conv => whnf
                  first | refine pt_of [3, 4, 5, 12, 13, 20, 21, 22] [0, 1, 2] [] (by rfl) ?_ | refine ptw_of [3, 4, 5, 12, 13, 20, 21, 22] [0, 1, 2] [] (by rfl) ?_
                  conv => whnf

                  refine LoopA.inv (fun m st => ∃ k : Nat, m + k = xs.length ∧ st = ⟨[(3, .bp 0 0), (4, .bp 2 0), (5, .pnil), (12, .ri .i64 xs), (13, .ri .i64 xs), (20, .ro 4 rows), (21, iv (rows.length : Nat)), (22, iv i), (141, iv (xs.length : Nat)), (142, iv k)], [some (.box [iv 0, .sl 1 0 [(mm, v)].length]), some (.arr 10 (irows [(mm, v)])), some (.box (qcells 0 H' F'))], 3, 0⟩) xs.length [3, 4, 5, 12, 13, 20, 21, 22, 141, 142] [0, 1, 2] [] (by rfl) ?_ ?_
                  · conv => whnf
                    exact ⟨0, rfl, rfl⟩
                  rintro m st ⟨k, hm, rfl⟩
                  conv => whnf
                  refine ifB_of (fun h9 => ?_) (fun h9 => ?_)
                  · have h9 : k < xs.length := by have := of_decide_eq_true h9; omega
                    conv => whnf
                    refine need_of ((decide_eq_true ⟨Int.natCast_nonneg k, by omega⟩)) ?_
                    conv => whnf
                    refine need_of ((decide_eq_true ⟨Int.natCast_nonneg k, by omega⟩)) ?_
                    conv => whnf
                    rw [neq_self]
                    conv => whnf
                    rw [inc_nat k (by omega)]
                    refine ⟨xs.length - (k + 1), [3, 4, 5, 12, 13, 20, 21, 22, 141, 142], [0, 1, 2], [], by omega, rfl, ?_⟩
                    conv => whnf
                    exact ⟨k + 1, by omega, rfl⟩
                  clear h9 hm
                  conv => whnf

                  rw [inc_nat i (by omega)]
                  refine ⟨(rows.length - (i + 1)), [3, 4, 5, 20, 21, 22], [0, 1, 2], [], by omega, rfl, ?_⟩
                  conv => whnf
                  exact ⟨i + 1, 0, [(mm, v)], H', F', by omega, hW2.lo.1, by omega, hW2, q', .inr rfl⟩
                · conv => whnf
                  first | refine pt_of [3, 4, 5, 12, 13, 20, 21, 22] [0, 1, 2] [] (by rfl) ?_ | refine ptw_of [3, 4, 5, 12, 13, 20, 21, 22] [0, 1, 2] [] (by rfl) ?_
                  conv => whnf

                  refine LoopA.inv (fun m st => ∃ k : Nat, m + k = xs.length ∧ st = ⟨[(3, .bp 0 0), (4, .bp 2 0), (5, .pnil), (12, .ri .i64 xs), (13, .ri .i64 xs), (20, .ro 4 rows), (21, iv (rows.length : Nat)), (22, iv i), (141, iv (xs.length : Nat)), (142, iv k)], [some (.box [iv 0, .sl 1 0 [(mm, v)].length]), some (.arr 10 (irows [(mm, v)])), some (.box (qcells 0 H' F'))], 3, 0⟩) xs.length [3, 4, 5, 12, 13, 20, 21, 22, 141, 142] [0, 1, 2] [] (by rfl) ?_ ?_
                  · conv => whnf
                    exact ⟨0, rfl, rfl⟩
                  rintro m st ⟨k, hm, rfl⟩
                  conv => whnf
                  refine ifB_of (fun h9 => ?_) (fun h9 => ?_)
                  · have h9 : k < xs.length := by have := of_decide_eq_true h9; omega
                    conv => whnf
                    refine need_of ((decide_eq_true ⟨Int.natCast_nonneg k, by omega⟩)) ?_
                    conv => whnf
                    refine need_of ((decide_eq_true ⟨Int.natCast_nonneg k, by omega⟩)) ?_
                    conv => whnf
                    rw [neq_self]
                    conv => whnf
                    rw [inc_nat k (by omega)]
                    refine ⟨xs.length - (k + 1), [3, 4, 5, 12, 13, 20, 21, 22, 141, 142], [0, 1, 2], [], by omega, rfl, ?_⟩
                    conv => whnf
                    exact ⟨k + 1, by omega, rfl⟩
                  clear h9 hm
                  conv => whnf

                  rw [inc_nat i (by omega)]
                  refine ⟨(rows.length - (i + 1)), [3, 4, 5, 20, 21, 22], [0, 1, 2], [], by omega, rfl, ?_⟩
                  conv => whnf
                  exact ⟨i + 1, 0, [(mm, v)], H', F', by omega, hW2.lo.1, by omega, hW2, q', .inr rfl⟩
            · conv => whnf
              first | refine pt_of [3, 4, 5, 7, 8, 20, 21, 22] [0, 1, 2] [] (by rfl) ?_ | refine ptw_of [3, 4, 5, 7, 8, 20, 21, 22] [0, 1, 2] [] (by rfl) ?_
              conv => whnf
              have kx := rput_spec 0 [] H F Waits.fresh q nn v
              by_cases hbad : nn < 0 ∨ 8 < nn
              · have kq := put0_no 0 (by omega) nn v hnn (by omega)
                have eE : putE 0 [] nn = if nn < 0 then 251 else 260 := by
                  unfold putE
                  by_cases hc : nn < 0
                  · rw [if_pos hc, if_pos hc]
                  · rw [if_neg hc, if_neg hc, if_pos (by omega)]
                have eQ : putQ 0 [] nn v = [] := by
                  unfold putQ
                  by_cases hc : nn < 0
                  · rw [if_pos hc]
                  · rw [if_neg hc, if_pos (by omega)]
                rw [eE, eQ] at kx
                generalize (if nn < 0 then (251 : Int) else 260) = e at *
                refine CallsF.call [] [] (one_spec v) rfl rfl rfl rfl rfl (.inl rfl) ?_
                conv => whnf
                refine ⟨.inl ⟨_, rfl⟩, ?_⟩
                conv => whnf
                refine CallsF.call [0] [] kq rfl rfl rfl rfl rfl (.inl rfl) ?_
                conv => whnf
                refine ⟨.inl ⟨_, rfl⟩, ?_⟩
                conv => whnf
                refine CallsF.call [] [] (one_spec v) rfl rfl rfl rfl rfl (.inl rfl) ?_
                conv => whnf
                refine CallsA.call [1] [] kx rfl rfl rfl rfl rfl ?_
                rintro r h' ⟨rfl, H', F', q', rfl⟩
                refine ⟨.inl rfl, ?_⟩
                conv => whnf
                rw [neq_self]
                conv => whnf
                refine CallsF.call [] [] (one_spec 0) rfl rfl rfl rfl rfl (.inl rfl) ?_
                conv => whnf
                refine CallsF.call [] [] (put_nil nn 0) rfl rfl rfl rfl rfl (.inl rfl) ?_
                conv => whnf
                first | refine pt_of [3, 4, 5, 20, 21, 22] [0, 1] [] (by rfl) ?_ | refine ptw_of [3, 4, 5, 20, 21, 22] [0, 1] [] (by rfl) ?_
                conv => whnf
                refine CallsF.call [0] [] (waiting0_spec 0) rfl rfl rfl rfl rfl (.inl rfl) ?_
                conv => whnf
                refine CallsF.call [1] [] (rwaiting2_spec 0 [] H' F' Waits.fresh q') rfl rfl rfl rfl rfl (.inl rfl) ?_
                conv => whnf
                first | refine pt_of [3, 4, 5, 12, 13, 20, 21, 22] [0, 1] [] (by rfl) ?_ | refine ptw_of [3, 4, 5, 12, 13, 20, 21, 22] [0, 1] [] (by rfl) ?_
                conv => whnf
                refine CallsF.call [0] [] (next0_spec 0) rfl rfl rfl rfl rfl (.inl rfl) ?_
                conv => whnf
                refine ⟨.inl ⟨_, rfl⟩, ?_⟩
                conv => whnf
                refine CallsF.call [0] [] (end0_spec 0) rfl rfl rfl rfl rfl (.inl rfl) ?_
                conv => whnf
                first | refine pt_of [3, 4, 5, 12, 13, 20, 21, 22] [0, 1] [] (by rfl) ?_ | refine ptw_of [3, 4, 5, 12, 13, 20, 21, 22] [0, 1] [] (by rfl) ?_
                conv => whnf
                refine LoopA.steps 1 [3, 4, 5, 20, 21, 22, 141, 142] [0, 1] [] (by rfl) ?_
                conv => whnf
                rw [inc_nat i (by omega)]
                refine ⟨(rows.length - (i + 1)), [3, 4, 5, 20, 21, 22], [0, 1], [], by omega, rfl, ?_⟩
                conv => whnf
                exact ⟨i + 1, 0, [], H', F', by omega, by omega, by omega, Waits.fresh, q', .inl ⟨rfl, rfl, rfl⟩⟩
              · have kq := put0_spec 0 (by omega) nn v hnn (by omega) (by omega)
                have eE : putE 0 [] nn = 0 := by
                  unfold putE
                  rw [if_neg (by omega), if_neg (by omega)]; rfl
                have eQ : putQ 0 [] nn v = [(nn, v)] := by
                  unfold putQ
                  rw [if_neg (by omega), if_neg (by omega)]; rfl
                have hW2 := Waits.fresh.putQ nn v
                rw [eE, eQ] at kx
                rw [eQ] at hW2
                refine CallsF.call [] [] (one_spec v) rfl rfl rfl rfl rfl (.inl rfl) ?_
                conv => whnf
                refine ⟨.inl ⟨_, rfl⟩, ?_⟩
                conv => whnf
                refine CallsF.call [0] [] kq rfl rfl rfl rfl rfl (.inl rfl) ?_
                conv => whnf
                refine ⟨.inr (by repeat (first | exact same_nil | refine same_of rfl ?_)), ?_⟩
                conv => whnf
                refine CallsF.call [] [] (one_spec v) rfl rfl rfl rfl rfl (.inl rfl) ?_
                conv => whnf
                refine CallsA.call [1] [] kx rfl rfl rfl rfl rfl ?_
                rintro r h' ⟨rfl, H', F', q', rfl⟩
                refine ⟨.inl rfl, ?_⟩
                conv => whnf
                refine CallsF.call [] [] (one_spec 0) rfl rfl rfl rfl rfl (.inl rfl) ?_
                conv => whnf
                refine CallsF.call [] [] (put_nil nn 0) rfl rfl rfl rfl rfl (.inl rfl) ?_
                conv => whnf
                obtain ⟨W2, hWe⟩ : ∃ W2, [(nn, v)] = W2 := ⟨_, rfl⟩
                have hW1 : W2.length = 1 := by rw [← hWe]; rfl
                first | refine pt_of [3, 4, 5, 20, 21, 22] [0, 3, 1] [] (by rfl) ?_ | refine ptw_of [3, 4, 5, 20, 21, 22] [0, 3, 1] [] (by rfl) ?_
                conv => whnf
                have hl9 := hW2.len_le
                have kw := waiting_spec 0 [(nn, v)] hl9
                have kx2 := rwaiting2_spec 0 [(nn, v)] H' F' hW2 q'
                have kn := nextW 0 [(nn, v)]
                have ke := endW 0 [(nn, v)]
                have hxl : (nums [(nn, v)]).length = [(nn, v)].length := by rw [nums, List.length_map]
                have he0 : [(nn, v)] = [] ↔ nums [(nn, v)] = [] := by unfold nums; rw [List.map_eq_nil_iff]
                obtain ⟨xs, hxs⟩ : ∃ xs, nums [(nn, v)] = xs := ⟨_, rfl⟩
                rw [hxs] at kw kx2 hxl he0
                obtain ⟨e2, hE⟩ : ∃ e : Int, (if [(nn, v)] = [] then (0 : Int) else 260) = e := ⟨_, rfl⟩
                rw [hE] at ke
                have hb1 : (e2 == 0) = ((xs.length : Int) == 0) := by
                  rw [← hE]
                  by_cases hc : [(nn, v)] = []
                  · rw [if_pos hc, he0.1 hc]; rfl
                  · rw [if_neg hc]
                    have : ¬ (xs.length : Int) = 0 := fun h => hc (he0.2 (List.eq_nil_of_length_eq_zero (by omega)))
                    rw [beq_eq_false_iff_ne.2 this]; rfl
                have he2 : 0 < xs.length → e2 = 260 := fun h => by rw [← hE, if_neg (fun hc => by rw [he0.1 hc] at h; simp at h)]
                clear hE he0
                refine CallsF.call [0, 1] [] kw rfl rfl rfl rfl rfl (.inl rfl) ?_
                conv => whnf
                refine CallsF.call [2] [] kx2 rfl rfl rfl rfl rfl (.inl rfl) ?_
                conv => whnf
                first | refine pt_of [3, 4, 5, 12, 13, 20, 21, 22] [0, 1, 2] [] (by rfl) ?_ | refine ptw_of [3, 4, 5, 12, 13, 20, 21, 22] [0, 1, 2] [] (by rfl) ?_
                conv => whnf
                rw [neq_self]
                conv => whnf
                refine CallsF.call [0, 1] [] kn rfl rfl rfl rfl rfl (.inl rfl) ?_
                conv => whnf
                refine ⟨.inl ⟨_, rfl⟩, ?_⟩
                conv => whnf
                rw [neq_self]
                conv => whnf
                refine CallsF.call [0, 1] [] ke rfl rfl rfl rfl rfl (.inl rfl) ?_
                conv => whnf
                rw [hb1, nbb]
                conv => whnf
                refine ifB_of (fun h7 => ?_) (fun h7 => ?_)
                · have h7 : 0 < xs.length := by have := of_decide_eq_true h7; omega
                  obtain rfl := he2 h7
                  conv => whnf
                  refine CallsF.call [0, 1] [] ke rfl rfl rfl rfl rfl (.inl rfl) ?_
                  conv => whnf
                  first | refine pt_of [3, 4, 5, 12, 13, 20, 21, 22] [0, 1, 2] [] (by rfl) ?_ | refine ptw_of [3, 4, 5, 12, 13, 20, 21, 22] [0, 1, 2] [] (by rfl) ?_
                  conv => whnf

                  refine LoopA.inv (fun m st => ∃ k : Nat, m + k = xs.length ∧ st = ⟨[(3, .bp 0 0), (4, .bp 2 0), (5, .pnil), (12, .ri .i64 xs), (13, .ri .i64 xs), (20, .ro 4 rows), (21, iv (rows.length : Nat)), (22, iv i), (141, iv (xs.length : Nat)), (142, iv k)], [some (.box [iv 0, .sl 1 0 [(nn, v)].length]), some (.arr 10 (irows [(nn, v)])), some (.box (qcells 0 H' F'))], 3, 0⟩) xs.length [3, 4, 5, 12, 13, 20, 21, 22, 141, 142] [0, 1, 2] [] (by rfl) ?_ ?_
                  · conv => whnf
                    exact ⟨0, rfl, rfl⟩
                  rintro m st ⟨k, hm, rfl⟩
                  conv => whnf
                  refine ifB_of (fun h9 => ?_) (fun h9 => ?_)
                  · have h9 : k < xs.length := by have := of_decide_eq_true h9; omega
                    conv => whnf
                    refine need_of ((decide_eq_true ⟨Int.natCast_nonneg k, by omega⟩)) ?_
                    conv => whnf
                    refine need_of ((decide_eq_true ⟨Int.natCast_nonneg k, by omega⟩)) ?_
                    conv => whnf
                    rw [neq_self]
                    conv => whnf
                    rw [inc_nat k (by omega)]
                    refine ⟨xs.length - (k + 1), [3, 4, 5, 12, 13, 20, 21, 22, 141, 142], [0, 1, 2], [], by omega, rfl, ?_⟩
                    conv => whnf
                    exact ⟨k + 1, by omega, rfl⟩
                  clear h9 hm
                  conv => whnf

                  rw [inc_nat i (by omega)]
                  refine ⟨(rows.length - (i + 1)), [3, 4, 5, 20, 21, 22], [0, 1, 2], [], by omega, rfl, ?_⟩
                  conv => whnf
                  exact ⟨i + 1, 0, [(nn, v)], H', F', by omega, hW2.lo.1, by omega, hW2, q', .inr rfl⟩
                · conv => whnf
                  first | refine pt_of [3, 4, 5, 12, 13, 20, 21, 22] [0, 1, 2] [] (by rfl) ?_ | refine ptw_of [3, 4, 5, 12, 13, 20, 21, 22] [0, 1, 2] [] (by rfl) ?_
                  conv => whnf

                  refine LoopA.inv (fun m st => ∃ k : Nat, m + k = xs.length ∧ st = ⟨[(3, .bp 0 0), (4, .bp 2 0), (5, .pnil), (12, .ri .i64 xs), (13, .ri .i64 xs), (20, .ro 4 rows), (21, iv (rows.length : Nat)), (22, iv i), (141, iv (xs.length : Nat)), (142, iv k)], [some (.box [iv 0, .sl 1 0 [(nn, v)].length]), some (.arr 10 (irows [(nn, v)])), some (.box (qcells 0 H' F'))], 3, 0⟩) xs.length [3, 4, 5, 12, 13, 20, 21, 22, 141, 142] [0, 1, 2] [] (by rfl) ?_ ?_
                  · conv => whnf
                    exact ⟨0, rfl, rfl⟩
                  rintro m st ⟨k, hm, rfl⟩
                  conv => whnf
                  refine ifB_of (fun h9 => ?_) (fun h9 => ?_)
                  · have h9 : k < xs.length := by have := of_decide_eq_true h9; omega
                    conv => whnf
                    refine need_of ((decide_eq_true ⟨Int.natCast_nonneg k, by omega⟩)) ?_
                    conv => whnf
                    refine need_of ((decide_eq_true ⟨Int.natCast_nonneg k, by omega⟩)) ?_
                    conv => whnf
                    rw [neq_self]
                    conv => whnf
                    rw [inc_nat k (by omega)]
                    refine ⟨xs.length - (k + 1), [3, 4, 5, 12, 13, 20, 21, 22, 141, 142], [0, 1, 2], [], by omega, rfl, ?_⟩
                    conv => whnf
                    exact ⟨k + 1, by omega, rfl⟩
                  clear h9 hm
                  conv => whnf

                  rw [inc_nat i (by omega)]
                  refine ⟨(rows.length - (i + 1)), [3, 4, 5, 20, 21, 22], [0, 1, 2], [], by omega, rfl, ?_⟩
                  conv => whnf
                  exact ⟨i + 1, 0, [(nn, v)], H', F', by omega, hW2.lo.1, by omega, hW2, q', .inr rfl⟩
          · conv => whnf
            first | refine pt_of [3, 4, 5, 7, 8, 20, 21, 22] [0, 1, 2] [] (by rfl) ?_ | refine ptw_of [3, 4, 5, 7, 8, 20, 21, 22] [0, 1, 2] [] (by rfl) ?_
            conv => whnf
            have kx := rput_spec 0 [] H F Waits.fresh q nn v
            by_cases hbad : nn < 0 ∨ 8 < nn
            · have kq := put0_no 0 (by omega) nn v hnn (by omega)
              have eE : putE 0 [] nn = if nn < 0 then 251 else 260 := by
                unfold putE
                by_cases hc : nn < 0
                · rw [if_pos hc, if_pos hc]
                · rw [if_neg hc, if_neg hc, if_pos (by omega)]
              have eQ : putQ 0 [] nn v = [] := by
                unfold putQ
                by_cases hc : nn < 0
                · rw [if_pos hc]
                · rw [if_neg hc, if_pos (by omega)]
              rw [eE, eQ] at kx
              generalize (if nn < 0 then (251 : Int) else 260) = e at *
              refine CallsF.call [] [] (one_spec v) rfl rfl rfl rfl rfl (.inl rfl) ?_
              conv => whnf
              refine ⟨.inl ⟨_, rfl⟩, ?_⟩
              conv => whnf
              refine CallsF.call [0] [] kq rfl rfl rfl rfl rfl (.inl rfl) ?_
              conv => whnf
              refine ⟨.inl ⟨_, rfl⟩, ?_⟩
              conv => whnf
              refine CallsF.call [] [] (one_spec v) rfl rfl rfl rfl rfl (.inl rfl) ?_
              conv => whnf
              refine CallsA.call [1] [] kx rfl rfl rfl rfl rfl ?_
              rintro r h' ⟨rfl, H', F', q', rfl⟩
              refine ⟨.inl rfl, ?_⟩
              conv => whnf
              rw [neq_self]
              conv => whnf
              refine CallsF.call [] [] (one_spec 0) rfl rfl rfl rfl rfl (.inl rfl) ?_
              conv => whnf
              refine CallsF.call [] [] (put_nil nn 0) rfl rfl rfl rfl rfl (.inl rfl) ?_
              conv => whnf
              first | refine pt_of [3, 4, 5, 20, 21, 22] [0, 1] [] (by rfl) ?_ | refine ptw_of [3, 4, 5, 20, 21, 22] [0, 1] [] (by rfl) ?_
              conv => whnf
              refine CallsF.call [0] [] (waiting0_spec 0) rfl rfl rfl rfl rfl (.inl rfl) ?_
              conv => whnf
              refine CallsF.call [1] [] (rwaiting2_spec 0 [] H' F' Waits.fresh q') rfl rfl rfl rfl rfl (.inl rfl) ?_
              conv => whnf
              first | refine pt_of [3, 4, 5, 12, 13, 20, 21, 22] [0, 1] [] (by rfl) ?_ | refine ptw_of [3, 4, 5, 12, 13, 20, 21, 22] [0, 1] [] (by rfl) ?_
              conv => whnf
              refine CallsF.call [0] [] (next0_spec 0) rfl rfl rfl rfl rfl (.inl rfl) ?_
              conv => whnf
              refine ⟨.inl ⟨_, rfl⟩, ?_⟩
              conv => whnf
              refine CallsF.call [0] [] (end0_spec 0) rfl rfl rfl rfl rfl (.inl rfl) ?_
              conv => whnf
              first | refine pt_of [3, 4, 5, 12, 13, 20, 21, 22] [0, 1] [] (by rfl) ?_ | refine ptw_of [3, 4, 5, 12, 13, 20, 21, 22] [0, 1] [] (by rfl) ?_
              conv => whnf
              refine LoopA.steps 1 [3, 4, 5, 20, 21, 22, 141, 142] [0, 1] [] (by rfl) ?_
              conv => whnf
              rw [inc_nat i (by omega)]
              refine ⟨(rows.length - (i + 1)), [3, 4, 5, 20, 21, 22], [0, 1], [], by omega, rfl, ?_⟩
              conv => whnf
              exact ⟨i + 1, 0, [], H', F', by omega, by omega, by omega, Waits.fresh, q', .inl ⟨rfl, rfl, rfl⟩⟩
            · have kq := put0_spec 0 (by omega) nn v hnn (by omega) (by omega)
              have eE : putE 0 [] nn = 0 := by
                unfold putE
                rw [if_neg (by omega), if_neg (by omega)]; rfl
              have eQ : putQ 0 [] nn v = [(nn, v)] := by
                unfold putQ
                rw [if_neg (by omega), if_neg (by omega)]; rfl
              have hW2 := Waits.fresh.putQ nn v
              rw [eE, eQ] at kx
              rw [eQ] at hW2
              refine CallsF.call [] [] (one_spec v) rfl rfl rfl rfl rfl (.inl rfl) ?_
              conv => whnf
              refine ⟨.inl ⟨_, rfl⟩, ?_⟩
              conv => whnf
              refine CallsF.call [0] [] kq rfl rfl rfl rfl rfl (.inl rfl) ?_
              conv => whnf
              refine ⟨.inr (by repeat (first | exact same_nil | refine same_of rfl ?_)), ?_⟩
              conv => whnf
              refine CallsF.call [] [] (one_spec v) rfl rfl rfl rfl rfl (.inl rfl) ?_
              conv => whnf
              refine CallsA.call [1] [] kx rfl rfl rfl rfl rfl ?_
              rintro r h' ⟨rfl, H', F', q', rfl⟩
              refine ⟨.inl rfl, ?_⟩
              conv => whnf
              refine CallsF.call [] [] (one_spec 0) rfl rfl rfl rfl rfl (.inl rfl) ?_
              conv => whnf
              refine CallsF.call [] [] (put_nil nn 0) rfl rfl rfl rfl rfl (.inl rfl) ?_
              conv => whnf
              obtain ⟨W2, hWe⟩ : ∃ W2, [(nn, v)] = W2 := ⟨_, rfl⟩
              have hW1 : W2.length = 1 := by rw [← hWe]; rfl
              first | refine pt_of [3, 4, 5, 20, 21, 22] [0, 3, 1] [] (by rfl) ?_ | refine ptw_of [3, 4, 5, 20, 21, 22] [0, 3, 1] [] (by rfl) ?_
              conv => whnf
              have hl9 := hW2.len_le
              have kw := waiting_spec 0 [(nn, v)] hl9
              have kx2 := rwaiting2_spec 0 [(nn, v)] H' F' hW2 q'
              have kn := nextW 0 [(nn, v)]
              have ke := endW 0 [(nn, v)]
              have hxl : (nums [(nn, v)]).length = [(nn, v)].length := by rw [nums, List.length_map]
              have he0 : [(nn, v)] = [] ↔ nums [(nn, v)] = [] := by unfold nums; rw [List.map_eq_nil_iff]
              obtain ⟨xs, hxs⟩ : ∃ xs, nums [(nn, v)] = xs := ⟨_, rfl⟩
              rw [hxs] at kw kx2 hxl he0
              obtain ⟨e2, hE⟩ : ∃ e : Int, (if [(nn, v)] = [] then (0 : Int) else 260) = e := ⟨_, rfl⟩
              rw [hE] at ke
              have hb1 : (e2 == 0) = ((xs.length : Int) == 0) := by
                rw [← hE]
                by_cases hc : [(nn, v)] = []
                · rw [if_pos hc, he0.1 hc]; rfl
                · rw [if_neg hc]
                  have : ¬ (xs.length : Int) = 0 := fun h => hc (he0.2 (List.eq_nil_of_length_eq_zero (by omega)))
                  rw [beq_eq_false_iff_ne.2 this]; rfl
              have he2 : 0 < xs.length → e2 = 260 := fun h => by rw [← hE, if_neg (fun hc => by rw [he0.1 hc] at h; simp at h)]
              clear hE he0
              refine CallsF.call [0, 1] [] kw rfl rfl rfl rfl rfl (.inl rfl) ?_
              conv => whnf
              refine CallsF.call [2] [] kx2 rfl rfl rfl rfl rfl (.inl rfl) ?_
              conv => whnf
              first | refine pt_of [3, 4, 5, 12, 13, 20, 21, 22] [0, 1, 2] [] (by rfl) ?_ | refine ptw_of [3, 4, 5, 12, 13, 20, 21, 22] [0, 1, 2] [] (by rfl) ?_
              conv => whnf
              rw [neq_self]
              conv => whnf
              refine CallsF.call [0, 1] [] kn rfl rfl rfl rfl rfl (.inl rfl) ?_
              conv => whnf
              refine ⟨.inl ⟨_, rfl⟩, ?_⟩
              conv => whnf
              rw [neq_self]
              conv => whnf
              refine CallsF.call [0, 1] [] ke rfl rfl rfl rfl rfl (.inl rfl) ?_
              conv => whnf
              rw [hb1, nbb]
              conv => whnf
              refine ifB_of (fun h7 => ?_) (fun h7 => ?_)
              · have h7 : 0 < xs.length := by have := of_decide_eq_true h7; omega
                obtain rfl := he2 h7
                conv => whnf
                refine CallsF.call [0, 1] [] ke rfl rfl rfl rfl rfl (.inl rfl) ?_
                conv => whnf
                first | refine pt_of [3, 4, 5, 12, 13, 20, 21, 22] [0, 1, 2] [] (by rfl) ?_ | refine ptw_of [3, 4, 5, 12, 13, 20, 21, 22] [0, 1, 2] [] (by rfl) ?_
                conv => whnf

                refine LoopA.inv (fun m st => ∃ k : Nat, m + k = xs.length ∧ st = ⟨[(3, .bp 0 0), (4, .bp 2 0), (5, .pnil), (12, .ri .i64 xs), (13, .ri .i64 xs), (20, .ro 4 rows), (21, iv (rows.length : Nat)), (22, iv i), (141, iv (xs.length : Nat)), (142, iv k)], [some (.box [iv 0, .sl 1 0 [(nn, v)].length]), some (.arr 10 (irows [(nn, v)])), some (.box (qcells 0 H' F'))], 3, 0⟩) xs.length [3, 4, 5, 12, 13, 20, 21, 22, 141, 142] [0, 1, 2] [] (by rfl) ?_ ?_
                · conv => whnf
                  exact ⟨0, rfl, rfl⟩
                rintro m st ⟨k, hm, rfl⟩
                conv => whnf
                refine ifB_of (fun h9 => ?_) (fun h9 => ?_)
                · have h9 : k < xs.length := by have := of_decide_eq_true h9; omega
                  conv => whnf
                  refine need_of ((decide_eq_true ⟨Int.natCast_nonneg k, by omega⟩)) ?_
                  conv => whnf
                  refine need_of ((decide_eq_true ⟨Int.natCast_nonneg k, by omega⟩)) ?_
                  conv => whnf
                  rw [neq_self]
                  conv => whnf
                  rw [inc_nat k (by omega)]
                  refine ⟨xs.length - (k + 1), [3, 4, 5, 12, 13, 20, 21, 22, 141, 142], [0, 1, 2], [], by omega, rfl, ?_⟩
                  conv => whnf
                  exact ⟨k + 1, by omega, rfl⟩
                clear h9 hm
                conv => whnf

                rw [inc_nat i (by omega)]
                refine ⟨(rows.length - (i + 1)), [3, 4, 5, 20, 21, 22], [0, 1, 2], [], by omega, rfl, ?_⟩
                conv => whnf
                exact ⟨i + 1, 0, [(nn, v)], H', F', by omega, hW2.lo.1, by omega, hW2, q', .inr rfl⟩
              · conv => whnf
                first | refine pt_of [3, 4, 5, 12, 13, 20, 21, 22] [0, 1, 2] [] (by rfl) ?_ | refine ptw_of [3, 4, 5, 12, 13, 20, 21, 22] [0, 1, 2] [] (by rfl) ?_
                conv => whnf

                refine LoopA.inv (fun m st => ∃ k : Nat, m + k = xs.length ∧ st = ⟨[(3, .bp 0 0), (4, .bp 2 0), (5, .pnil), (12, .ri .i64 xs), (13, .ri .i64 xs), (20, .ro 4 rows), (21, iv (rows.length : Nat)), (22, iv i), (141, iv (xs.length : Nat)), (142, iv k)], [some (.box [iv 0, .sl 1 0 [(nn, v)].length]), some (.arr 10 (irows [(nn, v)])), some (.box (qcells 0 H' F'))], 3, 0⟩) xs.length [3, 4, 5, 12, 13, 20, 21, 22, 141, 142] [0, 1, 2] [] (by rfl) ?_ ?_
                · conv => whnf
                  exact ⟨0, rfl, rfl⟩
                rintro m st ⟨k, hm, rfl⟩
                conv => whnf
                refine ifB_of (fun h9 => ?_) (fun h9 => ?_)
                · have h9 : k < xs.length := by have := of_decide_eq_true h9; omega
                  conv => whnf
                  refine need_of ((decide_eq_true ⟨Int.natCast_nonneg k, by omega⟩)) ?_
                  conv => whnf
                  refine need_of ((decide_eq_true ⟨Int.natCast_nonneg k, by omega⟩)) ?_
                  conv => whnf
                  rw [neq_self]
                  conv => whnf
                  rw [inc_nat k (by omega)]
                  refine ⟨xs.length - (k + 1), [3, 4, 5, 12, 13, 20, 21, 22, 141, 142], [0, 1, 2], [], by omega, rfl, ?_⟩
                  conv => whnf
                  exact ⟨k + 1, by omega, rfl⟩
                clear h9 hm
                conv => whnf

                rw [inc_nat i (by omega)]
                refine ⟨(rows.length - (i + 1)), [3, 4, 5, 20, 21, 22], [0, 1, 2], [], by omega, rfl, ?_⟩
                conv => whnf
                exact ⟨i + 1, 0, [(nn, v)], H', F', by omega, hW2.lo.1, by omega, hW2, q', .inr rfl⟩
      · clear hnn
        have kx := rtake2_spec 0 [] H F Waits.fresh (by omega) q
        conv => whnf
        refine CallsF.call [0] [] (take0_spec 0) rfl rfl rfl rfl rfl (.inl rfl) ?_
        conv => whnf
        refine CallsA.call [1] [] kx rfl rfl rfl rfl rfl ?_
        rintro r h' ⟨rfl, H', F', _, q', rfl⟩
        refine ⟨.inl rfl, ?_⟩
        conv => whnf
        refine CallsF.call [] [] take_nil rfl rfl rfl rfl rfl (.inl rfl) ?_
        conv => whnf
        refine LoopA.steps 1 [3, 4, 5, 20, 21, 22, 88, 89] [0, 1] [] (by rfl) ?_
        conv => whnf

        first | refine pt_of [3, 4, 5, 20, 21, 22] [0, 1] [] (by rfl) ?_ | refine ptw_of [3, 4, 5, 20, 21, 22] [0, 1] [] (by rfl) ?_
        conv => whnf
        refine CallsF.call [0] [] (waiting0_spec 0) rfl rfl rfl rfl rfl (.inl rfl) ?_
        conv => whnf
        refine CallsF.call [1] [] (rwaiting2_spec 0 [] H' F' Waits.fresh q') rfl rfl rfl rfl rfl (.inl rfl) ?_
        conv => whnf
        first | refine pt_of [3, 4, 5, 12, 13, 20, 21, 22] [0, 1] [] (by rfl) ?_ | refine ptw_of [3, 4, 5, 12, 13, 20, 21, 22] [0, 1] [] (by rfl) ?_
        conv => whnf
        refine CallsF.call [0] [] (next0_spec 0) rfl rfl rfl rfl rfl (.inl rfl) ?_
        conv => whnf
        refine ⟨.inl ⟨_, rfl⟩, ?_⟩
        conv => whnf
        refine CallsF.call [0] [] (end0_spec 0) rfl rfl rfl rfl rfl (.inl rfl) ?_
        conv => whnf
        first | refine pt_of [3, 4, 5, 12, 13, 20, 21, 22] [0, 1] [] (by rfl) ?_ | refine ptw_of [3, 4, 5, 12, 13, 20, 21, 22] [0, 1] [] (by rfl) ?_
        conv => whnf
        refine LoopA.steps 1 [3, 4, 5, 20, 21, 22, 141, 142] [0, 1] [] (by rfl) ?_
        conv => whnf
        rw [inc_nat i (by omega)]
        refine ⟨(rows.length - (i + 1)), [3, 4, 5, 20, 21, 22], [0, 1], [], by omega, rfl, ?_⟩
        conv => whnf
        exact ⟨i + 1, 0, [], H', F', by omega, by omega, by omega, Waits.fresh, q', .inl ⟨rfl, rfl, rfl⟩⟩
    · conv => whnf
      refine CallsF.call [] [] next_nil rfl rfl rfl rfl rfl (.inl rfl) ?_
      conv => whnf
      refine CallsF.call [] [] waiting_nil rfl rfl rfl rfl rfl (.inl rfl) ?_
      conv => whnf
      refine CallsF.call [] [] end_nil rfl rfl rfl rfl rfl (.inl rfl) ?_
      conv => whnf
      exact ⟨[], [], rfl, rfl, rfl⟩
  · conv => whnf
    refine ifB_of (fun h1 => ?_) (fun h1 => ?_)
    · have h1 : i < rows.length := by have := of_decide_eq_true h1; omega
      obtain ⟨⟨k, nn, v, nr⟩, hl, hnn⟩ := hline i h1
      conv => whnf
      rw [aop_idxS_ro hl rfl rfl]
      conv => whnf
      refine ifB_of (fun h2 => ?_) (fun h2 => ?_)
      · conv => whnf
        refine CallsF.call [] [] next_nil rfl rfl rfl rfl rfl (.inl rfl) ?_
        conv => whnf
        refine CallsF.call [] [] waiting_nil rfl rfl rfl rfl rfl (.inl rfl) ?_
        conv => whnf
        refine CallsF.call [] [] end_nil rfl rfl rfl rfl rfl (.inl rfl) ?_
        conv => whnf
        exact ⟨[], [], rfl, rfl, rfl⟩
      have h2 : i < 80 := by have := of_decide_eq_false h2; omega
      clear hl hline
      conv => whnf
      refine ifB_of (fun h3 => ?_) (fun h3 => ?_)
      · cases nr
        · conv => whnf
          first | refine pt_of [3, 4, 5, 7, 8, 20, 21, 22] [0, 1, 2, 3] [] (by rfl) ?_ | refine ptw_of [3, 4, 5, 7, 8, 20, 21, 22] [0, 1, 2, 3] [] (by rfl) ?_
          conv => whnf
          have kq := put_spec next W hW nn v hnn
          have kx := rput_spec next W H F hW q nn v
          have hW2 := hW.putQ nn v
          generalize putQ next W nn v = W2 at *
          generalize putE next W nn = e at *
          refine CallsF.call [] [] (one_spec v) rfl rfl rfl rfl rfl (.inl rfl) ?_
          conv => whnf
          refine ⟨.inl ⟨_, rfl⟩, ?_⟩
          conv => whnf
          refine CallsF.call [0, 1] [] kq rfl rfl rfl rfl rfl (.inl rfl) ?_
          conv => whnf
          refine ⟨.inr (by repeat (first | exact same_nil | refine same_of rfl ?_)), ?_⟩
          conv => whnf
          refine CallsF.call [] [] (one_spec v) rfl rfl rfl rfl rfl (.inl rfl) ?_
          conv => whnf
          refine CallsA.call [2] [] kx rfl rfl rfl rfl rfl ?_
          rintro r h' ⟨rfl, H', F', q', rfl⟩
          refine ⟨.inl rfl, ?_⟩
          conv => whnf
          rw [neq_self]
          conv => whnf
          refine CallsF.call [] [] (one_spec 0) rfl rfl rfl rfl rfl (.inl rfl) ?_
          conv => whnf
          refine CallsF.call [] [] (put_nil nn 0) rfl rfl rfl rfl rfl (.inl rfl) ?_
          conv => whnf

          first | refine pt_of [3, 4, 5, 20, 21, 22] [0, 4, 2] [] (by rfl) ?_ | refine ptw_of [3, 4, 5, 20, 21, 22] [0, 4, 2] [] (by rfl) ?_
          conv => whnf
          have hl9 := hW2.len_le
          have kw := waiting_spec next W2 hl9
          have kx2 := rwaiting2_spec next W2 H' F' hW2 q'
          have kn := nextW next W2
          have ke := endW next W2
          have hxl : (nums W2).length = W2.length := by rw [nums, List.length_map]
          have he0 : W2 = [] ↔ nums W2 = [] := by unfold nums; rw [List.map_eq_nil_iff]
          obtain ⟨xs, hxs⟩ : ∃ xs, nums W2 = xs := ⟨_, rfl⟩
          rw [hxs] at kw kx2 hxl he0
          obtain ⟨e2, hE⟩ : ∃ e : Int, (if W2 = [] then (0 : Int) else 260) = e := ⟨_, rfl⟩
          rw [hE] at ke
          have hb1 : (e2 == 0) = ((xs.length : Int) == 0) := by
            rw [← hE]
            by_cases hc : W2 = []
            · rw [if_pos hc, he0.1 hc]; rfl
            · rw [if_neg hc]
              have : ¬ (xs.length : Int) = 0 := fun h => hc (he0.2 (List.eq_nil_of_length_eq_zero (by omega)))
              rw [beq_eq_false_iff_ne.2 this]; rfl
          have he2 : 0 < xs.length → e2 = 260 := fun h => by rw [← hE, if_neg (fun hc => by rw [he0.1 hc] at h; simp at h)]
          clear hE he0
          refine CallsF.call [0, 1] [] kw rfl rfl rfl rfl rfl (.inl rfl) ?_
          conv => whnf
          refine CallsF.call [2] [] kx2 rfl rfl rfl rfl rfl (.inl rfl) ?_
          conv => whnf
          first | refine pt_of [3, 4, 5, 12, 13, 20, 21, 22] [0, 1, 2] [] (by rfl) ?_ | refine ptw_of [3, 4, 5, 12, 13, 20, 21, 22] [0, 1, 2] [] (by rfl) ?_
          conv => whnf
          rw [neq_self]
          conv => whnf
          refine CallsF.call [0, 1] [] kn rfl rfl rfl rfl rfl (.inl rfl) ?_
          conv => whnf
          refine ⟨.inl ⟨_, rfl⟩, ?_⟩
          conv => whnf
          rw [neq_self]
          conv => whnf
          refine CallsF.call [0, 1] [] ke rfl rfl rfl rfl rfl (.inl rfl) ?_
          conv => whnf
          rw [hb1, nbb]
          conv => whnf
          refine ifB_of (fun h7 => ?_) (fun h7 => ?_)
          · have h7 : 0 < xs.length := by have := of_decide_eq_true h7; omega
            obtain rfl := he2 h7
            conv => whnf
            refine CallsF.call [0, 1] [] ke rfl rfl rfl rfl rfl (.inl rfl) ?_
            conv => whnf
            first | refine pt_of [3, 4, 5, 12, 13, 20, 21, 22] [0, 1, 2] [] (by rfl) ?_ | refine ptw_of [3, 4, 5, 12, 13, 20, 21, 22] [0, 1, 2] [] (by rfl) ?_
            conv => whnf

            refine LoopA.inv (fun m st => ∃ k : Nat, m + k = xs.length ∧ st = ⟨[(3, .bp 0 0), (4, .bp 2 0), (5, .pnil), (12, .ri .i64 xs), (13, .ri .i64 xs), (20, .ro 4 rows), (21, iv (rows.length : Nat)), (22, iv i), (141, iv (xs.length : Nat)), (142, iv k)], [some (.box [iv next, .sl 1 0 W2.length]), some (.arr 10 (irows W2)), some (.box (qcells next H' F'))], 3, 0⟩) xs.length [3, 4, 5, 12, 13, 20, 21, 22, 141, 142] [0, 1, 2] [] (by rfl) ?_ ?_
            · conv => whnf
              exact ⟨0, rfl, rfl⟩
            rintro m st ⟨k, hm, rfl⟩
            conv => whnf
            refine ifB_of (fun h9 => ?_) (fun h9 => ?_)
            · have h9 : k < xs.length := by have := of_decide_eq_true h9; omega
              conv => whnf
              refine need_of ((decide_eq_true ⟨Int.natCast_nonneg k, by omega⟩)) ?_
              conv => whnf
              refine need_of ((decide_eq_true ⟨Int.natCast_nonneg k, by omega⟩)) ?_
              conv => whnf
              rw [neq_self]
              conv => whnf
              rw [inc_nat k (by omega)]
              refine ⟨xs.length - (k + 1), [3, 4, 5, 12, 13, 20, 21, 22, 141, 142], [0, 1, 2], [], by omega, rfl, ?_⟩
              conv => whnf
              exact ⟨k + 1, by omega, rfl⟩
            clear h9 hm
            conv => whnf

            rw [inc_nat i (by omega)]
            refine ⟨(rows.length - (i + 1)), [3, 4, 5, 20, 21, 22], [0, 1, 2], [], by omega, rfl, ?_⟩
            conv => whnf
            exact ⟨i + 1, next, W2, H', F', by omega, hW2.lo.1, by omega, hW2, q', .inr rfl⟩
          · conv => whnf
            first | refine pt_of [3, 4, 5, 12, 13, 20, 21, 22] [0, 1, 2] [] (by rfl) ?_ | refine ptw_of [3, 4, 5, 12, 13, 20, 21, 22] [0, 1, 2] [] (by rfl) ?_
            conv => whnf

            refine LoopA.inv (fun m st => ∃ k : Nat, m + k = xs.length ∧ st = ⟨[(3, .bp 0 0), (4, .bp 2 0), (5, .pnil), (12, .ri .i64 xs), (13, .ri .i64 xs), (20, .ro 4 rows), (21, iv (rows.length : Nat)), (22, iv i), (141, iv (xs.length : Nat)), (142, iv k)], [some (.box [iv next, .sl 1 0 W2.length]), some (.arr 10 (irows W2)), some (.box (qcells next H' F'))], 3, 0⟩) xs.length [3, 4, 5, 12, 13, 20, 21, 22, 141, 142] [0, 1, 2] [] (by rfl) ?_ ?_
            · conv => whnf
              exact ⟨0, rfl, rfl⟩
            rintro m st ⟨k, hm, rfl⟩
            conv => whnf
            refine ifB_of (fun h9 => ?_) (fun h9 => ?_)
            · have h9 : k < xs.length := by have := of_decide_eq_true h9; omega
              conv => whnf
              refine need_of ((decide_eq_true ⟨Int.natCast_nonneg k, by omega⟩)) ?_
              conv => whnf
              refine need_of ((decide_eq_true ⟨Int.natCast_nonneg k, by omega⟩)) ?_
              conv => whnf
              rw [neq_self]
              conv => whnf
              rw [inc_nat k (by omega)]
              refine ⟨xs.length - (k + 1), [3, 4, 5, 12, 13, 20, 21, 22, 141, 142], [0, 1, 2], [], by omega, rfl, ?_⟩
              conv => whnf
              exact ⟨k + 1, by omega, rfl⟩
            clear h9 hm
            conv => whnf

            rw [inc_nat i (by omega)]
            refine ⟨(rows.length - (i + 1)), [3, 4, 5, 20, 21, 22], [0, 1, 2], [], by omega, rfl, ?_⟩
            conv => whnf
            exact ⟨i + 1, next, W2, H', F', by omega, hW2.lo.1, by omega, hW2, q', .inr rfl⟩
        · have hmm := mixed_ok (nn + next)
          obtain ⟨mm, hmme⟩ : ∃ mm, IntKind.wrap .i64 (nn + next) = mm := ⟨_, rfl⟩
          rw [hmme] at hmm
          conv => whnf
          refine ifB_of (fun h4 => ?_) (fun h4 => ?_)
          · conv => whnf
            refine ifB_of (fun h5 => ?_) (fun h5 => ?_)
            · conv => whnf
              rw [hmme]
              first | refine pt_of [3, 4, 5, 7, 8, 20, 21, 22] [0, 1, 2, 3] [] (by rfl) ?_ | refine ptw_of [3, 4, 5, 7, 8, 20, 21, 22] [0, 1, 2, 3] [] (by rfl) ?_
              conv => whnf
              have kq := put_spec next W hW mm v hmm
              have kx := rput_spec next W H F hW q mm v
              have hW2 := hW.putQ mm v
              generalize putQ next W mm v = W2 at *
              generalize putE next W mm = e at *
              refine CallsF.call [] [] (one_spec v) rfl rfl rfl rfl rfl (.inl rfl) ?_
              conv => whnf
              refine ⟨.inl ⟨_, rfl⟩, ?_⟩
              conv => whnf
              refine CallsF.call [0, 1] [] kq rfl rfl rfl rfl rfl (.inl rfl) ?_
              conv => whnf
              refine ⟨.inr (by repeat (first | exact same_nil | refine same_of rfl ?_)), ?_⟩
              conv => whnf
              refine CallsF.call [] [] (one_spec v) rfl rfl rfl rfl rfl (.inl rfl) ?_
              conv => whnf
              refine CallsA.call [2] [] kx rfl rfl rfl rfl rfl ?_
              rintro r h' ⟨rfl, H', F', q', rfl⟩
              refine ⟨.inl rfl, ?_⟩
              conv => whnf
              rw [neq_self]
              conv => whnf
              refine CallsF.call [] [] (one_spec 0) rfl rfl rfl rfl rfl (.inl rfl) ?_
              conv => whnf
              refine CallsF.call [] [] (put_nil mm 0) rfl rfl rfl rfl rfl (.inl rfl) ?_
              conv => whnf

              first | refine pt_of [3, 4, 5, 20, 21, 22] [0, 4, 2] [] (by rfl) ?_ | refine ptw_of [3, 4, 5, 20, 21, 22] [0, 4, 2] [] (by rfl) ?_
              conv => whnf
              have hl9 := hW2.len_le
              have kw := waiting_spec next W2 hl9
              have kx2 := rwaiting2_spec next W2 H' F' hW2 q'
              have kn := nextW next W2
              have ke := endW next W2
              have hxl : (nums W2).length = W2.length := by rw [nums, List.length_map]
              have he0 : W2 = [] ↔ nums W2 = [] := by unfold nums; rw [List.map_eq_nil_iff]
              obtain ⟨xs, hxs⟩ : ∃ xs, nums W2 = xs := ⟨_, rfl⟩
              rw [hxs] at kw kx2 hxl he0
              obtain ⟨e2, hE⟩ : ∃ e : Int, (if W2 = [] then (0 : Int) else 260) = e := ⟨_, rfl⟩
              rw [hE] at ke
              have hb1 : (e2 == 0) = ((xs.length : Int) == 0) := by
                rw [← hE]
                by_cases hc : W2 = []
                · rw [if_pos hc, he0.1 hc]; rfl
                · rw [if_neg hc]
                  have : ¬ (xs.length : Int) = 0 := fun h => hc (he0.2 (List.eq_nil_of_length_eq_zero (by omega)))
                  rw [beq_eq_false_iff_ne.2 this]; rfl
              have he2 : 0 < xs.length → e2 = 260 := fun h => by rw [← hE, if_neg (fun hc => by rw [he0.1 hc] at h; simp at h)]
              clear hE he0
              refine CallsF.call [0, 1] [] kw rfl rfl rfl rfl rfl (.inl rfl) ?_
              conv => whnf
              refine CallsF.call [2] [] kx2 rfl rfl rfl rfl rfl (.inl rfl) ?_
              conv => whnf
              first | refine pt_of [3, 4, 5, 12, 13, 20, 21, 22] [0, 1, 2] [] (by rfl) ?_ | refine ptw_of [3, 4, 5, 12, 13, 20, 21, 22] [0, 1, 2] [] (by rfl) ?_
              conv => whnf
              rw [neq_self]
              conv => whnf
              refine CallsF.call [0, 1] [] kn rfl rfl rfl rfl rfl (.inl rfl) ?_
              conv => whnf
              refine ⟨.inl ⟨_, rfl⟩, ?_⟩
              conv => whnf
              rw [neq_self]
              conv => whnf
              refine CallsF.call [0, 1] [] ke rfl rfl rfl rfl rfl (.inl rfl) ?_
              conv => whnf
              rw [hb1, nbb]
              conv => whnf
              refine ifB_of (fun h7 => ?_) (fun h7 => ?_)
              · have h7 : 0 < xs.length := by have := of_decide_eq_true h7; omega
                obtain rfl := he2 h7
                conv => whnf
                refine CallsF.call [0, 1] [] ke rfl rfl rfl rfl rfl (.inl rfl) ?_
                conv => whnf
                first | refine pt_of [3, 4, 5, 12, 13, 20, 21, 22] [0, 1, 2] [] (by rfl) ?_ | refine ptw_of [3, 4, 5, 12, 13, 20, 21, 22] [0, 1, 2] [] (by rfl) ?_
                conv => whnf

                refine LoopA.inv (fun m st => ∃ k : Nat, m + k = xs.length ∧ st = ⟨[(3, .bp 0 0), (4, .bp 2 0), (5, .pnil), (12, .ri .i64 xs), (13, .ri .i64 xs), (20, .ro 4 rows), (21, iv (rows.length : Nat)), (22, iv i), (141, iv (xs.length : Nat)), (142, iv k)], [some (.box [iv next, .sl 1 0 W2.length]), some (.arr 10 (irows W2)), some (.box (qcells next H' F'))], 3, 0⟩) xs.length [3, 4, 5, 12, 13, 20, 21, 22, 141, 142] [0, 1, 2] [] (by rfl) ?_ ?_
                · conv => whnf
                  exact ⟨0, rfl, rfl⟩
                rintro m st ⟨k, hm, rfl⟩
                conv => whnf
                refine ifB_of (fun h9 => ?_) (fun h9 => ?_)
                · have h9 : k < xs.length := by have := of_decide_eq_true h9; omega
                  conv => whnf
                  refine need_of ((decide_eq_true ⟨Int.natCast_nonneg k, by omega⟩)) ?_
                  conv => whnf
                  refine need_of ((decide_eq_true ⟨Int.natCast_nonneg k, by omega⟩)) ?_
                  conv => whnf
                  rw [neq_self]
                  conv => whnf
                  rw [inc_nat k (by omega)]
                  refine ⟨xs.length - (k + 1), [3, 4, 5, 12, 13, 20, 21, 22, 141, 142], [0, 1, 2], [], by omega, rfl, ?_⟩
                  conv => whnf
                  exact ⟨k + 1, by omega, rfl⟩
                clear h9 hm
                conv => whnf

                rw [inc_nat i (by omega)]
                refine ⟨(rows.length - (i + 1)), [3, 4, 5, 20, 21, 22], [0, 1, 2], [], by omega, rfl, ?_⟩
                conv => whnf
                exact ⟨i + 1, next, W2, H', F', by omega, hW2.lo.1, by omega, hW2, q', .inr rfl⟩
              · conv => whnf
                first | refine pt_of [3, 4, 5, 12, 13, 20, 21, 22] [0, 1, 2] [] (by rfl) ?_ | refine ptw_of [3, 4, 5, 12, 13, 20, 21, 22] [0, 1, 2] [] (by rfl) ?_
                conv => whnf

                refine LoopA.inv (fun m st => ∃ k : Nat, m + k = xs.length ∧ st = ⟨[(3, .bp 0 0), (4, .bp 2 0), (5, .pnil), (12, .ri .i64 xs), (13, .ri .i64 xs), (20, .ro 4 rows), (21, iv (rows.length : Nat)), (22, iv i), (141, iv (xs.length : Nat)), (142, iv k)], [some (.box [iv next, .sl 1 0 W2.length]), some (.arr 10 (irows W2)), some (.box (qcells next H' F'))], 3, 0⟩) xs.length [3, 4, 5, 12, 13, 20, 21, 22, 141, 142] [0, 1, 2] [] (by rfl) ?_ ?_
                · conv => whnf
                  exact ⟨0, rfl, rfl⟩
                rintro m st ⟨k, hm, rfl⟩
                conv => whnf
                refine ifB_of (fun h9 => ?_) (fun h9 => ?_)
                · have h9 : k < xs.length := by have := of_decide_eq_true h9; omega
                  conv => whnf
                  refine need_of ((decide_eq_true ⟨Int.natCast_nonneg k, by omega⟩)) ?_
                  conv => whnf
                  refine need_of ((decide_eq_true ⟨Int.natCast_nonneg k, by omega⟩)) ?_
                  conv => whnf
                  rw [neq_self]
                  conv => whnf
                  rw [inc_nat k (by omega)]
                  refine ⟨xs.length - (k + 1), [3, 4, 5, 12, 13, 20, 21, 22, 141, 142], [0, 1, 2], [], by omega, rfl, ?_⟩
                  conv => whnf
                  exact ⟨k + 1, by omega, rfl⟩
                clear h9 hm
                conv => whnf

                rw [inc_nat i (by omega)]
                refine ⟨(rows.length - (i + 1)), [3, 4, 5, 20, 21, 22], [0, 1, 2], [], by omega, rfl, ?_⟩
                conv => whnf
                exact ⟨i + 1, next, W2, H', F', by omega, hW2.lo.1, by omega, hW2, q', .inr rfl⟩
            · conv => whnf
              first | refine pt_of [3, 4, 5, 7, 8, 20, 21, 22] [0, 1, 2, 3] [] (by rfl) ?_ | refine ptw_of [3, 4, 5, 7, 8, 20, 21, 22] [0, 1, 2, 3] [] (by rfl) ?_
              conv => whnf
              have kq := put_spec next W hW nn v hnn
              have kx := rput_spec next W H F hW q nn v
              have hW2 := hW.putQ nn v
              generalize putQ next W nn v = W2 at *
              generalize putE next W nn = e at *
              refine CallsF.call [] [] (one_spec v) rfl rfl rfl rfl rfl (.inl rfl) ?_
              conv => whnf
              refine ⟨.inl ⟨_, rfl⟩, ?_⟩
              conv => whnf
              refine CallsF.call [0, 1] [] kq rfl rfl rfl rfl rfl (.inl rfl) ?_
              conv => whnf
              refine ⟨.inr (by repeat (first | exact same_nil | refine same_of rfl ?_)), ?_⟩
              conv => whnf
              refine CallsF.call [] [] (one_spec v) rfl rfl rfl rfl rfl (.inl rfl) ?_
              conv => whnf
              refine CallsA.call [2] [] kx rfl rfl rfl rfl rfl ?_
              rintro r h' ⟨rfl, H', F', q', rfl⟩
              refine ⟨.inl rfl, ?_⟩
              conv => whnf
              rw [neq_self]
              conv => whnf
              refine CallsF.call [] [] (one_spec 0) rfl rfl rfl rfl rfl (.inl rfl) ?_
              conv => whnf
              refine CallsF.call [] [] (put_nil nn 0) rfl rfl rfl rfl rfl (.inl rfl) ?_
              conv => whnf

              first | refine pt_of [3, 4, 5, 20, 21, 22] [0, 4, 2] [] (by rfl) ?_ | refine ptw_of [3, 4, 5, 20, 21, 22] [0, 4, 2] [] (by rfl) ?_
              conv => whnf
              have hl9 := hW2.len_le
              have kw := waiting_spec next W2 hl9
              have kx2 := rwaiting2_spec next W2 H' F' hW2 q'
              have kn := nextW next W2
              have ke := endW next W2
              have hxl : (nums W2).length = W2.length := by rw [nums, List.length_map]
              have he0 : W2 = [] ↔ nums W2 = [] := by unfold nums; rw [List.map_eq_nil_iff]
              obtain ⟨xs, hxs⟩ : ∃ xs, nums W2 = xs := ⟨_, rfl⟩
              rw [hxs] at kw kx2 hxl he0
              obtain ⟨e2, hE⟩ : ∃ e : Int, (if W2 = [] then (0 : Int) else 260) = e := ⟨_, rfl⟩
              rw [hE] at ke
              have hb1 : (e2 == 0) = ((xs.length : Int) == 0) := by
                rw [← hE]
                by_cases hc : W2 = []
                · rw [if_pos hc, he0.1 hc]; rfl
                · rw [if_neg hc]
                  have : ¬ (xs.length : Int) = 0 := fun h => hc (he0.2 (List.eq_nil_of_length_eq_zero (by omega)))
                  rw [beq_eq_false_iff_ne.2 this]; rfl
              have he2 : 0 < xs.length → e2 = 260 := fun h => by rw [← hE, if_neg (fun hc => by rw [he0.1 hc] at h; simp at h)]
              clear hE he0
              refine CallsF.call [0, 1] [] kw rfl rfl rfl rfl rfl (.inl rfl) ?_
              conv => whnf
              refine CallsF.call [2] [] kx2 rfl rfl rfl rfl rfl (.inl rfl) ?_
              conv => whnf
              first | refine pt_of [3, 4, 5, 12, 13, 20, 21, 22] [0, 1, 2] [] (by rfl) ?_ | refine ptw_of [3, 4, 5, 12, 13, 20, 21, 22] [0, 1, 2] [] (by rfl) ?_
              conv => whnf
              rw [neq_self]
              conv => whnf
              refine CallsF.call [0, 1] [] kn rfl rfl rfl rfl rfl (.inl rfl) ?_
              conv => whnf
              refine ⟨.inl ⟨_, rfl⟩, ?_⟩
              conv => whnf
              rw [neq_self]
              conv => whnf
              refine CallsF.call [0, 1] [] ke rfl rfl rfl rfl rfl (.inl rfl) ?_
              conv => whnf
              rw [hb1, nbb]
              conv => whnf
              refine ifB_of (fun h7 => ?_) (fun h7 => ?_)
              · have h7 : 0 < xs.length := by have := of_decide_eq_true h7; omega
                obtain rfl := he2 h7
                conv => whnf
                refine CallsF.call [0, 1] [] ke rfl rfl rfl rfl rfl (.inl rfl) ?_
                conv => whnf
                first | refine pt_of [3, 4, 5, 12, 13, 20, 21, 22] [0, 1, 2] [] (by rfl) ?_ | refine ptw_of [3, 4, 5, 12, 13, 20, 21, 22] [0, 1, 2] [] (by rfl) ?_
                conv => whnf

                refine LoopA.inv (fun m st => ∃ k : Nat, m + k = xs.length ∧ st = ⟨[(3, .bp 0 0), (4, .bp 2 0), (5, .pnil), (12, .ri .i64 xs), (13, .ri .i64 xs), (20, .ro 4 rows), (21, iv (rows.length : Nat)), (22, iv i), (141, iv (xs.length : Nat)), (142, iv k)], [some (.box [iv next, .sl 1 0 W2.length]), some (.arr 10 (irows W2)), some (.box (qcells next H' F'))], 3, 0⟩) xs.length [3, 4, 5, 12, 13, 20, 21, 22, 141, 142] [0, 1, 2] [] (by rfl) ?_ ?_
                · conv => whnf
                  exact ⟨0, rfl, rfl⟩
                rintro m st ⟨k, hm, rfl⟩
                conv => whnf
                refine ifB_of (fun h9 => ?_) (fun h9 => ?_)
                · have h9 : k < xs.length := by have := of_decide_eq_true h9; omega
                  conv => whnf
                  refine need_of ((decide_eq_true ⟨Int.natCast_nonneg k, by omega⟩)) ?_
                  conv => whnf
                  refine need_of ((decide_eq_true ⟨Int.natCast_nonneg k, by omega⟩)) ?_
                  conv => whnf
                  rw [neq_self]
                  conv => whnf
                  rw [inc_nat k (by omega)]
                  refine ⟨xs.length - (k + 1), [3, 4, 5, 12, 13, 20, 21, 22, 141, 142], [0, 1, 2], [], by omega, rfl, ?_⟩
                  conv => whnf
                  exact ⟨k + 1, by omega, rfl⟩
                clear h9 hm
                conv => whnf

                rw [inc_nat i (by omega)]
                refine ⟨(rows.length - (i + 1)), [3, 4, 5, 20, 21, 22], [0, 1, 2], [], by omega, rfl, ?_⟩
                conv => whnf
                exact ⟨i + 1, next, W2, H', F', by omega, hW2.lo.1, by omega, hW2, q', .inr rfl⟩
              · conv => whnf
                first | refine pt_of [3, 4, 5, 12, 13, 20, 21, 22] [0, 1, 2] [] (by rfl) ?_ | refine ptw_of [3, 4, 5, 12, 13, 20, 21, 22] [0, 1, 2] [] (by rfl) ?_
                conv => whnf

                refine LoopA.inv (fun m st => ∃ k : Nat, m + k = xs.length ∧ st = ⟨[(3, .bp 0 0), (4, .bp 2 0), (5, .pnil), (12, .ri .i64 xs), (13, .ri .i64 xs), (20, .ro 4 rows), (21, iv (rows.length : Nat)), (22, iv i), (141, iv (xs.length : Nat)), (142, iv k)], [some (.box [iv next, .sl 1 0 W2.length]), some (.arr 10 (irows W2)), some (.box (qcells next H' F'))], 3, 0⟩) xs.length [3, 4, 5, 12, 13, 20, 21, 22, 141, 142] [0, 1, 2] [] (by rfl) ?_ ?_
                · conv => whnf
                  exact ⟨0, rfl, rfl⟩
                rintro m st ⟨k, hm, rfl⟩
                conv => whnf
                refine ifB_of (fun h9 => ?_) (fun h9 => ?_)
                · have h9 : k < xs.length := by have := of_decide_eq_true h9; omega
                  conv => whnf
                  refine need_of ((decide_eq_true ⟨Int.natCast_nonneg k, by omega⟩)) ?_
                  conv => whnf
                  refine need_of ((decide_eq_true ⟨Int.natCast_nonneg k, by omega⟩)) ?_
                  conv => whnf
                  rw [neq_self]
                  conv => whnf
                  rw [inc_nat k (by omega)]
                  refine ⟨xs.length - (k + 1), [3, 4, 5, 12, 13, 20, 21, 22, 141, 142], [0, 1, 2], [], by omega, rfl, ?_⟩
                  conv => whnf
                  exact ⟨k + 1, by omega, rfl⟩
                clear h9 hm
                conv => whnf

                rw [inc_nat i (by omega)]
                refine ⟨(rows.length - (i + 1)), [3, 4, 5, 20, 21, 22], [0, 1, 2], [], by omega, rfl, ?_⟩
                conv => whnf
                exact ⟨i + 1, next, W2, H', F', by omega, hW2.lo.1, by omega, hW2, q', .inr rfl⟩
          · conv => whnf
            first | refine pt_of [3, 4, 5, 7, 8, 20, 21, 22] [0, 1, 2, 3] [] (by rfl) ?_ | refine ptw_of [3, 4, 5, 7, 8, 20, 21, 22] [0, 1, 2, 3] [] (by rfl) ?_
            conv => whnf
            have kq := put_spec next W hW nn v hnn
            have kx := rput_spec next W H F hW q nn v
            have hW2 := hW.putQ nn v
            generalize putQ next W nn v = W2 at *
            generalize putE next W nn = e at *
            refine CallsF.call [] [] (one_spec v) rfl rfl rfl rfl rfl (.inl rfl) ?_
            conv => whnf
            refine ⟨.inl ⟨_, rfl⟩, ?_⟩
            conv => whnf
            refine CallsF.call [0, 1] [] kq rfl rfl rfl rfl rfl (.inl rfl) ?_
            conv => whnf
            refine ⟨.inr (by repeat (first | exact same_nil | refine same_of rfl ?_)), ?_⟩
            conv => whnf
            refine CallsF.call [] [] (one_spec v) rfl rfl rfl rfl rfl (.inl rfl) ?_
            conv => whnf
            refine CallsA.call [2] [] kx rfl rfl rfl rfl rfl ?_
            rintro r h' ⟨rfl, H', F', q', rfl⟩
            refine ⟨.inl rfl, ?_⟩
            conv => whnf
            rw [neq_self]
            conv => whnf
            refine CallsF.call [] [] (one_spec 0) rfl rfl rfl rfl rfl (.inl rfl) ?_
            conv => whnf
            refine CallsF.call [] [] (put_nil nn 0) rfl rfl rfl rfl rfl (.inl rfl) ?_
            conv => whnf

            first | refine pt_of [3, 4, 5, 20, 21, 22] [0, 4, 2] [] (by rfl) ?_ | refine ptw_of [3, 4, 5, 20, 21, 22] [0, 4, 2] [] (by rfl) ?_
            conv => whnf
            have hl9 := hW2.len_le
            have kw := waiting_spec next W2 hl9
            have kx2 := rwaiting2_spec next W2 H' F' hW2 q'
            have kn := nextW next W2
            have ke := endW next W2
            have hxl : (nums W2).length = W2.length := by rw [nums, List.length_map]
            have he0 : W2 = [] ↔ nums W2 = [] := by unfold nums; rw [List.map_eq_nil_iff]
            obtain ⟨xs, hxs⟩ : ∃ xs, nums W2 = xs := ⟨_, rfl⟩
            rw [hxs] at kw kx2 hxl he0
            obtain ⟨e2, hE⟩ : ∃ e : Int, (if W2 = [] then (0 : Int) else 260) = e := ⟨_, rfl⟩
            rw [hE] at ke
            have hb1 : (e2 == 0) = ((xs.length : Int) == 0) := by
              rw [← hE]
              by_cases hc : W2 = []
              · rw [if_pos hc, he0.1 hc]; rfl
              · rw [if_neg hc]
                have : ¬ (xs.length : Int) = 0 := fun h => hc (he0.2 (List.eq_nil_of_length_eq_zero (by omega)))
                rw [beq_eq_false_iff_ne.2 this]; rfl
            have he2 : 0 < xs.length → e2 = 260 := fun h => by rw [← hE, if_neg (fun hc => by rw [he0.1 hc] at h; simp at h)]
            clear hE he0
            refine CallsF.call [0, 1] [] kw rfl rfl rfl rfl rfl (.inl rfl) ?_
            conv => whnf
            refine CallsF.call [2] [] kx2 rfl rfl rfl rfl rfl (.inl rfl) ?_
            conv => whnf
            first | refine pt_of [3, 4, 5, 12, 13, 20, 21, 22] [0, 1, 2] [] (by rfl) ?_ | refine ptw_of [3, 4, 5, 12, 13, 20, 21, 22] [0, 1, 2] [] (by rfl) ?_
            conv => whnf
            rw [neq_self]
            conv => whnf
            refine CallsF.call [0, 1] [] kn rfl rfl rfl rfl rfl (.inl rfl) ?_
            conv => whnf
            refine ⟨.inl ⟨_, rfl⟩, ?_⟩
            conv => whnf
            rw [neq_self]
            conv => whnf
            refine CallsF.call [0, 1] [] ke rfl rfl rfl rfl rfl (.inl rfl) ?_
            conv => whnf
            rw [hb1, nbb]
            conv => whnf
            refine ifB_of (fun h7 => ?_) (fun h7 => ?_)
            · have h7 : 0 < xs.length := by have := of_decide_eq_true h7; omega
              obtain rfl := he2 h7
              conv => whnf
              refine CallsF.call [0, 1] [] ke rfl rfl rfl rfl rfl (.inl rfl) ?_
              conv => whnf
              first | refine pt_of [3, 4, 5, 12, 13, 20, 21, 22] [0, 1, 2] [] (by rfl) ?_ | refine ptw_of [3, 4, 5, 12, 13, 20, 21, 22] [0, 1, 2] [] (by rfl) ?_
              conv => whnf

              refine LoopA.inv (fun m st => ∃ k : Nat, m + k = xs.length ∧ st = ⟨[(3, .bp 0 0), (4, .bp 2 0), (5, .pnil), (12, .ri .i64 xs), (13, .ri .i64 xs), (20, .ro 4 rows), (21, iv (rows.length : Nat)), (22, iv i), (141, iv (xs.length : Nat)), (142, iv k)], [some (.box [iv next, .sl 1 0 W2.length]), some (.arr 10 (irows W2)), some (.box (qcells next H' F'))], 3, 0⟩) xs.length [3, 4, 5, 12, 13, 20, 21, 22, 141, 142] [0, 1, 2] [] (by rfl) ?_ ?_
              · conv => whnf
                exact ⟨0, rfl, rfl⟩
              rintro m st ⟨k, hm, rfl⟩
              conv => whnf
              refine ifB_of (fun h9 => ?_) (fun h9 => ?_)
              · have h9 : k < xs.length := by have := of_decide_eq_true h9; omega
                conv => whnf
                refine need_of ((decide_eq_true ⟨Int.natCast_nonneg k, by omega⟩)) ?_
                conv => whnf
                refine need_of ((decide_eq_true ⟨Int.natCast_nonneg k, by omega⟩)) ?_
                conv => whnf
                rw [neq_self]
                conv => whnf
                rw [inc_nat k (by omega)]
                refine ⟨xs.length - (k + 1), [3, 4, 5, 12, 13, 20, 21, 22, 141, 142], [0, 1, 2], [], by omega, rfl, ?_⟩
                conv => whnf
                exact ⟨k + 1, by omega, rfl⟩
              clear h9 hm
              conv => whnf

              rw [inc_nat i (by omega)]
              refine ⟨(rows.length - (i + 1)), [3, 4, 5, 20, 21, 22], [0, 1, 2], [], by omega, rfl, ?_⟩
              conv => whnf
              exact ⟨i + 1, next, W2, H', F', by omega, hW2.lo.1, by omega, hW2, q', .inr rfl⟩
            · conv => whnf
              first | refine pt_of [3, 4, 5, 12, 13, 20, 21, 22] [0, 1, 2] [] (by rfl) ?_ | refine ptw_of [3, 4, 5, 12, 13, 20, 21, 22] [0, 1, 2] [] (by rfl) ?_
              conv => whnf

              refine LoopA.inv (fun m st => ∃ k : Nat, m + k = xs.length ∧ st = ⟨[(3, .bp 0 0), (4, .bp 2 0), (5, .pnil), (12, .ri .i64 xs), (13, .ri .i64 xs), (20, .ro 4 rows), (21, iv (rows.length : Nat)), (22, iv i), (141, iv (xs.length : Nat)), (142, iv k)], [some (.box [iv next, .sl 1 0 W2.length]), some (.arr 10 (irows W2)), some (.box (qcells next H' F'))], 3, 0⟩) xs.length [3, 4, 5, 12, 13, 20, 21, 22, 141, 142] [0, 1, 2] [] (by rfl) ?_ ?_
              · conv => whnf
                exact ⟨0, rfl, rfl⟩
              rintro m st ⟨k, hm, rfl⟩
              conv => whnf
              refine ifB_of (fun h9 => ?_) (fun h9 => ?_)
              · have h9 : k < xs.length := by have := of_decide_eq_true h9; omega
                conv => whnf
                refine need_of ((decide_eq_true ⟨Int.natCast_nonneg k, by omega⟩)) ?_
                conv => whnf
                refine need_of ((decide_eq_true ⟨Int.natCast_nonneg k, by omega⟩)) ?_
                conv => whnf
                rw [neq_self]
                conv => whnf
                rw [inc_nat k (by omega)]
                refine ⟨xs.length - (k + 1), [3, 4, 5, 12, 13, 20, 21, 22, 141, 142], [0, 1, 2], [], by omega, rfl, ?_⟩
                conv => whnf
                exact ⟨k + 1, by omega, rfl⟩
              clear h9 hm
              conv => whnf

              rw [inc_nat i (by omega)]
              refine ⟨(rows.length - (i + 1)), [3, 4, 5, 20, 21, 22], [0, 1, 2], [], by omega, rfl, ?_⟩
              conv => whnf
              exact ⟨i + 1, next, W2, H', F', by omega, hW2.lo.1, by omega, hW2, q', .inr rfl⟩
      · clear hnn
        have hb : next < 900000 := by omega
        have kq := take_spec next W hW.lo hW.len_le
        have kx := rtake2_spec next W H F hW hb q
        have htl := tk_le next W
        have hwl := hW.len_le
        obtain ⟨O, hO⟩ : ∃ O, outR W (tk next W) = O := ⟨_, rfl⟩
        rw [hO] at kq kx
        obtain ⟨t, ht⟩ : ∃ t, tk next W = t := ⟨_, rfl⟩
        rw [ht] at kq kx htl hO
        obtain ⟨nx, hnx⟩ : ∃ nx, next + (t : Int) = nx := ⟨_, rfl⟩
        rw [hnx] at kq kx
        generalize hW2e : W.drop t = W2 at kq kx
        conv => whnf
        refine CallsF.call [0, 1] [] kq rfl rfl rfl rfl rfl (.inl rfl) ?_
        conv => whnf
        refine CallsA.call [2] [] kx rfl rfl rfl rfl rfl ?_
        rintro r h' ⟨rfl, H', F', hW2, q', rfl⟩
        refine ⟨.inl rfl, ?_⟩
        conv => whnf
        rw [neq_self]
        conv => whnf
        refine CallsF.call [] [] take_nil rfl rfl rfl rfl rfl (.inl rfl) ?_
        conv => whnf
        refine LoopA.inv (fun m st => ∃ k : Nat, m + k = O.length ∧ st = ⟨[(3, .bp 0 0), (4, .bp 1 0), (5, .pnil), (9, .ro 9 O), (10, .ro 9 O), (20, .ro 4 rows), (21, iv (rows.length : Nat)), (22, iv i), (88, iv (O.length : Nat)), (89, iv k)], [some (.box [iv nx, .sl 2 0 W2.length]), some (.box (qcells nx H' F')), some (.arr 10 (irows W2))], 3, 0⟩) O.length [3, 4, 5, 9, 10, 20, 21, 22, 88, 89] [0, 2, 4] [] (by rfl) ?_ ?_
        · conv => whnf
          exact ⟨0, rfl, rfl⟩
        rintro m st ⟨k, hm, rfl⟩
        conv => whnf
        refine ifB_of (fun h9 => ?_) (fun h9 => ?_)
        · have h9 : k < O.length := by have := of_decide_eq_true h9; omega
          obtain ⟨u, hu⟩ := frow_at hO h9
          have hol : O.length ≤ 9 := by rw [← hO, outR, List.length_map, List.length_take]; omega
          conv => whnf
          rw [aop_idxS_ro hu rfl rfl]
          conv => whnf
          rw [aop_idxS_ro hu rfl rfl]
          conv => whnf
          refine CallsF.call [] [] (same24_spec u) rfl rfl rfl rfl rfl (.inl rfl) ?_
          conv => whnf
          rw [inc_nat k (by omega)]
          refine ⟨O.length - (k + 1), [3, 4, 5, 9, 10, 20, 21, 22, 88, 89], [0, 1, 2], [], by omega, rfl, ?_⟩
          conv => whnf
          exact ⟨k + 1, by omega, rfl⟩
        clear h9 hm
        conv => whnf

        first | refine pt_of [3, 4, 5, 20, 21, 22] [0, 2, 1] [] (by rfl) ?_ | refine ptw_of [3, 4, 5, 20, 21, 22] [0, 2, 1] [] (by rfl) ?_
        conv => whnf
        have hl9 := hW2.len_le
        have kw := waiting_spec nx W2 hl9
        have kx2 := rwaiting2_spec nx W2 H' F' hW2 q'
        have kn := nextW nx W2
        have ke := endW nx W2
        have hxl : (nums W2).length = W2.length := by rw [nums, List.length_map]
        have he0 : W2 = [] ↔ nums W2 = [] := by unfold nums; rw [List.map_eq_nil_iff]
        obtain ⟨xs, hxs⟩ : ∃ xs, nums W2 = xs := ⟨_, rfl⟩
        rw [hxs] at kw kx2 hxl he0
        obtain ⟨e2, hE⟩ : ∃ e : Int, (if W2 = [] then (0 : Int) else 260) = e := ⟨_, rfl⟩
        rw [hE] at ke
        have hb1 : (e2 == 0) = ((xs.length : Int) == 0) := by
          rw [← hE]
          by_cases hc : W2 = []
          · rw [if_pos hc, he0.1 hc]; rfl
          · rw [if_neg hc]
            have : ¬ (xs.length : Int) = 0 := fun h => hc (he0.2 (List.eq_nil_of_length_eq_zero (by omega)))
            rw [beq_eq_false_iff_ne.2 this]; rfl
        have he2 : 0 < xs.length → e2 = 260 := fun h => by rw [← hE, if_neg (fun hc => by rw [he0.1 hc] at h; simp at h)]
        clear hE he0
        refine CallsF.call [0, 1] [] kw rfl rfl rfl rfl rfl (.inl rfl) ?_
        conv => whnf
        refine CallsF.call [2] [] kx2 rfl rfl rfl rfl rfl (.inl rfl) ?_
        conv => whnf
        first | refine pt_of [3, 4, 5, 12, 13, 20, 21, 22] [0, 1, 2] [] (by rfl) ?_ | refine ptw_of [3, 4, 5, 12, 13, 20, 21, 22] [0, 1, 2] [] (by rfl) ?_
        conv => whnf
        rw [neq_self]
        conv => whnf
        refine CallsF.call [0, 1] [] kn rfl rfl rfl rfl rfl (.inl rfl) ?_
        conv => whnf
        refine ⟨.inl ⟨_, rfl⟩, ?_⟩
        conv => whnf
        rw [neq_self]
        conv => whnf
        refine CallsF.call [0, 1] [] ke rfl rfl rfl rfl rfl (.inl rfl) ?_
        conv => whnf
        rw [hb1, nbb]
        conv => whnf
        refine ifB_of (fun h7 => ?_) (fun h7 => ?_)
        · have h7 : 0 < xs.length := by have := of_decide_eq_true h7; omega
          obtain rfl := he2 h7
          conv => whnf
          refine CallsF.call [0, 1] [] ke rfl rfl rfl rfl rfl (.inl rfl) ?_
          conv => whnf
          first | refine pt_of [3, 4, 5, 12, 13, 20, 21, 22] [0, 1, 2] [] (by rfl) ?_ | refine ptw_of [3, 4, 5, 12, 13, 20, 21, 22] [0, 1, 2] [] (by rfl) ?_
          conv => whnf

          refine LoopA.inv (fun m st => ∃ k : Nat, m + k = xs.length ∧ st = ⟨[(3, .bp 0 0), (4, .bp 2 0), (5, .pnil), (12, .ri .i64 xs), (13, .ri .i64 xs), (20, .ro 4 rows), (21, iv (rows.length : Nat)), (22, iv i), (141, iv (xs.length : Nat)), (142, iv k)], [some (.box [iv nx, .sl 1 0 W2.length]), some (.arr 10 (irows W2)), some (.box (qcells nx H' F'))], 3, 0⟩) xs.length [3, 4, 5, 12, 13, 20, 21, 22, 141, 142] [0, 1, 2] [] (by rfl) ?_ ?_
          · conv => whnf
            exact ⟨0, rfl, rfl⟩
          rintro m st ⟨k, hm, rfl⟩
          conv => whnf
          refine ifB_of (fun h9 => ?_) (fun h9 => ?_)
          · have h9 : k < xs.length := by have := of_decide_eq_true h9; omega
            conv => whnf
            refine need_of ((decide_eq_true ⟨Int.natCast_nonneg k, by omega⟩)) ?_
            conv => whnf
            refine need_of ((decide_eq_true ⟨Int.natCast_nonneg k, by omega⟩)) ?_
            conv => whnf
            rw [neq_self]
            conv => whnf
            rw [inc_nat k (by omega)]
            refine ⟨xs.length - (k + 1), [3, 4, 5, 12, 13, 20, 21, 22, 141, 142], [0, 1, 2], [], by omega, rfl, ?_⟩
            conv => whnf
            exact ⟨k + 1, by omega, rfl⟩
          clear h9 hm
          conv => whnf

          rw [inc_nat i (by omega)]
          refine ⟨(rows.length - (i + 1)), [3, 4, 5, 20, 21, 22], [0, 1, 2], [], by omega, rfl, ?_⟩
          conv => whnf
          exact ⟨i + 1, nx, W2, H', F', by omega, hW2.lo.1, by omega, hW2, q', .inr rfl⟩
        · conv => whnf
          first | refine pt_of [3, 4, 5, 12, 13, 20, 21, 22] [0, 1, 2] [] (by rfl) ?_ | refine ptw_of [3, 4, 5, 12, 13, 20, 21, 22] [0, 1, 2] [] (by rfl) ?_
          conv => whnf

          refine LoopA.inv (fun m st => ∃ k : Nat, m + k = xs.length ∧ st = ⟨[(3, .bp 0 0), (4, .bp 2 0), (5, .pnil), (12, .ri .i64 xs), (13, .ri .i64 xs), (20, .ro 4 rows), (21, iv (rows.length : Nat)), (22, iv i), (141, iv (xs.length : Nat)), (142, iv k)], [some (.box [iv nx, .sl 1 0 W2.length]), some (.arr 10 (irows W2)), some (.box (qcells nx H' F'))], 3, 0⟩) xs.length [3, 4, 5, 12, 13, 20, 21, 22, 141, 142] [0, 1, 2] [] (by rfl) ?_ ?_
          · conv => whnf
            exact ⟨0, rfl, rfl⟩
          rintro m st ⟨k, hm, rfl⟩
          conv => whnf
          refine ifB_of (fun h9 => ?_) (fun h9 => ?_)
          · have h9 : k < xs.length := by have := of_decide_eq_true h9; omega
            conv => whnf
            refine need_of ((decide_eq_true ⟨Int.natCast_nonneg k, by omega⟩)) ?_
            conv => whnf
            refine need_of ((decide_eq_true ⟨Int.natCast_nonneg k, by omega⟩)) ?_
            conv => whnf
            rw [neq_self]
            conv => whnf
            rw [inc_nat k (by omega)]
            refine ⟨xs.length - (k + 1), [3, 4, 5, 12, 13, 20, 21, 22, 141, 142], [0, 1, 2], [], by omega, rfl, ?_⟩
            conv => whnf
            exact ⟨k + 1, by omega, rfl⟩
          clear h9 hm
          conv => whnf

          rw [inc_nat i (by omega)]
          refine ⟨(rows.length - (i + 1)), [3, 4, 5, 20, 21, 22], [0, 1, 2], [], by omega, rfl, ?_⟩
          conv => whnf
          exact ⟨i + 1, nx, W2, H', F', by omega, hW2.lo.1, by omega, hW2, q', .inr rfl⟩
    · conv => whnf
      refine CallsF.call [] [] next_nil rfl rfl rfl rfl rfl (.inl rfl) ?_
      conv => whnf
      refine CallsF.call [] [] waiting_nil rfl rfl rfl rfl rfl (.inl rfl) ?_
      conv => whnf
      refine CallsF.call [] [] end_nil rfl rfl rfl rfl rfl (.inl rfl) ?_
      conv => whnf
      exact ⟨[], [], rfl, rfl, rfl⟩

end Go.Proofs.TryN

