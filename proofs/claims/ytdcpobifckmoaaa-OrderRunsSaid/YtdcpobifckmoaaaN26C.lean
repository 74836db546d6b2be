/- Layer 26: a number's place among those that wait. -/
import Derived.Test.YtdcpobifckmoaaaN26B
namespace Go.Proofs.TryN
open Go Go.AL Go.Proofs

theorem inc_nat (n : Nat) (h : n < 9223372036854775807) : IntKind.wrap .i64 ((n : Int) + 1) = ((n + 1 : Nat) : Int) := by rw [wrap_id (by omega) (by omega)]; rfl

theorem half_eq (i j : Nat) (h : i + j < 1000000) : IntKind.wrap .i64 ((IntKind.wrap .u64 (IntKind.wrap .i64 ((i : Int) + (j : Int)))).fdiv (2 ^ min (Int.toNat 1) (IntKind.bits .u64))) = (((i + j) / 2 : Nat) : Int) := by
  rw [wrap_id (n := (i : Int) + j) (by omega) (by omega), wrap_u64 (by omega) (by omega)]
  have : ((i : Int) + (j : Int)).fdiv (2 ^ min (Int.toNat 1) (IntKind.bits .u64)) = (((i + j) / 2 : Nat) : Int) := by
    show ((i : Int) + (j : Int)).fdiv 2 = _
    rw [Int.fdiv_eq_ediv_of_nonneg _ (by omega)]; omega
  rw [this, wrap_id (by omega) (by omega)]

theorem irow_at {W : List (Int × Int)} {rows : List (List AV)} (hr : irows W = rows) {i : Nat} (h : i < W.length) : nth rows (i : Int).toNat = some (irow W[i]) := by
  rw [Int.toNat_natCast, nth_get, ← hr, irows, List.getElem?_map, List.getElem?_eq_getElem h]; rfl

set_option maxRecDepth 10000 in
theorem search_spec (W : List (Int × Int)) (n : Int) (p : Nat) (hW : W.length < 1000) (hd : ∀ x ∈ W, -9223372036854775808 ≤ x.1 - n ∧ x.1 - n ≤ 9223372036854775807) (hp : p ≤ W.length)
    (h1 : ∀ (t : Nat) (h : t < W.length), t < p → W[t].1 < n) (h2 : ∀ (t : Nat) (h : t < W.length), p ≤ t → n ≤ W[t].1) :
    CallsF Try.prog 22 [.ro 10 (irows W), iv n, .fn 23 []] [] (.tup [iv p, .bool (W[p]?.any fun x => x.1 == n)]) [] := by
  obtain ⟨rows, hr⟩ : ∃ rows, irows W = rows := ⟨_, rfl⟩
  have hl : rows.length = W.length := by rw [← hr, irows, List.length_map]
  rw [hr]
  refine e22 ?_
  conv => whnf
  refine LoopA.inv (fun k st => ∃ i j : Nat, k + i = j ∧ i ≤ p ∧ p ≤ j ∧ j ≤ W.length ∧ st = ⟨[(0, .ro 10 rows), (1, iv n), (2, .fn 23 []), (8, iv (rows.length : Nat)), (9, iv i), (10, iv j)], [], 0, 0⟩) W.length [0, 1, 2, 8, 9, 10] [] [] (by rfl) ?_ ?_
  · conv => whnf
    exact ⟨0, W.length, rfl, Nat.zero_le _, hp, Nat.le_refl _, by rw [← hl]; rfl⟩
  rintro k st ⟨i, j, hk, hi, hj, hjl, rfl⟩
  conv => whnf
  refine ifB_of (fun h3 => ?_) (fun h3 => ?_)
  · have h3 : i < j := by have := of_decide_eq_true h3; omega
    obtain ⟨m, hm⟩ : ∃ m, (i + j) / 2 = m := ⟨_, rfl⟩
    have hml : m < W.length := by omega
    have hrow := irow_at hr hml
    conv => whnf
    rw [half_eq i j (by omega), hm]
    rw [aop_idxS_ro hrow rfl rfl]
    conv => whnf
    have hdm := hd W[m] (List.getElem_mem hml)
    have k0 := cmp_spec W[m] n
    rw [wrap_id hdm.1 hdm.2] at k0
    refine CallsF.call [] [] k0 rfl rfl rfl rfl rfl (.inl rfl) ?_
    conv => whnf
    refine ifB_of (fun h4 => ?_) (fun h4 => ?_)
    · have h4 : W[m].1 < n := by have := of_decide_eq_true h4; omega
      have hmp : m < p := by
        apply Classical.byContradiction
        intro hc
        have := h2 m hml (by omega)
        omega
      conv => whnf
      refine ⟨(j - (m + 1)), [0, 1, 2, 8, 9, 10], [], [], by omega, rfl, ?_⟩
      conv => whnf
      refine ⟨m + 1, j, by omega, by omega, by omega, by omega, ?_⟩
      rw [inc_nat m (by omega)]
    · have h4 : n ≤ W[m].1 := by have := of_decide_eq_false h4; omega
      have hmp : p ≤ m := by
        apply Classical.byContradiction
        intro hc
        have := h1 m hml (by omega)
        omega
      conv => whnf
      refine ⟨(m - i), [0, 1, 2, 8, 9, 10], [], [], by omega, rfl, ?_⟩
      conv => whnf
      exact ⟨i, m, by omega, by omega, by omega, by omega, rfl⟩
  · have h3 : i = p := by have := of_decide_eq_false h3; omega
    subst h3
    conv => whnf
    refine ifB_of (fun h5 => ?_) (fun h5 => ?_)
    · have h5 : i < W.length := by have := of_decide_eq_true h5; omega
      have hrow := irow_at hr h5
      conv => whnf
      rw [aop_idxS_ro hrow rfl rfl]
      conv => whnf
      have hdm := hd W[i] (List.getElem_mem h5)
      have k0 := cmp_spec W[i] n
      rw [wrap_id hdm.1 hdm.2] at k0
      refine CallsF.call [] [] k0 rfl rfl rfl rfl rfl (.inl rfl) ?_
      conv => whnf
      refine ⟨[], [], rfl, ?_, rfl⟩
      rw [List.getElem?_eq_getElem h5]
      have e : (W[i].1 - n == 0) = (W[i].1 == n) := by
        generalize W[i].1 = q
        by_cases hc : q = n
        · subst hc; rw [Int.sub_self, beq_self_eq_true (0 : Int), beq_self_eq_true q]
        · have h6 : ¬ q - n = 0 := by omega
          rw [beq_eq_false_iff_ne.2 h6, beq_eq_false_iff_ne.2 hc]
      show AV.tup [iv i, .bool (W[i].1 - n == 0)] = _
      rw [e]; rfl
    · have h5 : ¬ i < W.length := by have := of_decide_eq_false h5; omega
      conv => whnf
      refine ⟨[], [], rfl, ?_, rfl⟩
      rw [List.getElem?_eq_none (by omega)]; rfl

set_option maxRecDepth 10000 in
theorem search0_spec (n : Int) : CallsF Try.prog 22 [.snil, iv n, .fn 23 []] [] (.tup [iv 0, .bool false]) [] := by
  refine e22 ?_
  conv => whnf
  refine LoopA.steps 1 [0, 1, 2, 8, 9, 10] [] [] (by rfl) ?_
  conv => whnf
  exact ⟨[], [], rfl, rfl, rfl⟩

theorem place0_spec (next n : Int) : CallsF Try.prog 17 [.bp 0 0, iv n] [some (.box [iv next, .snil])] (.tup [iv 0, .bool false]) [some (.box [iv next, .snil])] := by
  refine e17 ?_
  conv => whnf
  refine CallsF.call [] [] (search0_spec n) rfl rfl rfl rfl rfl (.inl rfl) ?_
  conv => whnf
  exact ⟨[], [], rfl, rfl, rfl⟩

theorem place_spec (next : Int) (W : List (Int × Int)) (n : Int) (p : Nat) (hW : W.length < 1000) (hd : ∀ x ∈ W, -9223372036854775808 ≤ x.1 - n ∧ x.1 - n ≤ 9223372036854775807) (hp : p ≤ W.length)
    (h1 : ∀ (t : Nat) (h : t < W.length), t < p → W[t].1 < n) (h2 : ∀ (t : Nat) (h : t < W.length), p ≤ t → n ≤ W[t].1) :
    CallsF Try.prog 17 [.bp 0 0, iv n] [some (.box [iv next, .sl 1 0 W.length]), some (.arr 10 (irows W))] (.tup [iv p, .bool (W[p]?.any fun x => x.1 == n)]) [some (.box [iv next, .sl 1 0 W.length]), some (.arr 10 (irows W))] := by
  have k0 := search_spec W n p hW hd hp h1 h2
  have hl : (irows W).length = W.length := by rw [irows, List.length_map]
  generalize irows W = rows at *
  have ht : (rows.drop 0).take W.length = rows := by rw [List.drop_zero, ← hl, List.take_length]
  rw [← ht] at k0
  generalize (W[p]?.any fun x => x.1 == n) = b at *
  refine e17 ?_
  conv => whnf
  refine CallsF.call [] [1] k0 rfl rfl rfl rfl rfl (.inr rfl) ?_
  conv => whnf
  exact ⟨[], [], rfl, rfl, rfl⟩

end Go.Proofs.TryN

