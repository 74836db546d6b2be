/- Layer 39: a count is put among others, in order: the library's BinarySearchFunc and Insert. -/
import Derived.Test.YtlnglbddnhabfaaN39G5
import Derived.Test.YtlnglbddnhabfaaAL38
namespace Go.Proofs.TryN
open Go Go.AL Go.Proofs

/-! Layer 39: a count is put among others, in order: the library's BinarySearchFunc and Insert. -/

/-- A code's count: the code, its units, their bytes. -/
def crow (x : Int × Nat × Nat) : List AV := [iv x.1, iv x.2.1, iv x.2.2]
def crows (W : List (Int × Nat × Nat)) : List (List AV) := W.map crow
theorem crow_closed (x : Int × Nat × Nat) : (crow x).all closed = true := rfl
theorem crows_closed (W : List (Int × Nat × Nat)) : (crows W).all (fun r => r.all closed) = true := by
  rw [List.all_eq_true]; intro r h; obtain ⟨x, _, rfl⟩ := List.mem_map.1 h; exact crow_closed x

theorem cmp_spec (x : Int × Nat × Nat) (n : Int) : CallsF Try.prog 25 [.agg (crow x), iv n] [] (iv (IntKind.wrap .i64 (x.1 - n))) [] := by
  refine e25 ?_
  conv => whnf
  exact ⟨[], [], rfl, rfl, rfl⟩

theorem half_eq (i j : Nat) (h : i + j < 1000000) : IntKind.wrap .i64 ((IntKind.wrap .u64 (IntKind.wrap .i64 ((i : Int) + (j : Int)))).fdiv (2 ^ min (Int.toNat 1) (IntKind.bits .u64))) = (((i + j) / 2 : Nat) : Int) := by
  rw [wrap_id (n := (i : Int) + j) (by omega) (by omega), wrap_u64 (by omega) (by omega)]
  have : ((i : Int) + (j : Int)).fdiv (2 ^ min (Int.toNat 1) (IntKind.bits .u64)) = (((i + j) / 2 : Nat) : Int) := by
    show ((i : Int) + (j : Int)).fdiv 2 = _
    rw [Int.fdiv_eq_ediv_of_nonneg _ (by omega)]; omega
  rw [this, wrap_id (by omega) (by omega)]

theorem crow_at {W : List (Int × Nat × Nat)} {rows : List (List AV)} (hr : crows W = rows) {i : Nat} (h : i < W.length) : nth rows (i : Int).toNat = some (crow W[i]) := by
  rw [Int.toNat_natCast, nth_get, ← hr, crows, List.getElem?_map, List.getElem?_eq_getElem h]; rfl

set_option maxRecDepth 10000 in
theorem search_spec (W : List (Int × Nat × Nat)) (n : Int) (p : Nat) (hW : W.length < 1000) (hd : ∀ x ∈ W, -9223372036854775808 ≤ x.1 - n ∧ x.1 - n ≤ 9223372036854775807) (hp : p ≤ W.length)
    (h1 : ∀ (t : Nat) (h : t < W.length), t < p → W[t].1 < n) (h2 : ∀ (t : Nat) (h : t < W.length), p ≤ t → n ≤ W[t].1) :
    CallsF Try.prog 24 [.ro 3 (crows W), iv n, .fn 25 []] [] (.tup [iv p, .bool (W[p]?.any fun x => x.1 == n)]) [] := by
  obtain ⟨rows, hr⟩ : ∃ rows, crows W = rows := ⟨_, rfl⟩
  have hl : rows.length = W.length := by rw [← hr, crows, List.length_map]
  rw [hr]
  refine e24 ?_
  conv => whnf
  refine LoopA.inv (fun k st => ∃ i j : Nat, k + i = j ∧ i ≤ p ∧ p ≤ j ∧ j ≤ W.length ∧ st = ⟨[(0, .ro 3 rows), (1, iv n), (2, .fn 25 []), (8, iv (rows.length : Nat)), (9, iv i), (10, iv j)], [], 0, 0⟩) W.length [0, 1, 2, 8, 9, 10] [] [] (by rfl) ?_ ?_
  · conv => whnf
    exact ⟨0, W.length, rfl, Nat.zero_le _, hp, Nat.le_refl _, by rw [← hl]; rfl⟩
  rintro k st ⟨i, j, hk, hi, hj, hjl, rfl⟩
  conv => whnf
  refine ifB_of (fun h3 => ?_) (fun h3 => ?_)
  · have h3 : i < j := by have := of_decide_eq_true h3; omega
    obtain ⟨m, hm⟩ : ∃ m, (i + j) / 2 = m := ⟨_, rfl⟩
    have hml : m < W.length := by omega
    have hrow := crow_at hr hml
    conv => whnf
    rw [half_eq i j (by omega), hm]
    rw [aop_idxS_ro hrow rfl rfl]
    conv => whnf
    have hdm := hd W[m] (List.getElem_mem hml)
    have k0 := cmp_spec W[m] n
    rw [wrap_id hdm.1 hdm.2] at k0
    refine CallsF.call [] [] k0 rfl rfl rfl rfl rfl (.inl rfl) ?_
    conv => whnf
    refine ifB_of (fun h4 => ?_) (fun h4 => ?_)
    · have h4 : W[m].1 < n := by have := of_decide_eq_true h4; omega
      have hmp : m < p := by
        apply Classical.byContradiction
        intro hc
        have := h2 m hml (by omega)
        omega
      conv => whnf
      refine ⟨(j - (m + 1)), [0, 1, 2, 8, 9, 10], [], [], by omega, rfl, ?_⟩
      conv => whnf
      refine ⟨m + 1, j, by omega, by omega, by omega, by omega, ?_⟩
      rw [inc_nat m (by omega)]
    · have h4 : n ≤ W[m].1 := by have := of_decide_eq_false h4; omega
      have hmp : p ≤ m := by
        apply Classical.byContradiction
        intro hc
        have := h1 m hml (by omega)
        omega
      conv => whnf
      refine ⟨(m - i), [0, 1, 2, 8, 9, 10], [], [], by omega, rfl, ?_⟩
      conv => whnf
      exact ⟨i, m, by omega, by omega, by omega, by omega, rfl⟩
  · have h3 : i = p := by have := of_decide_eq_false h3; omega
    subst h3
    conv => whnf
    refine ifB_of (fun h5 => ?_) (fun h5 => ?_)
    · have h5 : i < W.length := by have := of_decide_eq_true h5; omega
      have hrow := crow_at hr h5
      conv => whnf
      rw [aop_idxS_ro hrow rfl rfl]
      conv => whnf
      have hdm := hd W[i] (List.getElem_mem h5)
      have k0 := cmp_spec W[i] n
      rw [wrap_id hdm.1 hdm.2] at k0
      refine CallsF.call [] [] k0 rfl rfl rfl rfl rfl (.inl rfl) ?_
      conv => whnf
      refine ⟨[], [], rfl, ?_, rfl⟩
      rw [List.getElem?_eq_getElem h5]
      have e : (W[i].1 - n == 0) = (W[i].1 == n) := by
        generalize W[i].1 = q
        by_cases hc : q = n
        · subst hc; rw [Int.sub_self, beq_self_eq_true (0 : Int), beq_self_eq_true q]
        · have h6 : ¬ q - n = 0 := by omega
          rw [beq_eq_false_iff_ne.2 h6, beq_eq_false_iff_ne.2 hc]
      show AV.tup [iv i, .bool (W[i].1 - n == 0)] = _
      rw [e]; rfl
    · have h5 : ¬ i < W.length := by have := of_decide_eq_false h5; omega
      conv => whnf
      refine ⟨[], [], rfl, ?_, rfl⟩
      rw [List.getElem?_eq_none (by omega)]; rfl

set_option maxRecDepth 10000 in
theorem search0_spec (n : Int) : CallsF Try.prog 24 [.snil, iv n, .fn 25 []] [] (.tup [iv 0, .bool false]) [] := by
  refine e24 ?_
  conv => whnf
  refine LoopA.steps 1 [0, 1, 2, 8, 9, 10] [] [] (by rfl) ?_
  conv => whnf
  exact ⟨[], [], rfl, rfl, rfl⟩

/-- Rows with one more at a place. -/
def insR (rows : List (List AV)) (i : Nat) (v : List AV) : List (List AV) := rows.take i ++ v :: rows.drop i

theorem insR_len (rows : List (List AV)) (i : Nat) (v : List AV) (h : i ≤ rows.length) : (insR rows i v).length = rows.length + 1 := by
  simp [insR]; omega

set_option maxRecDepth 10000 in
/-- To nothing. -/
theorem insert0_spec (x : Int × Nat × Nat) : CallsF Try.prog 26 [.snil, iv 0, .sl 0 0 1] [some (.arr 3 [crow x])] (.sl 1 0 1) [some (.arr 3 [crow x]), some (.arr 3 [crow x])] := by
  refine e26 ?_
  conv => whnf
  exact ⟨[1], [], rfl, rfl, rfl⟩

theorem aop_append_in {tm : List (Nat × AV)} {hp : AHeap} {hn bytes s b i n c : Nat} {x y : Opd} {rows ys : List (List AV)} (hx : ev tm x = .slc b i n c) (hb : nth hp b = some (some (.arr s rows))) (hy : srcV hp s (ev tm y) = .rows ys) (hc : n + ys.length ≤ c) :
    aop tm hp hn (.append bytes s x y) = some (ys.all (fun r => r.all closed), .slc b i (n + ys.length) c, .put b (.arr s (rows.take (i + n) ++ ys ++ rows.drop (i + n + ys.length)))) := by
  simp only [aop, hx, hb, hy, Nat.beq_refl, Nat.ble_eq_true_of_le hc]

theorem aop_append_new {tm : List (Nat × AV)} {hp : AHeap} {hn bytes s b i n c : Nat} {x y : Opd} {rows ys : List (List AV)} (hx : ev tm x = .slc b i n c) (hb : nth hp b = some (some (.arr s rows))) (hy : srcV hp s (ev tm y) = .rows ys) (hc : c < n + ys.length) :
    aop tm hp hn (.append bytes s x y) = some (decide ((bytes + 1) * (n + ys.length) ≤ 2 ^ 46), .sl hn 0 (n + ys.length), .push (.arr s ((rows.drop i).take n ++ ys))) := by
  have : Nat.ble (n + ys.length) c = false := by
    cases h : Nat.ble (n + ys.length) c
    · rfl
    · have := Nat.le_of_ble_eq_true h; omega
  simp only [aop, hx, hb, hy, Nat.beq_refl, this]

theorem aop_appendZ_new {tm : List (Nat × AV)} {hp : AHeap} {hn bytes s b i n c : Nat} {k0 : IntKind} {v0 : Int} {z1 : AV} {zs : List AV} {k : IntKind} {m : Int} {x y : Opd} {rows : List (List AV)} (hy : ev tm y = .int k m) (hx : ev tm x = .slc b i n c)
    (hb : nth hp b = some (some (.arr s rows))) (hc : c < n + m.toNat) :
    aop tm hp hn (.appendZ bytes (.int k0 v0 :: z1 :: zs) x y) = some (decide (0 ≤ m ∧ s = (AV.int k0 v0 :: z1 :: zs).length ∧ (bytes + 1) * (n + m.toNat) ≤ 2 ^ 46), .sl hn 0 (n + m.toNat), .push (.arr s ((rows.drop i).take n ++ List.replicate m.toNat (.int k0 v0 :: z1 :: zs)))) := by
  have : Nat.ble (n + m.toNat) c = false := by
    cases h : Nat.ble (n + m.toNat) c
    · rfl
    · have := Nat.le_of_ble_eq_true h; omega
  simp only [aop, hy, hx, hb, this]

theorem stepA {α : Type} (A : List α) (i m : Nat) (v z : α) (hA : A.length = i) (hm : 1 ≤ m) : List.take i (A ++ List.replicate m z) ++ List.take m [v] ++ List.drop (i + min [v].length m) (A ++ List.replicate m z) = A ++ v :: List.replicate (m - 1) z := by
  obtain ⟨k, rfl⟩ : ∃ k, m = k + 1 := ⟨m - 1, by omega⟩
  subst hA
  rw [List.take_left, show min [v].length (k + 1) = 1 by simp, List.replicate_succ, Nat.add_sub_cancel, List.drop_append]
  simp
theorem stepB {α : Type} (A B : List α) (i m : Nat) (v z : α) (hA : A.length = i) (hB : B.length = m) : List.take (i + 1) (A ++ v :: List.replicate m z) ++ List.take m B ++ List.drop (i + 1 + min B.length m) (A ++ v :: List.replicate m z) = A ++ v :: B := by
  subst hA hB
  rw [show A ++ v :: List.replicate B.length z = (A ++ [v]) ++ List.replicate B.length z by simp]
  rw [List.take_left' (by simp), Nat.min_self, List.take_length, List.drop_eq_nil_of_le (by simp; omega)]
  simp

theorem all_sub {rows : List (List AV)} (hr : rows.all (fun r => r.all closed) = true) (i n : Nat) : ((rows ++ junkRows 0 3).drop i |>.take n).all (fun r => r.all closed) = true := by
  rw [List.all_eq_true]
  intro r h
  have h1 := List.mem_of_mem_drop (List.mem_of_mem_take h)
  rcases List.mem_append.1 h1 with h2 | h2
  · exact List.all_eq_true.1 hr r h2
  · cases h2

theorem all_sub2 {rows : List (List AV)} (hr : rows.all (fun r => r.all closed) = true) (J : List (List AV)) (i k m : Nat) (hi : i + k ≤ rows.length) : (List.take k (List.take m (List.drop i (rows ++ J)))).all (fun r => r.all closed) = true := by
  rw [List.all_eq_true]
  intro r h
  rw [List.take_take, List.drop_append_of_le_length (by omega)] at h
  have h2 : r ∈ List.take k (List.drop i rows ++ J) := by
    have h3 := List.mem_of_mem_take (i := min k m) (l := List.drop i rows ++ J) h
    obtain ⟨q, hq, rfl⟩ := List.getElem_of_mem h
    have hql : q < k := by rw [List.length_take] at hq; omega
    rw [List.getElem_take]
    exact List.mem_iff_getElem.2 ⟨q, by rw [List.length_take]; rw [List.length_take] at hq; omega, by rw [List.getElem_take]⟩
  rw [List.take_append_of_le_length (by rw [List.length_drop]; omega)] at h2
  exact List.all_eq_true.1 hr r (List.mem_of_mem_drop (List.mem_of_mem_take h2))
theorem all_one (x : Int × Nat × Nat) (k m : Nat) : (List.take k (List.take m (List.drop 0 [crow x]))).all (fun r => r.all closed) = true := by
  rw [List.all_eq_true]
  intro r h
  have h1 := List.mem_of_mem_drop (List.mem_of_mem_take (List.mem_of_mem_take h))
  obtain rfl := List.mem_singleton.1 h1
  rfl

theorem fin_room (rows J D : List (List AV)) (v : List AV) (i n : Nat) (hn : rows.length = n) (hi : i < n) : List.take (n + 1) (List.take i (List.take (i + 1) (rows ++ J) ++ List.take (n - i) (List.take (n + 1 - i) (List.drop i (rows ++ J))) ++ D) ++ [v] ++
    List.drop (i + 1) (List.take (i + 1) (rows ++ J) ++ List.take (n - i) (List.take (n + 1 - i) (List.drop i (rows ++ J))) ++ D)) = insR rows i v := by
  have h1 : List.take (i + 1) (rows ++ J) = rows.take (i + 1) := List.take_append_of_le_length (by omega)
  have h2 : List.take (n - i) (List.take (n + 1 - i) (List.drop i (rows ++ J))) = rows.drop i := by
    rw [List.take_take, Nat.min_eq_left (by omega), List.drop_append_of_le_length (by omega), List.take_append_of_le_length (by rw [List.length_drop]; omega)]
    exact List.take_of_length_le (by rw [List.length_drop]; omega)
  rw [h1, h2]
  have hl : (rows.take (i + 1)).length = i + 1 := by rw [List.length_take]; omega
  have hX : rows.take (i + 1) ++ rows.drop i ++ D = rows.take (i + 1) ++ (rows.drop i ++ D) := List.append_assoc ..
  have h3 : List.take i (rows.take (i + 1) ++ (rows.drop i ++ D)) = rows.take i := by
    rw [List.take_append_of_le_length (by omega), List.take_take, Nat.min_eq_left (by omega)]
  rw [hX, h3, List.drop_left' hl]
  rw [show rows.take i ++ [v] ++ (rows.drop i ++ D) = insR rows i v ++ D by simp [insR]]
  exact List.take_left' (by rw [insR_len rows i v (by omega)]; omega)

theorem n1_nat (n : Nat) (h : n < 1000000) : IntKind.wrap .i64 ((n : Int) + ((0 + 1 : Nat) : Int)) = ((n + 1 : Nat) : Int) := by rw [wrap_id (by omega) (by omega)]; rfl
theorem n1_sub (n i : Nat) (h : n < 1000000) (hi : i ≤ n) : IntKind.wrap .i64 (((n + 1 : Nat) : Int) - (i : Int)) = ((n + 1 - i : Nat) : Int) := by rw [wrap_id (by omega) (by omega)]; omega

set_option maxRecDepth 10000 in
set_option maxHeartbeats 1000000 in
theorem insert_spec (rows : List (List AV)) (i : Nat) (x : Int × Nat × Nat) (hi : i ≤ rows.length) (h : rows.length < 1000000) (hr : rows.all (fun r => r.all closed) = true) :
    CallsF Try.prog 26 [.sl 0 0 rows.length, iv i, .sl 1 0 1] [some (.arr 3 rows), some (.arr 3 [crow x])] (.sl 2 0 (rows.length + 1)) [none, some (.arr 3 [crow x]), some (.arr 3 (insR rows i (crow x)))] := by
  refine CallsA.full (hr := [some (.arr 3 [crow x])]) rfl (insR_len rows i _ hi).symm rfl rfl fun q => ?_
  obtain ⟨n, hn⟩ : ∃ n, rows.length = n := ⟨_, rfl⟩
  rw [hn] at hi h ⊢
  refine e26 ?_
  conv => whnf
  refine need_of ((decide_eq_true ⟨by omega, by omega, by omega⟩)) ?_
  conv => whnf
  by_cases hin : i = n
  · subst hin
    refine ifB_of (fun _ => ?_) (fun h => absurd h (by simp))
    conv => whnf
    cases q with
    | zero =>
      rw [aop_append_new (rows := rows ++ junkRows 0 3) (ys := [crow x]) rfl rfl (by rfl) (by simp)]
      conv => whnf
      refine need_of ((decide_eq_true (by simp only [List.length_singleton]; omega))) ?_
      conv => whnf
      refine ⟨[2], [], rfl, .inr ⟨some (.arr 3 (rows ++ junkRows 0 3)), rfl, ?_⟩⟩
      refine congrArg (fun R => ([some (.arr 3 (rows ++ junkRows 0 3)), some (.arr 3 [crow x]), some (.arr 3 R)] : AHeap)) ?_
      show List.take i (List.drop 0 (rows ++ junkRows 0 3)) ++ [crow x] = insR rows i (crow x)
      simp [insR, junkRows, ← hn]
    | succ q =>
      rw [aop_append_in (rows := rows ++ junkRows (q + 1) 3) (ys := [crow x]) rfl rfl (by rfl) (by simp)]
      conv => whnf
      refine ⟨[], [], rfl, .inl ⟨_, rfl, rfl, ?_⟩⟩
      show List.take (i + 1) (List.take (0 + i) (rows ++ junkRows (q + 1) 3) ++ [crow x] ++ List.drop (0 + i + [crow x].length) (rows ++ junkRows (q + 1) 3)) = insR rows i (crow x)
      rw [Nat.zero_add, ← hn, List.take_left, List.take_left' (by simp)]
      simp [insR]
  refine ifB_of (fun h => absurd h (by simp; omega)) (fun _ => ?_)
  conv => whnf
  rw [n1_nat n h]
  cases q with
  | zero =>
    refine ifB_of (fun _ => ?_) (fun h => absurd h (by simp; omega))
    conv => whnf
    refine need_of ((decide_eq_true ⟨by omega, by omega, by omega⟩)) ?_
    conv => whnf
    rw [n1_nat n h, n1_sub n i h hi]
    rw [aop_appendZ_new (rows := rows ++ junkRows 0 3) rfl rfl rfl (by simp only [Int.toNat_natCast, Int.toNat_zero]; omega)]
    conv => whnf
    simp only [Int.toNat_natCast, Int.toNat_zero, Nat.sub_zero, Nat.zero_add, Nat.add_zero, List.drop_zero]
    simp only [show List.take i (rows ++ junkRows 0 3) = rows.take i by simp [junkRows], show i + (n + 1 - i) = n + 1 by omega]
    refine need_of ((decide_eq_true ⟨by omega, rfl, by omega⟩)) ?_
    conv => whnf
    refine need_of ((decide_eq_true ⟨by omega, by omega, by omega⟩)) ?_
    conv => whnf
    rw [n1_nat i (by omega)]
    refine need_of ((decide_eq_true ⟨by omega, by omega, by omega⟩)) ?_
    conv => whnf
    refine need_of ((decide_eq_true ⟨by omega, by omega, by omega⟩)) ?_
    conv => whnf
    refine need_of ((all_sub hr _ _)) ?_
    conv => whnf
    refine ⟨[2], [], rfl, .inr ⟨some (.arr 3 (rows ++ junkRows 0 3)), rfl, ?_⟩⟩
    refine congrArg (fun R => ([some (.arr 3 (rows ++ junkRows 0 3)), some (.arr 3 [crow x]), some (.arr 3 R)] : AHeap)) ?_
    show List.take (0 + (i + 1)) (List.take (0 + i) _ ++ _ ++ List.drop _ _) ++ _ ++ _ = insR rows i (crow x)
    have hA : (rows.take i).length = i := by rw [List.length_take]; omega
    have hY : List.take (n - i) (List.drop i (rows ++ junkRows 0 3)) = rows.drop i := by
      rw [show rows ++ junkRows 0 3 = rows by simp [junkRows]]
      exact List.take_of_length_le (by rw [List.length_drop]; omega)
    simp only [Nat.zero_add, Int.toNat_natCast, List.drop_zero, show List.take 1 [crow x] = [crow x] from rfl, show n + 1 - (i + 1) = n - i by omega, hY]
    rw [stepA (rows.take i) i (n + 1 - i) (crow x) _ hA (by omega), show n + 1 - i - 1 = n - i by omega, stepB (rows.take i) (rows.drop i) i (n - i) (crow x) _ hA (by rw [List.length_drop]; omega)]
    rfl
  | succ q =>
    refine ifB_of (fun h => absurd h (by simp; omega)) (fun _ => ?_)
    conv => whnf
    rw [n1_nat n h]
    refine need_of ((decide_eq_true ⟨by omega, by omega, by omega⟩)) ?_
    conv => whnf
    rw [n1_nat i (by omega)]
    simp only [Int.toNat_natCast, Int.toNat_zero, Nat.sub_zero, Nat.zero_add, Nat.add_zero]
    refine need_of ((decide_eq_true ⟨by omega, by omega, by omega⟩)) ?_
    conv => whnf
    refine CallsA.overlaps Try.func49 (by decide +kernel) (by kernel_rfl) (by kernel_rfl) (tR := 4) (by kernel_rfl) Try.underlying27 Try.sizeOf36 rfl rfl (by decide) (by omega) (by decide) ?_
    conv => whnf
    rw [n1_nat i (by omega)]
    refine need_of ((decide_eq_true ⟨by omega, by omega, by omega⟩)) ?_
    conv => whnf
    refine need_of ((decide_eq_true ⟨by omega, by omega, by omega⟩)) ?_
    conv => whnf
    simp only [Int.toNat_natCast, Nat.zero_add, show n + 1 - (i + 1) = n - i by omega]
    refine need_of ((all_sub2 hr _ i (n - i) _ (by omega))) ?_
    conv => whnf
    refine need_of ((decide_eq_true ⟨by omega, by omega, by omega⟩)) ?_
    conv => whnf
    refine need_of ((all_one x _ _)) ?_
    conv => whnf
    refine ⟨[], [], rfl, .inl ⟨_, rfl, rfl, ?_⟩⟩
    have e1 : min (List.take 1 [crow x]).length (n + 1 - i) = 1 := by
      rw [show (List.take 1 [crow x]).length = 1 from rfl]; omega
    have e2 : List.take (n + 1 - i) (List.take 1 [crow x]) = [crow x] := List.take_of_length_le (by rw [show (List.take 1 [crow x]).length = 1 from rfl]; omega)
    have := fin_room rows (junkRows (q + 1) 3) (List.drop (i + 1 + min (List.take (n + 1 - i) (List.drop i (rows ++ junkRows (q + 1) 3))).length (n - i)) (rows ++ junkRows (q + 1) 3)) (crow x) i n hn (by omega)
    show List.take (n + 1) (List.take (0 + (i : Int).toNat) _ ++ List.take _ (List.take 1 (List.drop 0 [crow x])) ++ List.drop (0 + (i : Int).toNat + min (List.take 1 (List.drop 0 [crow x])).length _) _) = _
    simp only [Nat.zero_add, Int.toNat_natCast, List.drop_zero]
    rw [e1, e2]
    exact this



/-! Layer 39: the census of units: the plain part. -/

def cntU (k : Int) (X : List (Int × List Int)) : Nat := (X.filter fun x => x.1 == k).length
def sumU (k : Int) (X : List (Int × List Int)) : Nat := ((X.filter fun x => x.1 == k).map fun x => x.2.length).sum
def cenF (X : List (Int × List Int)) (k : Nat) : List (Int × Nat × Nat) := if 0 < cntU k X then [((k : Int), cntU k X, sumU k X)] else []
/-- How many units of each code, and their bytes. -/
def cenL (X : List (Int × List Int)) : List (Int × Nat × Nat) := (List.range 64).flatMap (cenF X)

theorem cnt_snoc (k : Int) (X : List (Int × List Int)) (x : Int × List Int) : cntU k (X ++ [x]) = if x.1 = k then cntU k X + 1 else cntU k X := by
  unfold cntU
  rw [List.filter_append]
  by_cases h : x.1 = k
  · rw [if_pos h]; simp [h]
  · rw [if_neg h]; simp [h]
theorem sum_snoc (k : Int) (X : List (Int × List Int)) (x : Int × List Int) : sumU k (X ++ [x]) = if x.1 = k then sumU k X + x.2.length else sumU k X := by
  unfold sumU
  rw [List.filter_append]
  by_cases h : x.1 = k
  · rw [if_pos h]; simp [h]
  · rw [if_neg h]; simp [h]

theorem cenF_other {X : List (Int × List Int)} {x : Int × List Int} {k : Nat} (h : x.1 ≠ k) : cenF (X ++ [x]) k = cenF X k := by
  unfold cenF; rw [cnt_snoc, sum_snoc, if_neg h, if_neg h]
theorem cenF_same {X : List (Int × List Int)} {x : Int × List Int} {k : Nat} (h : x.1 = k) : cenF (X ++ [x]) k = [((k : Int), cntU k X + 1, sumU k X + x.2.length)] := by
  unfold cenF; rw [cnt_snoc, sum_snoc, if_pos h, if_pos h, if_pos (by omega)]

def cenA (X : List (Int × List Int)) (c : Nat) := (List.range c).flatMap (cenF X)
def cenB (X : List (Int × List Int)) (c : Nat) := (List.range' (c + 1) (63 - c)).flatMap (cenF X)

theorem range_split {c : Nat} (h : c < 64) : List.range 64 = List.range c ++ c :: List.range' (c + 1) (63 - c) := by
  rw [List.range_eq_range', List.range_eq_range', show (64 : Nat) = c + (1 + (63 - c)) by omega, ← List.range'_append_1, Nat.zero_add, show 1 + (63 - c) = (63 - c) + 1 by omega, List.range'_succ]

theorem cen_split (X : List (Int × List Int)) {c : Nat} (h : c < 64) : cenL X = cenA X c ++ (cenF X c ++ cenB X c) := by
  unfold cenL cenA cenB
  rw [range_split h, List.flatMap_append, List.flatMap_cons]

theorem flat_congr {f g : Nat → List (Int × Nat × Nat)} : ∀ l : List Nat, (∀ k ∈ l, f k = g k) → l.flatMap f = l.flatMap g
  | [], _ => rfl
  | k :: l, h => by rw [List.flatMap_cons, List.flatMap_cons, h k List.mem_cons_self, flat_congr l fun j hj => h j (List.mem_cons_of_mem _ hj)]

theorem cen_snoc (X : List (Int × List Int)) (x : Int × List Int) {c : Nat} (h : c < 64) (hx : x.1 = c) : cenL (X ++ [x]) = cenA X c ++ ((c : Int), cntU c X + 1, sumU c X + x.2.length) :: cenB X c := by
  rw [cen_split _ h, cenF_same hx]
  have hA : cenA (X ++ [x]) c = cenA X c := flat_congr _ fun k hk => cenF_other (by have := List.mem_range.1 hk; omega)
  have hB : cenB (X ++ [x]) c = cenB X c := flat_congr _ fun k hk => cenF_other (by have := List.mem_range'_1.1 hk; omega)
  rw [hA, hB]; rfl

theorem cenF_code {X : List (Int × List Int)} {k : Nat} {y : Int × Nat × Nat} (h : y ∈ cenF X k) : y.1 = k := by
  unfold cenF at h
  split at h
  · rw [List.mem_singleton.1 h]
  · cases h
theorem cenA_lt {X : List (Int × List Int)} {c : Nat} {y : Int × Nat × Nat} (h : y ∈ cenA X c) : 0 ≤ y.1 ∧ y.1 < c := by
  obtain ⟨k, hk, hy⟩ := List.mem_flatMap.1 h
  have := cenF_code hy
  have := List.mem_range.1 hk
  omega
theorem cenB_lt {X : List (Int × List Int)} {c : Nat} (hc : c < 64) {y : Int × Nat × Nat} (h : y ∈ cenB X c) : (c : Int) < y.1 ∧ y.1 < 64 := by
  obtain ⟨k, hk, hy⟩ := List.mem_flatMap.1 h
  have := cenF_code hy
  have := List.mem_range'_1.1 hk
  omega
theorem cenL_in {X : List (Int × List Int)} {y : Int × Nat × Nat} (h : y ∈ cenL X) : 0 ≤ y.1 ∧ y.1 < 64 := by
  obtain ⟨k, hk, hy⟩ := List.mem_flatMap.1 h
  have := cenF_code hy
  have := List.mem_range.1 hk
  omega
theorem flat_len (X : List (Int × List Int)) : ∀ l : List Nat, (l.flatMap (cenF X)).length ≤ l.length
  | [] => Nat.le_refl _
  | k :: l => by
    have := flat_len X l
    have h1 : (cenF X k).length ≤ 1 := by unfold cenF; split <;> simp
    rw [List.flatMap_cons, List.length_append, List.length_cons]; omega
theorem cenL_len (X : List (Int × List Int)) : (cenL X).length ≤ 64 := by
  have := flat_len X (List.range 64)
  rw [List.length_range] at this
  exact this

theorem cnt_len (k : Int) (X : List (Int × List Int)) : cntU k X ≤ X.length := List.length_filter_le ..
theorem sum_len (k : Int) : ∀ (X : List (Int × List Int)), (∀ x ∈ X, okU x) → sumU k X ≤ 3000 * X.length
  | [], _ => Nat.le_refl _
  | x :: X, h => by
    have ih := sum_len k X fun y hy => h y (List.mem_cons_of_mem _ hy)
    have h3 := (h x List.mem_cons_self).2.2.2
    unfold sumU at ih ⊢
    rw [List.filter_cons]
    split
    · simp only [List.map_cons, List.sum_cons, List.length_cons]; omega
    · simp only [List.length_cons]; omega

/-- Where a code's count is, or would be. -/
theorem cen_place (X : List (Int × List Int)) {c : Nat} (hc : c < 64) :
    (cenA X c).length ≤ (cenL X).length ∧ (∀ (t : Nat) (h : t < (cenL X).length), t < (cenA X c).length → (cenL X)[t].1 < (c : Int)) ∧ (∀ (t : Nat) (h : t < (cenL X).length), (cenA X c).length ≤ t → (c : Int) ≤ (cenL X)[t].1) := by
  have hs := cen_split X hc
  refine ⟨by rw [hs]; simp, fun t h ht => ?_, fun t h ht => ?_⟩
  · have : (cenL X)[t]? = (cenA X c)[t]? := by rw [hs, List.getElem?_append_left ht]
    rw [List.getElem?_eq_getElem h, List.getElem?_eq_getElem ht] at this
    rw [Option.some.inj this]
    exact (cenA_lt (List.getElem_mem ht)).2
  · have : (cenL X)[t] ∈ cenF X c ++ cenB X c := by
      have : (cenL X)[t]? = (cenF X c ++ cenB X c)[t - (cenA X c).length]? := by rw [hs, List.getElem?_append_right ht]
      rw [List.getElem?_eq_getElem h] at this
      exact List.mem_of_getElem? this.symm
    rcases List.mem_append.1 this with h1 | h1
    · rw [cenF_code h1]; exact Int.le_refl _
    · have := (cenB_lt hc h1).1; omega

theorem cen_has (X : List (Int × List Int)) {c : Nat} (hc : c < 64) : ((cenL X)[(cenA X c).length]?.any fun x => x.1 == (c : Int)) = decide (0 < cntU c X) := by
  rw [cen_split X hc, List.getElem?_append_right (Nat.le_refl _), Nat.sub_self]
  unfold cenF
  by_cases h : 0 < cntU c X
  · rw [if_pos h, decide_eq_true h]; simp
  · rw [if_neg h, decide_eq_false h, List.nil_append]
    cases hb : cenB X c with
    | nil => rfl
    | cons y r =>
      have := (cenB_lt hc (y := y) (by rw [hb]; exact List.mem_cons_self)).1
      show (y.1 == (c : Int)) = false
      exact beq_eq_false_iff_ne.2 (by omega)


/-! Layer 39: the census of a stream: the walk. -/

theorem aop_store1_arr {tm : List (Nat × AV)} {hp : AHeap} {hn : Nat} {a x : Opd} {b i j s : Nat} {rows : List (List AV)} {row : List AV} {k : IntKind} {v : Int} (hr : nth rows i = some row) (he : ev tm a = .ep b i j) (hb : nth hp b = some (some (.arr s rows)))
    (hx : ev tm x = .int k v) (hl : j + 1 ≤ row.length) : aop tm hp hn (.store 1 a x) = some (true, .undef, .put b (.arr s (rows.set i (splice row j [.int k v])))) := by
  have e1 : Nat.beq [AV.int k v].length 1 = true := rfl
  simp only [aop, hx, AV.cells, e1, he, writeAt, hb, hr]
  have e3 : (Nat.ble (j + [AV.int k v].length) row.length && [AV.int k v].all closed) = true := by simp [closed]; omega
  rw [e3]
  simp only [lset_eq]

theorem nth_set {α : Type} {l : List α} {i : Nat} {x y : α} (h : nth l i = some x) : nth (l.set i y) i = some y := by
  rw [nth_get] at h ⊢
  have := (List.getElem?_eq_some_iff.1 h).1
  rw [List.getElem?_set, if_pos rfl, if_pos this]

theorem crow_nth {W : List (Int × Nat × Nat)} {i : Nat} {x : Int × Nat × Nat} (h : W[i]? = some x) : nth (crows W) i = some (crow x) := by
  rw [nth_get, crows, List.getElem?_map, h]; rfl

theorem crows_ne {W : List (Int × Nat × Nat)} (h : W ≠ []) : crows W ≠ [] := by simpa [crows] using h

/-- The census as it is answered. -/
def cenV (W : List (Int × Nat × Nat)) : AV := match W with | [] => .snil | _ :: _ => .ro 3 (crows W)
theorem cenV_ne {W : List (Int × Nat × Nat)} (h : W ≠ []) : cenV W = .ro 3 (crows W) := by
  cases W with
  | nil => exact absurd rfl h
  | cons a l => rfl

theorem set_mid {α : Type} (A B : List α) (y z : α) : (A ++ y :: B).set A.length z = A ++ z :: B := by
  induction A with
  | nil => rfl
  | cons a A ih => simp [ih]

set_option maxRecDepth 10000 in
set_option maxHeartbeats 4000000 in
theorem census_spec (bs : List Int) (h : okB bs) (h3 : bs.length ≤ 3000) : CallsF Try.prog 7 [.ri .u8 bs] [] (if splitE bs = 0 then .tup [cenV (cenL (sU bs)), iv 0] else .tup [.snil, iv (splitE bs)]) [] := by
  have ks := split_spec bs h (by omega)
  obtain ⟨hok, hl⟩ := sU_ok h h3
  change CallsF _ _ _ _ (.tup [unitsV (sU bs), iv (splitE bs)]) [] at ks
  generalize splitE bs = e at *
  by_cases he : e = 0
  case neg =>
    rw [if_neg he]
    rcases unitsV_two (sU bs) with hu | hu <;> rw [hu] at ks
    all_goals
      refine e7 ?_
      conv => whnf
      refine CallsF.call [] [] ks rfl rfl rfl rfl rfl (.inl rfl) ?_
      conv => whnf
      rw [show (e != 0) = true by simp [he]]
      conv => whnf
      exact ⟨[], [], rfl, rfl, rfl⟩
  subst he
  rw [if_pos rfl]
  have ks : CallsF Try.prog 23 [.ri .u8 bs] [] (.tup [.ro 2 ((sU bs).map uRow), iv 0]) [] := by
    rcases unitsV_two (sU bs) with hu | hu
    · have hnil : sU bs = [] := by
        cases hs : sU bs with
        | nil => rfl
        | cons a l => rw [hs] at hu; cases hu
      refine CallsF.le (CallsA.mono ks fun r h' ⟨a, b⟩ => ⟨?_, b⟩)
      rw [a, hu, hnil]
      exact AV.le.tup (LeL.cons (AV.le.snil_o 2) (LeL.refl _))
    · rw [hu] at ks; exact ks
  generalize sU bs = L at *
  obtain ⟨rows, hr⟩ : ∃ rows, L.map uRow = rows := ⟨_, rfl⟩
  have hrl : rows.length = L.length := by rw [← hr, List.length_map]
  rw [hr] at ks
  refine e7 ?_
  conv => whnf
  refine CallsF.call [] [] ks rfl rfl rfl rfl rfl (.inl rfl) ?_
  conv => whnf
  refine LoopA.inv (fun m st => ∃ i : Nat, m + i = L.length ∧ st = ⟨[(6, accV (crows (cenL (L.take i)))), (19, .ro 2 rows), (20, iv (rows.length : Nat)), (21, iv i)], accH 3 (crows (cenL (L.take i))), (accH 3 (crows (cenL (L.take i)))).length, 0⟩) L.length [6, 19, 20, 21] [] [] (by rfl) ?_ ?_
  · conv => whnf
    exact ⟨0, rfl, rfl⟩
  rintro m st ⟨i, hm, rfl⟩
  by_cases h1 : i < L.length
  · have hrow := uRow_at hr h1
    have hx := hok L[i] (List.getElem_mem h1)
    have htk : L.take (i + 1) = L.take i ++ [L[i]] := List.take_succ_eq_append_getElem h1
    have hXo : ∀ x ∈ L.take i, okU x := fun x hx => hok x (List.mem_of_mem_take hx)
    have hXl : (L.take i).length ≤ 230 := by rw [List.length_take]; omega
    generalize hX : L.take i = X at *
    obtain ⟨cc, d, hcd⟩ : ∃ c d, L[i] = (c, d) := ⟨_, _, rfl⟩
    rw [hcd] at hrow hx htk
    have hci := knownB_in hx.1
    have hc48 : cc < 64 := by
      have := hx.1
      unfold knownB isP at this
      simp only [Bool.or_eq_true, beq_iff_eq, Bool.and_eq_true, decide_eq_true_iff] at this
      omega
    obtain ⟨c, rfl⟩ : ∃ c : Nat, cc = c := ⟨cc.toNat, by have := hci.1; omega⟩
    have hc : c < 64 := by omega
    have hrow : nth rows (i : Int).toNat = some [iv c, .ri .u8 d] := hrow
    have hdl : d.length ≤ 3000 := hx.2.2.2
    have hW' := cen_snoc X ((c : Int), d) hc rfl
    have hW'ne : cenL (X ++ [((c : Int), d)]) ≠ [] := by rw [hW']; simp
    have hcn := cnt_len (c : Int) X
    have hsn := sum_len (c : Int) X hXo
    obtain ⟨p1, p2, p3⟩ := cen_place X hc
    have phas := cen_has X hc
    have hWl := cenL_len X
    have hsplit := cen_split X hc
    have hst : ∀ st : St, st = ⟨[(6, .sl 0 0 (cenL (L.take (i + 1))).length), (19, .ro 2 rows), (20, iv (rows.length : Nat)), (21, iv (i + 1 : Nat))], [some (.arr 3 (crows (cenL (L.take (i + 1)))))], 1, 0⟩ →
        st = ⟨[(6, accV (crows (cenL (L.take (i + 1))))), (19, .ro 2 rows), (20, iv (rows.length : Nat)), (21, iv (i + 1 : Nat))], accH 3 (crows (cenL (L.take (i + 1)))), (accH 3 (crows (cenL (L.take (i + 1))))).length, 0⟩ := by
      intro st h
      have hne : crows (cenL (L.take (i + 1))) ≠ [] := crows_ne (by rw [htk]; exact hW'ne)
      rw [h, accV_cons hne, accH_cons 3 hne, crows, List.length_map]; rfl
    rw [htk] at hst
    by_cases hne : cenL X = []
    · have hc0 : cntU (c : Int) X = 0 := by
        apply Classical.byContradiction
        intro h0
        have : cenF X c ≠ [] := by unfold cenF; rw [if_pos (by omega)]; simp
        rw [hsplit] at hne
        simp [this] at hne
      have hs0 : sumU (c : Int) X = 0 := by
        unfold cntU at hc0
        unfold sumU
        rw [List.eq_nil_of_length_eq_zero hc0]; rfl
      have hA : cenA X c = [] := by rw [hsplit] at hne; simp at hne; exact hne.1
      have hB : cenB X c = [] := by rw [hsplit] at hne; simp at hne; exact hne.2.2
      rw [hA, hB, hc0, hs0] at hW'
      rw [hne]
      have k1 := search0_spec (c : Int)
      have k2 : CallsF Try.prog 26 [.snil, iv 0, .sl 0 0 1] [some (.arr 3 [[iv c, iv 0, iv 0]])] (.sl 1 0 1) [some (.arr 3 [[iv c, iv 0, iv 0]]), some (.arr 3 [[iv c, iv 0, iv 0]])] := insert0_spec ((c : Int), 0, 0)
      have e0 : IntKind.wrap .i64 (0 + (d.length : Int)) = ((0 + d.length : Nat) : Int) := by rw [wrap_id (by omega) (by omega)]; omega
      conv => whnf
      refine ifB_of (fun _ => ?_) (fun h => ((of_decide_eq_false h) (by omega)).elim)
      conv => whnf
      rw [aop_idxS_ro hrow rfl rfl]
      conv => whnf
      refine CallsF.call [] [] k1 rfl rfl rfl rfl rfl (.inl rfl) ?_
      conv => whnf
      refine CallsF.call [1] [] k2 rfl rfl rfl rfl rfl (.inl rfl) ?_
      conv => whnf
      rw [inc_nat i (by omega), e0]
      refine ⟨(m - 1), [6, 19, 20, 21], [2], [], by omega, rfl, ?_⟩
      conv => whnf
      refine ⟨i + 1, by omega, ?_⟩
      rw [htk]
      refine hst _ ?_
      rw [hW']
      rfl
    · have hne' := crows_ne hne
      have hWr : (crows (cenL X)).length = (cenL X).length := by rw [crows, List.length_map]
      have et : ((crows (cenL X)).drop 0).take (crows (cenL X)).length = crows (cenL X) := by rw [List.drop_zero, List.take_length]
      have k1 := search_spec (cenL X) (c : Int) (cenA X c).length (by omega) (fun x hx => by have := cenL_in hx; omega) p1 p2 p3
      rw [phas, ← et] at k1
      rw [accV_cons hne', accH_cons 3 hne']
      by_cases hcp : 0 < cntU (c : Int) X
      · rw [decide_eq_true hcp] at k1
        have hF : cenF X c = [((c : Int), cntU (c : Int) X, sumU (c : Int) X)] := by unfold cenF; rw [if_pos hcp]
        have hR0 : (cenL X)[(cenA X c).length]? = some ((c : Int), cntU (c : Int) X, sumU (c : Int) X) := by
          rw [hsplit, hF, List.getElem?_append_right (Nat.le_refl _), Nat.sub_self]; rfl
        have hR := crow_nth hR0
        have hset : (crows (cenL X)).set (cenA X c).length (crow ((c : Int), cntU (c : Int) X + 1, sumU (c : Int) X + d.length)) = crows (cenL (X ++ [((c : Int), d)])) := by
          rw [hW', hsplit, hF, crows, crows, ← List.map_set]
          congr 1
          exact set_mid (cenA X c) (cenB X c) _ _
        have hlen : (cenL (X ++ [((c : Int), d)])).length = (cenL X).length := by rw [← hWr, ← List.length_set (i := (cenA X c).length) (a := crow ((c : Int), cntU (c : Int) X + 1, sumU (c : Int) X + d.length)), hset, crows, List.length_map]
        have hpl : (cenA X c).length < (crows (cenL X)).length := by rw [hWr]; exact (List.getElem?_eq_some_iff.1 hR0).1
        unfold crow at hR hset
        simp only at hR hset
        generalize cntU (c : Int) X = u at *
        generalize sumU (c : Int) X = b at *
        generalize (cenA X c).length = p at *
        generalize crows (cenL X) = R at *
        have hR1 : nth R (0 + (p : Int).toNat) = some [iv c, iv u, iv b] := by rw [Nat.zero_add, Int.toNat_natCast]; exact hR
        have eu : IntKind.wrap .i64 ((u : Int) + 1) = ((u + 1 : Nat) : Int) := inc_nat u (by omega)
        have eb : IntKind.wrap .i64 ((b : Int) + (d.length : Int)) = ((b + d.length : Nat) : Int) := add_nat b d.length (by omega) (by omega)
        conv => whnf
        refine ifB_of (fun _ => ?_) (fun h => ((of_decide_eq_false h) (by omega)).elim)
        conv => whnf
        rw [aop_idxS_ro hrow rfl rfl]
        conv => whnf
        refine CallsF.call [] [0] k1 rfl rfl rfl rfl rfl (.inr rfl) ?_
        conv => whnf
        refine need_of ((decide_eq_true ⟨by omega, by omega⟩)) ?_
        conv => whnf
        rw [aop_load1_arr (v := iv u) hR1 rfl rfl rfl]
        conv => whnf
        rw [eu]
        refine need_of ((decide_eq_true ⟨by omega, by omega⟩)) ?_
        conv => whnf
        rw [aop_store1_arr (row := [iv c, iv u, iv b]) hR1 rfl rfl rfl (by simp)]
        have hR2 : nth (R.set (0 + (p : Int).toNat) (splice [iv c, iv u, iv b] (0 + 1) [.int .i64 ((u + 1 : Nat) : Int)])) (0 + (p : Int).toNat) = some [iv c, iv (u + 1 : Nat), iv b] := nth_set hR1
        conv => whnf
        refine need_of ((decide_eq_true ⟨by omega, by omega⟩)) ?_
        conv => whnf
        rw [aop_load1_arr (v := iv b) hR2 rfl rfl rfl]
        conv => whnf
        rw [eb]
        refine need_of ((decide_eq_true ⟨by omega, by omega⟩)) ?_
        conv => whnf
        rw [aop_store1_arr (row := [iv c, iv (u + 1 : Nat), iv b]) hR2 rfl rfl rfl (by simp)]
        conv => whnf
        rw [inc_nat i (by omega)]
        refine ⟨(m - 1), [6, 19, 20, 21], [0], [], by omega, rfl, ?_⟩
        conv => whnf
        refine ⟨i + 1, by omega, ?_⟩
        rw [htk]
        refine hst _ ?_
        rw [hlen, ← hset]
        show (St.mk [(6, .sl 0 0 R.length), (19, .ro 2 rows), (20, iv (rows.length : Nat)), (21, iv (i + 1 : Nat))] [some (.arr 3 ((R.set (0 + (p : Int).toNat) [iv c, iv (u + 1 : Nat), iv b]).set (0 + (p : Int).toNat) [iv c, iv (u + 1 : Nat), iv (b + d.length : Nat)]))] 1 0) = _
        rw [Nat.zero_add, Int.toNat_natCast, List.set_set, hWr]
      · rw [decide_eq_false hcp] at k1
        have hc0 : cntU (c : Int) X = 0 := by omega
        have hF : cenF X c = [] := by unfold cenF; rw [if_neg hcp]
        have hs0 : sumU (c : Int) X = 0 := by
          unfold cntU at hc0
          unfold sumU
          rw [List.eq_nil_of_length_eq_zero hc0]; rfl
        rw [hc0, hs0] at hW'
        rw [hF, List.nil_append] at hsplit
        have k2 := insert_spec (crows (cenL X)) (cenA X c).length ((c : Int), 0, 0) (by rw [hWr]; exact p1) (by omega) (crows_closed _)
        have hAl : (crows (cenA X c)).length = (cenA X c).length := by rw [crows, List.length_map]
        have hins : insR (crows (cenL X)) (cenA X c).length [iv c, iv 0, iv 0] = crows (cenA X c) ++ [iv c, iv 0, iv 0] :: crows (cenB X c) := by
          rw [insR, hsplit, show crows (cenA X c ++ cenB X c) = crows (cenA X c) ++ crows (cenB X c) by rw [crows, List.map_append]; rfl, ← hAl, List.take_left, List.drop_left]
        have k2 : CallsF Try.prog 26 [.sl 0 0 (crows (cenL X)).length, iv (cenA X c).length, .sl 1 0 1] [some (.arr 3 (crows (cenL X))), some (.arr 3 [[iv c, iv 0, iv 0]])] (.sl 2 0 ((crows (cenL X)).length + 1)) [none, some (.arr 3 [[iv c, iv 0, iv 0]]), some (.arr 3 (insR (crows (cenL X)) (cenA X c).length [iv c, iv 0, iv 0]))] := k2
        have hset : (crows (cenA X c) ++ [iv c, iv 0, iv 0] :: crows (cenB X c)).set (cenA X c).length (crow ((c : Int), 0 + 1, 0 + d.length)) = crows (cenL (X ++ [((c : Int), d)])) := by
          rw [hW', ← hAl, set_mid, crows, crows, crows, List.map_append]; rfl
        have hlen : (cenL (X ++ [((c : Int), d)])).length = (crows (cenL X)).length + 1 := by rw [hWr, hW', hsplit]; simp; omega
        have hR : nth (crows (cenA X c) ++ [iv c, iv 0, iv 0] :: crows (cenB X c)) (0 + ((cenA X c).length : Int).toNat) = some [iv c, iv 0, iv 0] := by
          rw [Nat.zero_add, Int.toNat_natCast, nth_get, ← hAl, List.getElem?_append_right (Nat.le_refl _), Nat.sub_self]; rfl
        have hpl : (cenA X c).length < (crows (cenL X)).length + 1 := by rw [hWr]; omega
        rw [hins] at k2
        unfold crow at hset
        simp only at hset
        generalize (cenA X c).length = p at *
        generalize crows (cenA X c) ++ [iv c, iv 0, iv 0] :: crows (cenB X c) = R at *
        generalize crows (cenL X) = R0 at *
        have eb : IntKind.wrap .i64 (0 + (d.length : Int)) = ((0 + d.length : Nat) : Int) := by rw [wrap_id (by omega) (by omega)]; omega
        conv => whnf
        refine ifB_of (fun _ => ?_) (fun h => ((of_decide_eq_false h) (by omega)).elim)
        conv => whnf
        rw [aop_idxS_ro hrow rfl rfl]
        conv => whnf
        refine CallsF.call [] [0] k1 rfl rfl rfl rfl rfl (.inr rfl) ?_
        conv => whnf
        refine CallsF.call [0, 2] [] k2 rfl rfl rfl rfl rfl (.inl rfl) ?_
        conv => whnf
        refine need_of ((decide_eq_true ⟨by omega, by omega⟩)) ?_
        conv => whnf
        rw [aop_load1_arr (v := iv 0) hR rfl rfl rfl]
        conv => whnf
        refine need_of ((decide_eq_true ⟨by omega, by omega⟩)) ?_
        conv => whnf
        rw [aop_store1_arr (row := [iv c, iv 0, iv 0]) hR rfl rfl rfl (by simp)]
        have hR2 : nth (R.set (0 + (p : Int).toNat) (splice [iv c, iv 0, iv 0] (0 + 1) [.int .i64 (IntKind.wrap .i64 (0 + 1))])) (0 + (p : Int).toNat) = some [iv c, iv (0 + 1 : Nat), iv 0] := nth_set hR
        conv => whnf
        refine need_of ((decide_eq_true ⟨by omega, by omega⟩)) ?_
        conv => whnf
        rw [aop_load1_arr (v := iv 0) hR2 rfl rfl rfl]
        conv => whnf
        rw [eb]
        refine need_of ((decide_eq_true ⟨by omega, by omega⟩)) ?_
        conv => whnf
        rw [aop_store1_arr (row := [iv c, iv (0 + 1 : Nat), iv 0]) hR2 rfl rfl rfl (by simp)]
        conv => whnf
        rw [inc_nat i (by omega)]
        refine ⟨(m - 1), [6, 19, 20, 21], [3], [], by omega, rfl, ?_⟩
        conv => whnf
        refine ⟨i + 1, by omega, ?_⟩
        rw [htk]
        refine hst _ ?_
        rw [hlen, ← hset]
        show (St.mk [(6, .sl 0 0 (R0.length + 1)), (19, .ro 2 rows), (20, iv (rows.length : Nat)), (21, iv (i + 1 : Nat))] [some (.arr 3 ((R.set (0 + (p : Int).toNat) [iv c, iv (0 + 1 : Nat), iv 0]).set (0 + (p : Int).toNat) [iv c, iv (0 + 1 : Nat), iv (0 + d.length : Nat)]))] 1 0) = _
        rw [Nat.zero_add, Int.toNat_natCast, List.set_set]
  · have hie : i = L.length := by omega
    subst hie
    rw [List.take_length]
    by_cases hne : cenL L = []
    · rw [hne]
      conv => whnf
      refine ifB_of (fun h => absurd (of_decide_eq_true h) (by omega)) (fun _ => ?_)
      conv => whnf
      exact ⟨[], [], rfl, rfl, rfl⟩
    · rw [cenV_ne hne, accV_cons (crows_ne hne), accH_cons 3 (crows_ne hne), ← ro_take 3 (crows (cenL L))]
      conv => whnf
      refine ifB_of (fun h => absurd (of_decide_eq_true h) (by omega)) (fun _ => ?_)
      conv => whnf
      exact ⟨[], [0], rfl, rfl, rfl⟩


/-! Layer 39: the census of a stream, by the document: the walk. -/

theorem range_snoc (X : List (Int × List Int)) (k : Nat) : (List.range (k + 1)).flatMap (cenF X) = (List.range k).flatMap (cenF X) ++ cenF X k := by
  rw [List.range_succ, List.flatMap_append]; simp

set_option maxRecDepth 10000 in
set_option maxHeartbeats 4000000 in
theorem rcensus_spec (L : List (Int × List Int)) (hl : L.length ≤ 230) (hok : ∀ x ∈ L, okU x) : CallsF Try.prog 9 [.ro 2 (L.map uRow)] [] (cenV (cenL L)) [] := by
  obtain ⟨rows, hr⟩ : ∃ rows, L.map uRow = rows := ⟨_, rfl⟩
  have hrl : rows.length = L.length := by rw [← hr, List.length_map]
  rw [hr]
  have hx0 : ∀ x ∈ L, 0 ≤ x.1 := fun x hx => (knownB_in (hok x hx).1).1
  refine e9 ?_
  conv => whnf
  refine LoopA.inv (fun m st => ∃ (k : Nat) (A : List (Int × Nat × Nat)), m + k = 64 ∧ A = (List.range k).flatMap (cenF L) ∧ st = ⟨[(0, .ro 2 rows), (3, accV (crows A)), (4, iv k)], accH 3 (crows A), (accH 3 (crows A)).length, 0⟩) 64 [0, 3, 4] [] [] (by rfl) ?_ ?_
  · conv => whnf
    exact ⟨0, [], rfl, rfl, rfl⟩
  rintro m st ⟨k, A, hm, hA, rfl⟩
  obtain ⟨acc, hacc⟩ : ∃ acc, crows A = acc := ⟨_, rfl⟩
  rw [hacc]
  by_cases h1 : k < 64
  · have hAl : A.length ≤ 64 := by
      have := flat_len L (List.range k)
      rw [List.length_range, ← hA] at this
      omega
    have hal : acc.length ≤ 64 := by rw [← hacc, crows, List.length_map]; exact hAl
    have hsn := range_snoc L k
    rw [← hA] at hsn
    have hcl := cnt_len (k : Int) L
    have hsl := sum_len (k : Int) L hok
    have hst : ∀ st : St, st = ⟨[(0, .ro 2 rows), (3, .sl 0 0 (acc.length + 1)), (4, iv (k + 1 : Nat))], [some (.arr 3 (acc ++ [[iv k, iv (cntU k L), iv (sumU k L)]]))], 1, 0⟩ →
        st = ⟨[(0, .ro 2 rows), (3, accV (crows (A ++ [((k : Int), cntU k L, sumU k L)]))), (4, iv (k + 1 : Nat))], accH 3 (crows (A ++ [((k : Int), cntU k L, sumU k L)])), (accH 3 (crows (A ++ [((k : Int), cntU k L, sumU k L)]))).length, 0⟩ := by
      intro st h
      have e : crows (A ++ [((k : Int), cntU k L, sumU k L)]) = acc ++ [[iv k, iv (cntU k L), iv (sumU k L)]] := by rw [← hacc, crows, crows, List.map_append]; rfl
      rw [h, e, accV_snoc, accH_snoc]; rfl
    by_cases hne : acc = []
    · subst hne
      conv => whnf
      refine ifB_of (fun _ => ?_) (fun h => ((of_decide_eq_false h) (by omega)).elim)
      conv => whnf
      refine LoopA.inv (fun mm st => ∃ i : Nat, mm + i = L.length ∧ st = ⟨[(0, .ro 2 rows), (3, .snil), (4, iv k), (5, .bp 0 0), (14, .ro 2 rows), (15, iv (rows.length : Nat)), (16, iv i)], [some (.box [iv k, iv (cntU k (L.take i)), iv (sumU k (L.take i))])], 1, 0⟩) L.length [0, 3, 4, 5, 14, 15, 16] [0] [] (by rfl) ?_ ?_
      · conv => whnf
        exact ⟨0, rfl, rfl⟩
      rintro mm st ⟨i, hmm, rfl⟩
      by_cases h2 : i < L.length
      · have hrow := uRow_at hr h2
        have hc := cnt_snoc (k : Int) (L.take i) L[i]
        have hs := sum_snoc (k : Int) (L.take i) L[i]
        rw [← List.take_succ_eq_append_getElem h2] at hc hs
        have hc9 := cnt_len (k : Int) (L.take i)
        have hs9 := sum_len (k : Int) (L.take i) fun x hx => hok x (List.mem_of_mem_take hx)
        have htl : (L.take i).length ≤ 230 := by rw [List.length_take]; omega
        have hd3 := (hok L[i] (List.getElem_mem h2)).2.2.2
        obtain ⟨c, d, hcd⟩ : ∃ c d, L[i] = (c, d) := ⟨_, _, rfl⟩
        rw [hcd] at hrow hc hs hd3
        have hrow : nth rows (i : Int).toNat = some [iv c, .ri .u8 d] := hrow
        have hd3 : d.length ≤ 3000 := hd3
        have hc : cntU k (L.take (i + 1)) = if c = k then cntU k (L.take i) + 1 else cntU k (L.take i) := hc
        have hs : sumU k (L.take (i + 1)) = if c = k then sumU k (L.take i) + d.length else sumU k (L.take i) := hs
        generalize cntU (k : Int) (L.take i) = u at *
        generalize sumU (k : Int) (L.take i) = b at *
        have eu : IntKind.wrap .i64 ((u : Int) + 1) = ((u + 1 : Nat) : Int) := inc_nat u (by omega)
        have eb : IntKind.wrap .i64 ((b : Int) + (d.length : Int)) = ((b + d.length : Nat) : Int) := add_nat b d.length (by omega) (by omega)
        conv => whnf
        refine ifB_of (fun _ => ?_) (fun h => ((of_decide_eq_false h) (by omega)).elim)
        conv => whnf
        rw [aop_idxS_ro hrow rfl rfl]
        conv => whnf
        by_cases hck : c = (k : Int)
        · rw [show (c == (k : Int)) = true by simp [hck]]
          conv => whnf
          rw [eu, eb, inc_nat i (by omega)]
          refine ⟨(mm - 1), [0, 3, 4, 5, 14, 15, 16], [0], [], by omega, rfl, ?_⟩
          conv => whnf
          rw [if_pos hck] at hc hs
          exact ⟨i + 1, by omega, by rw [hc, hs]⟩
        · rw [show (c == (k : Int)) = false from beq_eq_false_iff_ne.2 hck]
          conv => whnf
          rw [inc_nat i (by omega)]
          refine ⟨(mm - 1), [0, 3, 4, 5, 14, 15, 16], [0], [], by omega, rfl, ?_⟩
          conv => whnf
          rw [if_neg hck] at hc hs
          exact ⟨i + 1, by omega, by rw [hc, hs]⟩
      · have hie : i = L.length := by omega
        subst hie
        rw [List.take_length]
        by_cases hu : 0 < cntU (k : Int) L
        · have hF : cenF L k = [((k : Int), cntU k L, sumU k L)] := by unfold cenF; rw [if_pos hu]
          rw [hF] at hsn
          conv => whnf
          refine ifB_of (fun h => absurd (of_decide_eq_true h) (by omega)) (fun _ => ?_)
          conv => whnf
          rw [show decide (((cntU (k : Int) L : Nat) : Int) > 0) = true from decide_eq_true (by omega)]
          conv => whnf
          rw [inc_nat k (by omega)]
          refine ⟨(m - 1), [0, 3, 4], [2], [], by omega, rfl, ?_⟩
          conv => whnf
          exact ⟨k + 1, A ++ [((k : Int), cntU k L, sumU k L)], by omega, hsn.symm, hst _ rfl⟩
        · have hF : cenF L k = [] := by unfold cenF; rw [if_neg hu]
          rw [hF, List.append_nil] at hsn
          conv => whnf
          refine ifB_of (fun h => absurd (of_decide_eq_true h) (by omega)) (fun _ => ?_)
          conv => whnf
          rw [show decide (((cntU (k : Int) L : Nat) : Int) > 0) = false from decide_eq_false (by omega)]
          conv => whnf
          rw [inc_nat k (by omega)]
          refine ⟨(m - 1), [0, 3, 4], [], [], by omega, rfl, ?_⟩
          conv => whnf
          exact ⟨k + 1, A, by omega, hsn.symm, by rw [hacc]; rfl⟩
    · rw [accV_cons hne, accH_cons 3 hne]
      conv => whnf
      refine ifB_of (fun _ => ?_) (fun h => ((of_decide_eq_false h) (by omega)).elim)
      conv => whnf
      refine LoopA.inv (fun mm st => ∃ i : Nat, mm + i = L.length ∧ st = ⟨[(0, .ro 2 rows), (3, .sl 0 0 acc.length), (4, iv k), (5, .bp 1 0), (14, .ro 2 rows), (15, iv (rows.length : Nat)), (16, iv i)], [some (.arr 3 acc), some (.box [iv k, iv (cntU k (L.take i)), iv (sumU k (L.take i))])], 2, 0⟩) L.length [0, 3, 4, 5, 14, 15, 16] [0, 1] [] (by rfl) ?_ ?_
      · conv => whnf
        exact ⟨0, rfl, rfl⟩
      rintro mm st ⟨i, hmm, rfl⟩
      by_cases h2 : i < L.length
      · have hrow := uRow_at hr h2
        have hc := cnt_snoc (k : Int) (L.take i) L[i]
        have hs := sum_snoc (k : Int) (L.take i) L[i]
        rw [← List.take_succ_eq_append_getElem h2] at hc hs
        have hc9 := cnt_len (k : Int) (L.take i)
        have hs9 := sum_len (k : Int) (L.take i) fun x hx => hok x (List.mem_of_mem_take hx)
        have htl : (L.take i).length ≤ 230 := by rw [List.length_take]; omega
        have hd3 := (hok L[i] (List.getElem_mem h2)).2.2.2
        obtain ⟨c, d, hcd⟩ : ∃ c d, L[i] = (c, d) := ⟨_, _, rfl⟩
        rw [hcd] at hrow hc hs hd3
        have hrow : nth rows (i : Int).toNat = some [iv c, .ri .u8 d] := hrow
        have hd3 : d.length ≤ 3000 := hd3
        have hc : cntU k (L.take (i + 1)) = if c = k then cntU k (L.take i) + 1 else cntU k (L.take i) := hc
        have hs : sumU k (L.take (i + 1)) = if c = k then sumU k (L.take i) + d.length else sumU k (L.take i) := hs
        generalize cntU (k : Int) (L.take i) = u at *
        generalize sumU (k : Int) (L.take i) = b at *
        have eu : IntKind.wrap .i64 ((u : Int) + 1) = ((u + 1 : Nat) : Int) := inc_nat u (by omega)
        have eb : IntKind.wrap .i64 ((b : Int) + (d.length : Int)) = ((b + d.length : Nat) : Int) := add_nat b d.length (by omega) (by omega)
        conv => whnf
        refine ifB_of (fun _ => ?_) (fun h => ((of_decide_eq_false h) (by omega)).elim)
        conv => whnf
        rw [aop_idxS_ro hrow rfl rfl]
        conv => whnf
        by_cases hck : c = (k : Int)
        · rw [show (c == (k : Int)) = true by simp [hck]]
          conv => whnf
          rw [eu, eb, inc_nat i (by omega)]
          refine ⟨(mm - 1), [0, 3, 4, 5, 14, 15, 16], [0, 1], [], by omega, rfl, ?_⟩
          conv => whnf
          rw [if_pos hck] at hc hs
          exact ⟨i + 1, by omega, by rw [hc, hs]⟩
        · rw [show (c == (k : Int)) = false from beq_eq_false_iff_ne.2 hck]
          conv => whnf
          rw [inc_nat i (by omega)]
          refine ⟨(mm - 1), [0, 3, 4, 5, 14, 15, 16], [0, 1], [], by omega, rfl, ?_⟩
          conv => whnf
          rw [if_neg hck] at hc hs
          exact ⟨i + 1, by omega, by rw [hc, hs]⟩
      · have hie : i = L.length := by omega
        subst hie
        rw [List.take_length]
        by_cases hu : 0 < cntU (k : Int) L
        · have hF : cenF L k = [((k : Int), cntU k L, sumU k L)] := by unfold cenF; rw [if_pos hu]
          rw [hF] at hsn
          conv => whnf
          refine ifB_of (fun h => absurd (of_decide_eq_true h) (by omega)) (fun _ => ?_)
          conv => whnf
          rw [show decide (((cntU (k : Int) L : Nat) : Int) > 0) = true from decide_eq_true (by omega)]
          conv => whnf
          refine need_of ((by rw [Bool.and_eq_true, decide_eq_true_iff]; exact ⟨⟨by omega, (show 25 * (acc.length + 1) ≤ 2 ^ 46 by omega)⟩, rfl⟩)) ?_
          conv => whnf
          rw [inc_nat k (by omega)]
          refine ⟨(m - 1), [0, 3, 4], [3], [], by omega, rfl, ?_⟩
          conv => whnf
          exact ⟨k + 1, A ++ [((k : Int), cntU k L, sumU k L)], by omega, hsn.symm, hst _ rfl⟩
        · have hF : cenF L k = [] := by unfold cenF; rw [if_neg hu]
          rw [hF, List.append_nil] at hsn
          conv => whnf
          refine ifB_of (fun h => absurd (of_decide_eq_true h) (by omega)) (fun _ => ?_)
          conv => whnf
          rw [show decide (((cntU (k : Int) L : Nat) : Int) > 0) = false from decide_eq_false (by omega)]
          conv => whnf
          rw [inc_nat k (by omega)]
          refine ⟨(m - 1), [0, 3, 4], [0], [], by omega, rfl, ?_⟩
          conv => whnf
          exact ⟨k + 1, A, by omega, hsn.symm, by rw [hacc, accV_cons hne, accH_cons 3 hne]; rfl⟩
  · have hk : k = 64 := by omega
    subst hk
    have hA : A = cenL L := hA
    subst hA
    by_cases hne : cenL L = []
    · rw [hne] at hacc ⊢
      subst hacc
      conv => whnf
      exact ⟨[], [], rfl, rfl, rfl⟩
    · have hne' : acc ≠ [] := by rw [← hacc]; exact crows_ne hne
      rw [cenV_ne hne, hacc, accV_cons hne', accH_cons 3 hne', ← ro_take 3 acc]
      conv => whnf
      exact ⟨[], [0], rfl, rfl, rfl⟩


end Go.Proofs.TryN

