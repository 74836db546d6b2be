/- Layer 26: an item is put among those that wait: the library's Insert. -/
import Derived.Test.YtdcpobifckmoaaaN26D
namespace Go.Proofs.TryN
open Go Go.AL Go.Proofs

theorem aop_appendZ_new {tm : List (Nat × AV)} {hp : AHeap} {hn bytes s b i n c : Nat} {k0 : IntKind} {v0 : Int} {z1 : AV} {zs : List AV} {k : IntKind} {m : Int} {x y : Opd} {rows : List (List AV)} (hy : ev tm y = .int k m) (hx : ev tm x = .slc b i n c)
    (hb : nth hp b = some (some (.arr s rows))) (hc : c < n + m.toNat) :
    aop tm hp hn (.appendZ bytes (.int k0 v0 :: z1 :: zs) x y) = some (decide (0 ≤ m ∧ s = (AV.int k0 v0 :: z1 :: zs).length ∧ (bytes + 1) * (n + m.toNat) ≤ 2 ^ 46), .sl hn 0 (n + m.toNat), .push (.arr s ((rows.drop i).take n ++ List.replicate m.toNat (.int k0 v0 :: z1 :: zs)))) := by
  have : Nat.ble (n + m.toNat) c = false := by
    cases h : Nat.ble (n + m.toNat) c
    · rfl
    · have := Nat.le_of_ble_eq_true h; omega
  simp only [aop, hy, hx, hb, this]

theorem stepA {α : Type} (A : List α) (i m : Nat) (v z : α) (hA : A.length = i) (hm : 1 ≤ m) : List.take i (A ++ List.replicate m z) ++ List.take m [v] ++ List.drop (i + min [v].length m) (A ++ List.replicate m z) = A ++ v :: List.replicate (m - 1) z := by
  obtain ⟨k, rfl⟩ : ∃ k, m = k + 1 := ⟨m - 1, by omega⟩
  subst hA
  rw [List.take_left, show min [v].length (k + 1) = 1 by simp, List.replicate_succ, Nat.add_sub_cancel, List.drop_append]
  simp
theorem stepB {α : Type} (A B : List α) (i m : Nat) (v z : α) (hA : A.length = i) (hB : B.length = m) : List.take (i + 1) (A ++ v :: List.replicate m z) ++ List.take m B ++ List.drop (i + 1 + min B.length m) (A ++ v :: List.replicate m z) = A ++ v :: B := by
  subst hA hB
  rw [show A ++ v :: List.replicate B.length z = (A ++ [v]) ++ List.replicate B.length z by simp]
  rw [List.take_left' (by simp), Nat.min_self, List.take_length, List.drop_eq_nil_of_le (by simp; omega)]
  simp

theorem all_sub {rows : List (List AV)} (hr : rows.all (fun r => r.all closed) = true) (i n : Nat) : ((rows ++ junkRows 0 10).drop i |>.take n).all (fun r => r.all closed) = true := by
  rw [List.all_eq_true]
  intro r h
  have h1 := List.mem_of_mem_drop (List.mem_of_mem_take h)
  rcases List.mem_append.1 h1 with h2 | h2
  · exact List.all_eq_true.1 hr r h2
  · cases h2

theorem all_sub2 {rows : List (List AV)} (hr : rows.all (fun r => r.all closed) = true) (J : List (List AV)) (i k m : Nat) (hi : i + k ≤ rows.length) : (List.take k (List.take m (List.drop i (rows ++ J)))).all (fun r => r.all closed) = true := by
  rw [List.all_eq_true]
  intro r h
  rw [List.take_take, List.drop_append_of_le_length (by omega)] at h
  have h2 : r ∈ List.take k (List.drop i rows ++ J) := by
    have h3 := List.mem_of_mem_take (i := min k m) (l := List.drop i rows ++ J) h
    obtain ⟨q, hq, rfl⟩ := List.getElem_of_mem h
    have hql : q < k := by rw [List.length_take] at hq; omega
    rw [List.getElem_take]
    exact List.mem_iff_getElem.2 ⟨q, by rw [List.length_take]; rw [List.length_take] at hq; omega, by rw [List.getElem_take]⟩
  rw [List.take_append_of_le_length (by rw [List.length_drop]; omega)] at h2
  exact List.all_eq_true.1 hr r (List.mem_of_mem_drop (List.mem_of_mem_take h2))
theorem all_one (x : Int × Int) (k m : Nat) : (List.take k (List.take m (List.drop 0 [irow x]))).all (fun r => r.all closed) = true := by
  rw [List.all_eq_true]
  intro r h
  have h1 := List.mem_of_mem_drop (List.mem_of_mem_take (List.mem_of_mem_take h))
  obtain rfl := List.mem_singleton.1 h1
  rfl

theorem fin_room (rows J D : List (List AV)) (v : List AV) (i n : Nat) (hn : rows.length = n) (hi : i < n) : List.take (n + 1) (List.take i (List.take (i + 1) (rows ++ J) ++ List.take (n - i) (List.take (n + 1 - i) (List.drop i (rows ++ J))) ++ D) ++ [v] ++
    List.drop (i + 1) (List.take (i + 1) (rows ++ J) ++ List.take (n - i) (List.take (n + 1 - i) (List.drop i (rows ++ J))) ++ D)) = insR rows i v := by
  have h1 : List.take (i + 1) (rows ++ J) = rows.take (i + 1) := List.take_append_of_le_length (by omega)
  have h2 : List.take (n - i) (List.take (n + 1 - i) (List.drop i (rows ++ J))) = rows.drop i := by
    rw [List.take_take, Nat.min_eq_left (by omega), List.drop_append_of_le_length (by omega), List.take_append_of_le_length (by rw [List.length_drop]; omega)]
    exact List.take_of_length_le (by rw [List.length_drop]; omega)
  rw [h1, h2]
  have hl : (rows.take (i + 1)).length = i + 1 := by rw [List.length_take]; omega
  have hX : rows.take (i + 1) ++ rows.drop i ++ D = rows.take (i + 1) ++ (rows.drop i ++ D) := List.append_assoc ..
  have h3 : List.take i (rows.take (i + 1) ++ (rows.drop i ++ D)) = rows.take i := by
    rw [List.take_append_of_le_length (by omega), List.take_take, Nat.min_eq_left (by omega)]
  rw [hX, h3, List.drop_left' hl]
  rw [show rows.take i ++ [v] ++ (rows.drop i ++ D) = insR rows i v ++ D by simp [insR]]
  exact List.take_left' (by rw [insR_len rows i v (by omega)]; omega)

theorem n1_nat (n : Nat) (h : n < 1000000) : IntKind.wrap .i64 ((n : Int) + ((0 + 1 : Nat) : Int)) = ((n + 1 : Nat) : Int) := by rw [wrap_id (by omega) (by omega)]; rfl
theorem n1_sub (n i : Nat) (h : n < 1000000) (hi : i ≤ n) : IntKind.wrap .i64 (((n + 1 : Nat) : Int) - (i : Int)) = ((n + 1 - i : Nat) : Int) := by rw [wrap_id (by omega) (by omega)]; omega

set_option maxRecDepth 10000 in
set_option maxHeartbeats 1000000 in
theorem insert_spec (rows : List (List AV)) (i : Nat) (x : Int × Int) (hi : i ≤ rows.length) (h : rows.length < 1000000) (hr : rows.all (fun r => r.all closed) = true) :
    CallsF Try.prog 18 [.sl 0 0 rows.length, iv i, .sl 1 0 1] [some (.arr 10 rows), some (.arr 10 [irow x])] (.sl 2 0 (rows.length + 1)) [none, some (.arr 10 [irow x]), some (.arr 10 (insR rows i (irow x)))] := by
  refine CallsA.full (hr := [some (.arr 10 [irow x])]) rfl (insR_len rows i _ hi).symm rfl rfl fun q => ?_
  obtain ⟨n, hn⟩ : ∃ n, rows.length = n := ⟨_, rfl⟩
  rw [hn] at hi h ⊢
  refine e18 ?_
  conv => whnf
  refine need_of ((decide_eq_true ⟨by omega, by omega, by omega⟩)) ?_
  conv => whnf
  by_cases hin : i = n
  · subst hin
    refine ifB_of (fun _ => ?_) (fun h => absurd h (by simp))
    conv => whnf
    cases q with
    | zero =>
      rw [aop_append_new (rows := rows ++ junkRows 0 10) (ys := [irow x]) rfl rfl (by rfl) (by simp)]
      conv => whnf
      refine need_of ((decide_eq_true (by simp only [List.length_singleton]; omega))) ?_
      conv => whnf
      refine ⟨[2], [], rfl, .inr ⟨some (.arr 10 (rows ++ junkRows 0 10)), rfl, ?_⟩⟩
      refine congrArg (fun R => ([some (.arr 10 (rows ++ junkRows 0 10)), some (.arr 10 [irow x]), some (.arr 10 R)] : AHeap)) ?_
      show List.take i (List.drop 0 (rows ++ junkRows 0 10)) ++ [irow x] = insR rows i (irow x)
      simp [insR, junkRows, ← hn]
    | succ q =>
      rw [aop_append_in (rows := rows ++ junkRows (q + 1) 10) (ys := [irow x]) rfl rfl (by rfl) (by simp)]
      conv => whnf
      refine ⟨[], [], rfl, .inl ⟨_, rfl, rfl, ?_⟩⟩
      show List.take (i + 1) (List.take (0 + i) (rows ++ junkRows (q + 1) 10) ++ [irow x] ++ List.drop (0 + i + [irow x].length) (rows ++ junkRows (q + 1) 10)) = insR rows i (irow x)
      rw [Nat.zero_add, ← hn, List.take_left, List.take_left' (by simp)]
      simp [insR]
  refine ifB_of (fun h => absurd h (by simp; omega)) (fun _ => ?_)
  conv => whnf
  rw [n1_nat n h]
  cases q with
  | zero =>
    refine ifB_of (fun _ => ?_) (fun h => absurd h (by simp; omega))
    conv => whnf
    refine need_of ((decide_eq_true ⟨by omega, by omega, by omega⟩)) ?_
    conv => whnf
    rw [n1_nat n h, n1_sub n i h hi]
    rw [aop_appendZ_new (rows := rows ++ junkRows 0 10) rfl rfl rfl (by simp only [Int.toNat_natCast, Int.toNat_zero]; omega)]
    conv => whnf
    simp only [Int.toNat_natCast, Int.toNat_zero, Nat.sub_zero, Nat.zero_add, Nat.add_zero, List.drop_zero]
    simp only [show List.take i (rows ++ junkRows 0 10) = rows.take i by simp [junkRows], show i + (n + 1 - i) = n + 1 by omega]
    refine need_of ((decide_eq_true ⟨by omega, rfl, by omega⟩)) ?_
    conv => whnf
    refine need_of ((decide_eq_true ⟨by omega, by omega, by omega⟩)) ?_
    conv => whnf
    rw [n1_nat i (by omega)]
    refine need_of ((decide_eq_true ⟨by omega, by omega, by omega⟩)) ?_
    conv => whnf
    refine need_of ((decide_eq_true ⟨by omega, by omega, by omega⟩)) ?_
    conv => whnf
    refine need_of ((all_sub hr _ _)) ?_
    conv => whnf
    refine ⟨[2], [], rfl, .inr ⟨some (.arr 10 (rows ++ junkRows 0 10)), rfl, ?_⟩⟩
    refine congrArg (fun R => ([some (.arr 10 (rows ++ junkRows 0 10)), some (.arr 10 [irow x]), some (.arr 10 R)] : AHeap)) ?_
    show List.take (0 + (i + 1)) (List.take (0 + i) _ ++ _ ++ List.drop _ _) ++ _ ++ _ = insR rows i (irow x)
    have hA : (rows.take i).length = i := by rw [List.length_take]; omega
    have hY : List.take (n - i) (List.drop i (rows ++ junkRows 0 10)) = rows.drop i := by
      rw [show rows ++ junkRows 0 10 = rows by simp [junkRows]]
      exact List.take_of_length_le (by rw [List.length_drop]; omega)
    simp only [Nat.zero_add, Int.toNat_natCast, List.drop_zero, show List.take 1 [irow x] = [irow x] from rfl, show n + 1 - (i + 1) = n - i by omega, hY]
    rw [stepA (rows.take i) i (n + 1 - i) (irow x) _ hA (by omega), show n + 1 - i - 1 = n - i by omega, stepB (rows.take i) (rows.drop i) i (n - i) (irow x) _ hA (by rw [List.length_drop]; omega)]
    rfl
  | succ q =>
    refine ifB_of (fun h => absurd h (by simp; omega)) (fun _ => ?_)
    conv => whnf
    rw [n1_nat n h]
    refine need_of ((decide_eq_true ⟨by omega, by omega, by omega⟩)) ?_
    conv => whnf
    rw [n1_nat i (by omega)]
    simp only [Int.toNat_natCast, Int.toNat_zero, Nat.sub_zero, Nat.zero_add, Nat.add_zero]
    refine need_of ((decide_eq_true ⟨by omega, by omega, by omega⟩)) ?_
    conv => whnf
    refine CallsA.overlaps Try.func24 (by decide +kernel) (by kernel_rfl) (by kernel_rfl) (tR := 4) (by kernel_rfl) Try.underlying53 Try.sizeOf60 rfl rfl (by decide) (by omega) (by decide) ?_
    conv => whnf
    rw [n1_nat i (by omega)]
    refine need_of ((decide_eq_true ⟨by omega, by omega, by omega⟩)) ?_
    conv => whnf
    refine need_of ((decide_eq_true ⟨by omega, by omega, by omega⟩)) ?_
    conv => whnf
    simp only [Int.toNat_natCast, Nat.zero_add, show n + 1 - (i + 1) = n - i by omega]
    refine need_of ((all_sub2 hr _ i (n - i) _ (by omega))) ?_
    conv => whnf
    refine need_of ((decide_eq_true ⟨by omega, by omega, by omega⟩)) ?_
    conv => whnf
    refine need_of ((all_one x _ _)) ?_
    conv => whnf
    refine ⟨[], [], rfl, .inl ⟨_, rfl, rfl, ?_⟩⟩
    have e1 : min (List.take 1 [irow x]).length (n + 1 - i) = 1 := by
      rw [show (List.take 1 [irow x]).length = 1 from rfl]; omega
    have e2 : List.take (n + 1 - i) (List.take 1 [irow x]) = [irow x] := List.take_of_length_le (by rw [show (List.take 1 [irow x]).length = 1 from rfl]; omega)
    have := fin_room rows (junkRows (q + 1) 10) (List.drop (i + 1 + min (List.take (n + 1 - i) (List.drop i (rows ++ junkRows (q + 1) 10))).length (n - i)) (rows ++ junkRows (q + 1) 10)) (irow x) i n hn (by omega)
    show List.take (n + 1) (List.take (0 + (i : Int).toNat) _ ++ List.take _ (List.take 1 (List.drop 0 [irow x])) ++ List.drop (0 + (i : Int).toNat + min (List.take 1 (List.drop 0 [irow x])).length _) _) = _
    simp only [Nat.zero_add, Int.toNat_natCast, List.drop_zero]
    rw [e1, e2]
    exact this

end Go.Proofs.TryN

