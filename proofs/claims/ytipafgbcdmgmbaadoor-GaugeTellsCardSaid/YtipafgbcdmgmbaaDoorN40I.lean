/- Layer 40: the law of what holds: a plane and itself, both ways, the sum and the worst, the histogram's sum. -/
import Derived.Test.YtipafgbcdmgmbaaDoorN40G
namespace Go.Proofs.TrydN
open Go Go.AL Go.Proofs

theorem like_comm (w h : Int) (v : List Int) (w2 h2 : Int) (v2 : List Int) : like w h v w2 h2 v2 = like w2 h2 v2 w h v := by
  have e1 : (w == w2) = (w2 == w) := Bool.eq_iff_iff.2 ⟨fun h => beq_iff_eq.2 (beq_iff_eq.1 h).symm, fun h => beq_iff_eq.2 (beq_iff_eq.1 h).symm⟩
  have e2 : (h == h2) = (h2 == h) := Bool.eq_iff_iff.2 ⟨fun h => beq_iff_eq.2 (beq_iff_eq.1 h).symm, fun h => beq_iff_eq.2 (beq_iff_eq.1 h).symm⟩
  rw [like, like, e1, e2, Bool.and_comm (right w h v)]

theorem like_len {w h : Int} {v : List Int} {w2 h2 : Int} {v2 : List Int} (hl : like w h v w2 h2 v2 = true) : v2.length = v.length := by
  simp only [like, Bool.and_eq_true, beq_iff_eq] at hl
  obtain ⟨⟨⟨h1, h2'⟩, rfl⟩, rfl⟩ := hl
  have a := (right_in h1).2.2.2
  have b := (right_in h2').2.2.2
  omega

theorem gPl_comm (w h : Int) (v : List Int) (w2 h2 : Int) (v2 : List Int) : gPl w h v w2 h2 v2 = gPl w2 h2 v2 w h v := by
  unfold gPl
  rw [like_comm w2 h2 v2]
  by_cases hl : like w h v w2 h2 v2 = true
  · rw [if_pos hl, if_pos hl, like_len hl, gRow_comm]
  · rw [if_neg hl, if_neg hl]

theorem gPl_fine (w h : Int) (v : List Int) (w2 h2 : Int) (v2 : List Int) (hN : v.length ≤ 3000) : ∃ n, n ≤ 3000 ∧ (gPl w h v w2 h2 v2).Fine n := by
  unfold gPl
  split
  · exact ⟨_, hN, gRow_fine v v2 _ hN⟩
  · exact ⟨0, by omega, gRow_fine v v2 0 (by omega)⟩

theorem gPl_self (w h : Int) (v : List Int) : (gPl w h v w h v).d = 0 ∧ (gPl w h v w h v).w = 0 ∧ (gPl w h v w h v).s = 0 ∧ (gPl w h v w h v).q = 0 := by
  unfold gPl
  split
  · exact gRow_self v _
  · exact ⟨rfl, rfl, rfl, rfl⟩

theorem gPl_count {w h : Int} {v : List Int} (hr : right w h v = true) (hN : v.length ≤ 3000) : (gPl w h v w h v).c = v.length := by
  have hl : like w h v w h v = true := by simp [like, hr]
  rw [gPl, if_pos hl]
  exact (gRow_fine v v _ hN).c

theorem sumN_in {M : Int} : ∀ xs : List Int, (∀ x ∈ xs, 0 ≤ x ∧ x ≤ M) → 0 ≤ sumN xs ∧ sumN xs ≤ M * xs.length
  | [], _ => by simp [sumN]
  | x :: xs, h => by
    have ih := sumN_in xs fun y hy => h y (by simp [hy])
    have hx := h x (by simp)
    simp only [sumN, List.length_cons, Int.natCast_add, Int.mul_add]
    omega

theorem histL_in (w h : Int) (v : List Int) (b m : Int) : (histL w h v b m).length ≤ 256 ∧ ∀ x ∈ histL w h v b m, 0 ≤ x ∧ x ≤ 1048576 := by
  unfold histL
  split
  · rename_i hB
    obtain ⟨h1, hb, hm, hN⟩ := histB_in hB
    refine ⟨by rw [hist_len]; omega, fun x hx => ?_⟩
    unfold hist at hx
    rw [List.mem_map] at hx
    obtain ⟨k, _, rfl⟩ := hx
    have := cnt_le b m v k v.length
    omega
  · exact ⟨by simp, fun x hx => by cases hx⟩

theorem histL_sum {w h : Int} {v : List Int} {b m : Int} (hr : right w h v = true) (hb : 1 ≤ b ∧ b ≤ 256) (hm : 1 ≤ m ∧ m ≤ 65535) : sumN (histL w h v b m) = v.length := by
  have hB : histB w h v b m = true := by simp [histB, hr, hb, hm]
  rw [histL, if_pos hB]
  exact hist_sum hb.1 hm.1 v _ (Nat.le_refl _)

theorem sumN_take {xs : List Int} {i : Nat} (h : i < xs.length) : sumN (xs.take (i + 1)) = sumN (xs.take i) + xs.getD i 0 := by
  rw [List.take_succ_eq_append_getElem h, sumN_append, getD_at h]; simp [sumN]

theorem sumN_bound {xs : List Int} (hh : xs.length ≤ 256 ∧ ∀ x ∈ xs, 0 ≤ x ∧ x ≤ 1048576) (i : Nat) : 0 ≤ sumN (xs.take i) ∧ sumN (xs.take i) ≤ 1048576 * 256 := by
  have h := sumN_in (M := 1048576) (xs.take i) fun x hx => hh.2 x (List.mem_of_mem_take hx)
  have h2 := List.length_take_le' i xs
  omega

set_option maxHeartbeats 4000000 in
set_option maxRecDepth 10000 in
theorem holds_spec (w h : Int) (v : List Int) (w2 h2 : Int) (v2 : List Int) (c8 : Int) (hv : ∀ n ∈ v, okI n) (hv2 : ∀ n ∈ v2, okI n) (hc8 : 0 ≤ c8 ∧ c8 ≤ 255) :
    CallsF Tryd.prog 5 [pl w h v, pl w2 h2 v2, .int .u8 c8] [] (.bool true) [] := by
  have eb : IntKind.wrap .i64 (1 + IntKind.wrap .i64 c8) = 1 + c8 := by rw [wrap_id (n := c8) (by omega) (by omega), wrap_id (by omega) (by omega)]
  have k0 := planes_spec w h v w2 h2 v2 hv hv2
  have k1 := planes_spec w2 h2 v2 w h v hv2 hv
  have k2 := planes_spec w h v w h v hv hv
  have k3 := hist_spec w h v (IntKind.wrap .i64 (1 + IntKind.wrap .i64 c8)) 255
  have hh := histL_in w h v (IntKind.wrap .i64 (1 + IntKind.wrap .i64 c8)) 255
  have hsum : right w h v = true → sumN (histL w h v (IntKind.wrap .i64 (1 + IntKind.wrap .i64 c8)) 255) = v.length := fun hr => histL_sum hr (by rw [eb]; omega) (by decide)
  have hf := gPl_fine w h v w2 h2 v2
  have hself := gPl_self w h v
  have hcount := gPl_count (w := w) (h := h) (v := v)
  rw [gPl_comm w2 h2 v2] at k1
  obtain ⟨xs, hx⟩ : ∃ xs, histL w h v (IntKind.wrap .i64 (1 + IntKind.wrap .i64 c8)) 255 = xs := ⟨_, rfl⟩
  rw [hx] at k3 hh hsum
  obtain ⟨g, hg⟩ : ∃ g, gPl w h v w2 h2 v2 = g := ⟨_, rfl⟩
  rw [hg] at k0 k1 hf
  obtain ⟨s, hs⟩ : ∃ s, gPl w h v w h v = s := ⟨_, rfl⟩
  rw [hs] at k2 hself hcount
  obtain ⟨g0, g1, g2, g3, g4⟩ := g
  obtain ⟨s0, s1, s2, s3, s4⟩ := s
  simp only at hself hcount
  obtain ⟨rfl, rfl, rfl, rfl⟩ := hself
  replace k0 : CallsF Tryd.prog 16 [pl w h v, pl w2 h2 v2] [] (.agg [iv g0, iv g1, iv g2, iv g3, iv g4]) [] := k0
  replace k1 : CallsF Tryd.prog 16 [pl w2 h2 v2, pl w h v] [] (.agg [iv g0, iv g1, iv g2, iv g3, iv g4]) [] := k1
  replace k2 : CallsF Tryd.prog 16 [pl w h v, pl w h v] [] (.agg [iv s0, iv 0, iv 0, iv 0, iv 0]) [] := k2
  refine e5 ?_
  conv => whnf
  refine CallsF.call [] [] first_spec rfl rfl rfl rfl rfl (.inl rfl) ?_
  conv => whnf
  refine ifB_of (fun h1 => ?_) (fun h1 => ?_)
  · conv => whnf
    exact ⟨[], [], rfl, rfl, rfl⟩
  have h1 : v.length ≤ 2000 := by have := of_decide_eq_false h1; omega
  conv => whnf
  refine ifB_of (fun h2 => ?_) (fun h2 => ?_)
  · conv => whnf
    exact ⟨[], [], rfl, rfl, rfl⟩
  conv => whnf
  refine CallsF.call [] [] k0 rfl rfl rfl rfl rfl (.inl rfl) ?_
  conv => whnf
  refine ⟨.inl ⟨_, rfl⟩, ?_⟩
  conv => whnf
  refine CallsF.call [] [] k1 rfl rfl rfl rfl rfl (.inl rfl) ?_
  conv => whnf
  refine ⟨.inl ⟨_, rfl⟩, ?_⟩
  conv => whnf
  refine CallsF.call [] [] k2 rfl rfl rfl rfl rfl (.inl rfl) ?_
  conv => whnf
  rw [show (!(g0 == g0 && (g1 == g1 && (g2 == g2 && (g3 == g3 && (g4 == g4 && true)))))) = false by simp only [beq_self_eq_true, Bool.and_self, Bool.not_true]]
  conv => whnf
  obtain ⟨nn, hnn, hF⟩ := hf (by omega)
  have hq := hF.sq hnn
  obtain ⟨f0, f1, f2, f3, f4, f5, f6, f7, f8⟩ := hF
  simp only at hq f0 f1 f2 f3 f4 f5 f6 f7 f8
  have p1 : 0 ≤ g2 * g1 := Int.mul_nonneg f3 f1
  have p2 : 0 ≤ g2 * g3 := Int.mul_nonneg f3 f5
  have p3 : g2 * g1 ≤ 16777216 * 3000 := Int.mul_le_mul f4 (by omega) f1 (by omega)
  have p4 : g2 * g3 ≤ 16777216 * (16777216 * 3000) := Int.mul_le_mul f4 hq.1 f5 (by omega)
  have m1 : IntKind.wrap .i64 (g2 * g1) = g2 * g1 := wrap_id (by omega) (by omega)
  have m2 : IntKind.wrap .i64 (g2 * g3) = g2 * g3 := wrap_id (by omega) (by omega)
  rw [m1]
  refine ifB_of (fun h => absurd (of_decide_eq_true h) (by omega)) (fun _ => ?_)
  conv => whnf
  rw [m2]
  refine ifB_of (fun h => absurd (of_decide_eq_true h) (by omega)) (fun _ => ?_)
  conv => whnf
  refine ifB_of (fun h => absurd (of_decide_eq_true h) (by omega)) (fun _ => ?_)
  conv => whnf
  refine CallsF.call [] [] k3 rfl rfl rfl rfl rfl (.inl rfl) ?_
  conv => whnf
  refine LoopA.inv (fun n st => ∃ i : Nat, n + i = xs.length ∧ st = ⟨[(3, .bp 0 0), (9, .bp 1 0), (10, iv (sumN (xs.take i))), (82, .ri .i64 xs), (83, iv (xs.length : Nat)), (84, iv i)], [some (.box [iv w, iv h, .ri .i64 v]), some (.box [iv s0, iv 0, iv 0, iv 0, iv 0])], 2, 0⟩) xs.length [3, 9, 10, 82, 83, 84] [0, 4] [] (by rfl) ?_ ?_
  · conv => whnf
    exact ⟨0, rfl, rfl⟩
  rintro n st ⟨i, hn, rfl⟩
  have hb1 := sumN_bound hh i
  conv => whnf
  refine ifB_of (fun h5 => ?_) (fun h5 => ?_)
  · have h5 : i < xs.length := by have := of_decide_eq_true h5; omega
    have hb2 := sumN_bound hh (i + 1)
    have ht := sumN_take h5
    have e1 := inc_nat (n := i) (by omega)
    conv => whnf
    refine need_of ((decide_eq_true ⟨Int.natCast_nonneg i, by omega⟩)) ?_
    conv => whnf
    refine ⟨(xs.length - (i + 1)), [3, 9, 10, 82, 83, 84], [0, 1], [], by omega, rfl, ?_⟩
    conv => whnf
    refine ⟨i + 1, by omega, ?_⟩
    rw [Int.toNat_natCast, e1, wrap_id (n := sumN (xs.take i) + xs.getD i 0) (by omega) (by omega), ht]
  · have h5 : ¬i < xs.length := by have := of_decide_eq_false h5; omega
    obtain rfl : i = xs.length := by omega
    rw [List.take_length]
    conv => whnf
    refine CallsF.call [] [] (right7_spec w h v) rfl rfl rfl rfl rfl (.inl rfl) ?_
    conv => whnf
    cases hr : right w h v
    · conv => whnf
      exact ⟨[], [], rfl, rfl, rfl⟩
    rw [hsum hr, hcount hr (by omega)]
    conv => whnf
    rw [show ((v.length : Int) == (v.length : Int)) = true from beq_self_eq_true _]
    conv => whnf
    exact ⟨[], [], rfl, congrArg AV.bool (beq_self_eq_true ((v.length : Nat) : Int)), rfl⟩

end Go.Proofs.TrydN

