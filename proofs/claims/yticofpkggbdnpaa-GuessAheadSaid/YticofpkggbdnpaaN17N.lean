/- Layer 17: splits. -/
import Derived.Test.YticofpkggbdnpaaN17M
namespace Go.Proofs.TryN
open Go Go.AL Go.Proofs

def spAt (f : Fld) (k : Int) : Int := f.sp.getD k.toNat 0
def splL (f : Fld) (i : Int) : List Int :=
  (if 1 ≤ i % f.a then [spAt f (i - 1)] else []) ++ ((if 1 ≤ i / f.a then [spAt f (i - f.a)] else []) ++ (if 1 ≤ i % f.a ∧ 1 ≤ i / f.a then [spAt f (i - f.a - 1)] else []))
def splitN (f : Fld) (i : Int) : Int := if f.ok = true ∧ 0 ≤ i ∧ i < f.sp.length then meanN (splL f i) else 0

theorem spAt_in {f : Fld} (h : f.ok = true) (k : Int) : -16777216 ≤ spAt f k ∧ spAt f k ≤ 16777216 := by
  unfold spAt
  by_cases hk : k.toNat < f.sp.length
  · rw [getD_at hk]
    have := (Fld.ok_in h).2.2.2.2.1 _ (List.getElem_mem hk)
    omega
  · rw [List.getD_eq_getElem?_getD, List.getElem?_eq_none (by omega)]; simp

set_option maxRecDepth 10000 in
theorem split_spec (f : Fld) (i : Int) : CallsF Try.prog 7 [f.av, iv i] [] (iv (splitN f i)) [] := by
  have no : ¬(f.ok = true ∧ 0 ≤ i ∧ i < f.sp.length) → iv 0 = iv (splitN f i) := fun h => by rw [splitN, if_neg h]
  refine e7 ?_
  conv => whnf
  refine CallsF.call [] [] (right_spec f) rfl rfl rfl rfl rfl (.inl rfl) ?_
  conv => whnf
  cases h1 : f.ok
  · conv => whnf
    exact ⟨[], [], rfl, no (by simp [h1]), rfl⟩
  obtain ⟨k1, k2, k3, k4, _, _⟩ := Fld.ok_in h1
  conv => whnf
  refine ifB_of (fun h2 => ?_) (fun h2 => ?_)
  · have h2 := of_decide_eq_true h2
    conv => whnf
    exact ⟨[], [], rfl, no (by omega), rfl⟩
  have h2 := of_decide_eq_false h2
  conv => whnf
  refine ifB_of (fun h3 => ?_) (fun h3 => ?_)
  · have h3 := of_decide_eq_true h3
    conv => whnf
    exact ⟨[], [], rfl, no (by omega), rfl⟩
  have h3 := of_decide_eq_false h3
  rw [splitN, if_pos ⟨h1, by omega, by omega⟩]
  have m3 : f.a * f.d ≤ 64 * 64 := Int.mul_le_mul (by omega) (by omega) (by omega) (by omega)
  have e1 := Int.mul_ediv_add_emod i f.a
  have x1 := Int.emod_nonneg i (show f.a ≠ 0 by omega)
  have x2 := Int.emod_lt_of_pos i (show 0 < f.a by omega)
  have y1 : 0 ≤ i / f.a := Int.ediv_nonneg (by omega) (by omega)
  have y2 : i / f.a ≤ i := Int.ediv_le_self _ (by omega)
  have m0 : 0 ≤ f.a * (i / f.a) := Int.mul_nonneg (by omega) y1
  have hm : i.tmod f.a = i % f.a := Int.tmod_eq_emod_of_nonneg (by omega)
  have hd : IntKind.wrap .i64 (i.tdiv f.a) = i / f.a := by rw [Int.tdiv_eq_ediv_of_nonneg (by omega), wrap_id (by omega) (by omega)]
  have hsm : ∀ l : List Int, (∀ v ∈ l, ∃ k, v = spAt f k) → ∀ v ∈ l, -16777216 ≤ v ∧ v ≤ 16777216 := fun l hl v hv => by
    obtain ⟨k, rfl⟩ := hl v hv
    exact spAt_in h1 k
  have wr : ∀ u v k : Int, v * f.a + u = k → 0 ≤ k → k < 2 ^ 20 → (0 ≤ u ∧ u ≤ 64) → IntKind.wrap .i64 (IntKind.wrap .i64 (v * f.a) + u) = k := fun u v k e a b c => by
    rw [wrap_id (n := v * f.a) (by omega) (by omega), e, wrap_id (by omega) (by omega)]
  conv => whnf
  refine need_of ((decide_eq_true (show f.a ≠ 0 by omega))) ?_
  conv => whnf
  refine need_of ((decide_eq_true (show f.a ≠ 0 by omega))) ?_
  conv => whnf
  rw [hm, hd]
  refine CallsF.call [] [] (beside_spec (i % f.a) (i / f.a) (by omega) (by omega)) rfl rfl rfl rfl rfl (.inl rfl) ?_
  conv => whnf
  by_cases hx : 1 ≤ i % f.a <;> by_cases hy : 1 ≤ i / f.a
  · have eb : besR (i % f.a) (i / f.a) = [[iv (i % f.a - 1), iv (i / f.a)], [iv (i % f.a), iv (i / f.a - 1)], [iv (i % f.a - 1), iv (i / f.a - 1)]] := by simp [besR, besL, hx, hy]
    have en : splL f i = [spAt f (i - 1), spAt f (i - f.a), spAt f (i - f.a - 1)] := by simp [splL, hx, hy]
    have m4 : f.a ≤ f.a * (i / f.a) := by have := Int.mul_le_mul_of_nonneg_left hy (show 0 ≤ f.a by omega); omega
    rw [eb, en]
    conv => whnf
    refine LoopA.steps 4 [2, 5, 30, 31, 32] [0] [] (by rfl) ?_
    conv => whnf
    rw [wr (i % f.a - 1) (i / f.a) (i - 1) (by grind) (by omega) (by omega) (by omega)]
    refine need_of ((decide_eq_true ⟨by omega, by omega⟩)) ?_
    conv => whnf
    refine pt_of [2, 5, 30, 31, 32] [0, 3] [] (by rfl) ?_
    conv => whnf
    rw [wr (i % f.a) (i / f.a - 1) (i - f.a) (by grind) (by omega) (by omega) (by omega)]
    refine need_of ((decide_eq_true ⟨by omega, by omega⟩)) ?_
    conv => whnf
    refine pt_of [2, 5, 30, 31, 32] [0, 4] [] (by rfl) ?_
    conv => whnf
    rw [wr (i % f.a - 1) (i / f.a - 1) (i - f.a - 1) (by grind) (by omega) (by omega) (by omega)]
    refine need_of ((decide_eq_true ⟨by omega, by omega⟩)) ?_
    conv => whnf
    refine pt_of [2, 5, 30, 31, 32] [0, 4] [] (by rfl) ?_
    conv => whnf
    refine CallsF.call [] [1] (mean_spec [spAt f (i - 1), spAt f (i - f.a), spAt f (i - f.a - 1)] (by simp) (hsm _ (by simp; grind))) rfl rfl rfl rfl rfl (.inr rfl) ?_
    conv => whnf
    exact ⟨[], [], rfl, rfl, rfl⟩
  · have eb : besR (i % f.a) (i / f.a) = [[iv (i % f.a - 1), iv (i / f.a)]] := by simp [besR, besL, hx, hy]
    have en : splL f i = [spAt f (i - 1)] := by simp [splL, hx, hy]
    rw [eb, en]
    conv => whnf
    refine LoopA.steps 2 [2, 5, 30, 31, 32] [0] [] (by rfl) ?_
    conv => whnf
    rw [wr (i % f.a - 1) (i / f.a) (i - 1) (by grind) (by omega) (by omega) (by omega)]
    refine need_of ((decide_eq_true ⟨by omega, by omega⟩)) ?_
    conv => whnf
    refine pt_of [2, 5, 30, 31, 32] [0, 3] [] (by rfl) ?_
    conv => whnf
    refine CallsF.call [] [1] (mean_spec [spAt f (i - 1)] (by simp) (hsm _ (by simp; grind))) rfl rfl rfl rfl rfl (.inr rfl) ?_
    conv => whnf
    exact ⟨[], [], rfl, rfl, rfl⟩
  · have eb : besR (i % f.a) (i / f.a) = [[iv (i % f.a), iv (i / f.a - 1)]] := by simp [besR, besL, hx, hy]
    have en : splL f i = [spAt f (i - f.a)] := by simp [splL, hx, hy]
    have m4 : f.a ≤ f.a * (i / f.a) := by have := Int.mul_le_mul_of_nonneg_left hy (show 0 ≤ f.a by omega); omega
    rw [eb, en]
    conv => whnf
    refine LoopA.steps 2 [2, 5, 30, 31, 32] [0] [] (by rfl) ?_
    conv => whnf
    rw [wr (i % f.a) (i / f.a - 1) (i - f.a) (by grind) (by omega) (by omega) (by omega)]
    refine need_of ((decide_eq_true ⟨by omega, by omega⟩)) ?_
    conv => whnf
    refine pt_of [2, 5, 30, 31, 32] [0, 3] [] (by rfl) ?_
    conv => whnf
    refine CallsF.call [] [1] (mean_spec [spAt f (i - f.a)] (by simp) (hsm _ (by simp; grind))) rfl rfl rfl rfl rfl (.inr rfl) ?_
    conv => whnf
    exact ⟨[], [], rfl, rfl, rfl⟩
  · have eb : besR (i % f.a) (i / f.a) = [] := by simp [besR, besL, hx, hy]
    have en : splL f i = [] := by simp [splL, hx, hy]
    rw [eb, en]
    conv => whnf
    refine LoopA.steps 1 [2, 5, 30, 31, 32] [0] [] (by rfl) ?_
    conv => whnf
    refine CallsF.call [] [] (CallsF.weak (.cons (.snil .i64) .nil) (mean_spec [] (by simp) (by simp))) rfl rfl rfl rfl rfl (.inl rfl) ?_
    conv => whnf
    exact ⟨[], [], rfl, rfl, rfl⟩
end Go.Proofs.TryN

