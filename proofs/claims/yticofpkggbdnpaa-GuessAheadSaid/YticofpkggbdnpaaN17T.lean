/- Law 17: GuessAhead: the plain law. -/
import Derived.Test.YticofpkggbdnpaaN17S
namespace Go.Proofs.TryN
open Go Go.AL Go.Proofs

/-- From k up to i another block stands. -/
def mixB (l : List Blk) (b : Blk) (k i : Nat) : List Blk := l.take k ++ List.replicate (i - k) b ++ l.drop i

theorem mixB_len {l : List Blk} {b : Blk} {k i : Nat} (h1 : k ≤ i) (h2 : i ≤ l.length) : (mixB l b k i).length = l.length := by
  simp [mixB]; omega

theorem mixB_start (l : List Blk) (b : Blk) (k : Nat) : mixB l b k k = l := by simp [mixB]

theorem mixB_set {l : List Blk} {b : Blk} {k i : Nat} (h1 : k ≤ i) (h2 : i < l.length) : (mixB l b k i).set i b = mixB l b k (i + 1) := by
  apply List.ext_getElem?
  intro q
  have e : i + 1 - k = i - k + 1 := by omega
  simp only [mixB, List.getElem?_set, List.getElem?_append, List.getElem?_take, List.getElem?_drop, List.getElem?_replicate, List.length_append, List.length_take, List.length_replicate, List.length_drop]
  by_cases hq : q < k
  · simp [hq, show ¬ i = q by omega]
    split <;> split <;> simp_all <;> omega
  · by_cases hqi : q = i
    · subst hqi
      simp
      grind
    · grind

theorem mixB_get {l : List Blk} {b : Blk} {k i q : Nat} (h1 : k ≤ l.length) (hq : q < k) : (mixB l b k i).getD q Blk.zero = l.getD q Blk.zero := by
  simp only [mixB, List.getD_eq_getElem?_getD]
  rw [List.append_assoc, List.getElem?_append_left (by simp; omega), List.getElem?_take, if_pos hq]

theorem mixB_ok {l : List Blk} {b : Blk} {k i : Nat} (hl : l.all Blk.ok = true) (hb : b.ok = true) : (mixB l b k i).all Blk.ok = true := by
  rw [List.all_eq_true] at hl ⊢
  intro x hx
  simp only [mixB, List.mem_append] at hx
  rcases hx with (hx | hx) | hx
  · exact hl x (List.mem_of_mem_take hx)
  · rw [(List.mem_replicate.1 hx).2]; exact hb
  · exact hl x (List.mem_of_mem_drop hx)

theorem near_mix {f : Fld} {b : Blk} {x y : Int} {k i : Nat} (hh : f.here x y = true) (hb : b.ok = true) (hk : (k : Int) = 4 * f.a * y + x) (h1 : k ≤ i) (h2 : i ≤ f.bs.length) :
    nearL ⟨f.a, f.d, f.sp, mixB f.bs b k i⟩ x y = nearL f x y := by
  obtain ⟨hok, k1, k2, k3, k4, k5, k6, k7, _, _⟩ := here_in hh
  have hg : (⟨f.a, f.d, f.sp, mixB f.bs b k i⟩ : Fld).ok = true := by
    have hok' := hok
    simp only [Fld.ok, Bool.and_eq_true] at hok' ⊢
    refine ⟨⟨⟨hok'.1.1.1, ?_⟩, hok'.1.2⟩, mixB_ok hok'.2 hb⟩
    rw [mixB_len h1 h2]; exact hok'.1.1.2
  have hgh : (⟨f.a, f.d, f.sp, mixB f.bs b k i⟩ : Fld).here x y = true := by
    simp only [Fld.here, Bool.and_eq_true] at hh ⊢
    exact ⟨hg, hh.2⟩
  unfold nearL
  rw [hh, hgh, if_pos rfl, if_pos rfl]
  refine List.map_congr_left fun p hp => ?_
  obtain ⟨p1, p2⟩ := besL_in k3.1 k4.1 hp
  simp only [Fld.at]
  have hlt : 4 * f.a * p.2 + p.1 < 4 * f.a * y + x := by
    have m : 4 * f.a * p.2 ≤ 4 * f.a * y := Int.mul_le_mul_of_nonneg_left p2.2 (by omega)
    simp only [besL, List.mem_append] at hp
    have m2 : p.2 = y ∨ 4 * f.a * p.2 + 4 * f.a = 4 * f.a * y := by
      rcases hp with hp | hp | hp <;> split at hp <;> simp at hp <;> subst hp
      · exact .inl rfl
      · exact .inr (by simp only; rw [Int.mul_sub]; omega)
      · exact .inr (by simp only; rw [Int.mul_sub]; omega)
    rcases hp with hp | hp | hp <;> split at hp <;> simp at hp <;> subst hp <;> simp only at m2 p1 ⊢ <;> omega
  have hn : 0 ≤ 4 * f.a * p.2 + p.1 := by
    have m : 0 ≤ 4 * f.a * p.2 := Int.mul_nonneg (by omega) p2.1
    omega
  exact mixB_get (by omega) (by omega)

/-- A middle lies within. -/
theorem mid_low {l : List Int} {m : Int} (h0 : m ≤ 0) (h : ∀ v ∈ l, m ≤ v) : m ≤ midN l := by
  match l, h with
  | [], _ => exact h0
  | [a], h => exact h a (by simp)
  | [a, b], h =>
    have := h a (by simp); have := h b (by simp)
    simp only [midN]; omega
  | [a, b, c], h =>
    have := h a (by simp); have := h b (by simp); have := h c (by simp)
    simp only [midN, sort3]
    split <;> split <;> (try split) <;> simp <;> omega
  | _ :: _ :: _ :: _ :: _, _ => exact h0

theorem mid_high {l : List Int} {m : Int} (h0 : 0 ≤ m) (h : ∀ v ∈ l, v ≤ m) : midN l ≤ m := by
  match l, h with
  | [], _ => exact h0
  | [a], h => exact h a (by simp)
  | [a, b], h =>
    have := h a (by simp); have := h b (by simp)
    simp only [midN]; omega
  | [a, b, c], h =>
    have := h a (by simp); have := h b (by simp); have := h c (by simp)
    simp only [midN, sort3]
    split <;> split <;> (try split) <;> simp <;> omega
  | _ :: _ :: _ :: _ :: _, _ => exact h0

theorem sum_low {m : Int} : ∀ {l : List Int}, (∀ v ∈ l, m ≤ v) → m * l.length ≤ l.sum
  | [], _ => by simp
  | a :: l, h => by
    have ih := sum_low (l := l) fun v hv => h v (by simp [hv])
    have := h a (by simp)
    rw [List.sum_cons, List.length_cons]; push_cast; rw [Int.mul_add]; omega

theorem sum_high {m : Int} : ∀ {l : List Int}, (∀ v ∈ l, v ≤ m) → l.sum ≤ m * l.length
  | [], _ => by simp
  | a :: l, h => by
    have ih := sum_high (l := l) fun v hv => h v (by simp [hv])
    have := h a (by simp)
    rw [List.sum_cons, List.length_cons]; push_cast; rw [Int.mul_add]; omega

theorem mean_low {l : List Int} {m : Int} (h0 : m ≤ 0) (h : ∀ v ∈ l, m ≤ v) : m ≤ meanN l := by
  unfold meanN
  split
  · exact h0
  · rename_i hne
    have hp := len_pos hne
    have := sum_low h
    rw [Int.le_ediv_iff_mul_le (by omega)]
    omega

theorem mean_high {l : List Int} {m : Int} (h0 : 0 ≤ m) (h : ∀ v ∈ l, v ≤ m) : meanN l ≤ m := by
  unfold meanN
  split
  · exact h0
  · rename_i hne
    have hp := len_pos hne
    have := sum_high h
    have e : m * l.length < (m + 1) * (l.length : Int) - l.length / 2 := by rw [Int.add_mul]; omega
    have : (l.sum + l.length / 2) / (l.length : Int) < m + 1 := by
      rw [Int.ediv_lt_iff_lt_mul (by omega)]; omega
    omega

theorem mode_in (l : List Blk) : 0 ≤ modeN l ∧ modeN l ≤ 3 := by
  unfold modeN
  split <;> split <;> omega
end Go.Proofs.TryN

