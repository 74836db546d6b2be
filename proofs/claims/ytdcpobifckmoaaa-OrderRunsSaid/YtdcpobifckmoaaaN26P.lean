/- Layer 26: numbers changed about within fours, put one by one. -/
import Derived.Test.YtdcpobifckmoaaaN26O
namespace Go.Proofs.TryN
open Go Go.AL Go.Proofs

theorem tk_split : ∀ (W : List (Int × Int)) (next : Int), Waits next W → next + W.length < 900000 →
    Waits (next + tk next W) (W.drop (tk next W)) ∧ (∀ i, i < tk next W → (W[i]?).map (fun x => x.1) = some (next + (i : Int))) ∧ ∀ x ∈ W.drop (tk next W), next + tk next W < x.1
  | [], next, h, _ => by
    refine ⟨by simpa [tk] using h, fun i hi => by simp [tk] at hi, fun x hx => by simp at hx⟩
  | x :: W', next, h, hb => by
    have hr := List.pairwise_cons.1 h.rise
    have hx := h.rng x (by simp)
    have hlo := h.lo
    simp only [List.length_cons] at hb
    by_cases hc : x.1 = next
    · have up : ∀ y ∈ W', next + 1 ≤ y.1 ∧ y.1 ≤ next + 8 := fun y hy => by
        have a := hr.1 y hy
        have b := (h.rng y (by simp [hy])).2
        omega
      obtain ⟨a1, a2, a3⟩ := tk_split W' (next + 1) ⟨by omega, fun y hy => by have := up y hy; omega, hr.2⟩ (by omega)
      have e : tk next (x :: W') = tk (next + 1) W' + 1 := by rw [tk, if_pos hc]
      have e2 : next + ((tk (next + 1) W' + 1 : Nat) : Int) = next + 1 + (tk (next + 1) W' : Int) := by omega
      rw [e, List.drop_succ_cons, e2]
      refine ⟨a1, fun i hi => ?_, a3⟩
      cases i with
      | zero => simp [hc]
      | succ i =>
        have := a2 i (by omega)
        rw [List.getElem?_cons_succ, this]
        congr 1; omega
    · have e : tk next (x :: W') = 0 := by rw [tk, if_neg hc]
      rw [e, List.drop_zero]
      refine ⟨by simpa using h, fun i hi => by omega, fun y hy => ?_⟩
      rcases List.mem_cons.1 hy with rfl | hy
      · omega
      · have := hr.1 y hy; omega

/-- Numbers changed about within fours. -/
structure P4 (l : List Int) (k : Nat) : Prop where
  len : l.length = k
  rng : ∀ (p : Nat) (h : p < l.length), 0 ≤ l[p] ∧ l[p] < k ∧ l[p] / 4 = (p : Int) / 4
  inj : ∀ (p q : Nat) (hp : p < l.length) (hq : q < l.length), l[p] = l[q] → p = q
  sur : ∀ j : Nat, j < k → ∃ (p : Nat) (h : p < l.length), l[p] = j

/-- Two are exchanged. -/
def swp (l : List Int) (a b : Nat) : List Int := (l.set a (l.getD b 0)).set b (l.getD a 0)

theorem swp_get {l : List Int} {a b : Nat} (ha : a < l.length) (hb : b < l.length) (p : Nat) (hp : p < (swp l a b).length) : (swp l a b)[p] = l[if p = b then a else if p = a then b else p]'(by
    have : (swp l a b).length = l.length := by simp [swp]
    split
    · exact ha
    · split
      · exact hb
      · omega) := by
  simp only [swp, List.getElem_set]
  by_cases h1 : p = b
  · subst h1; simp [List.getD, ha]
  · by_cases h2 : p = a
    · subst h2
      rw [if_neg (Ne.symm h1), if_pos rfl]
      simp [h1, List.getD, hb]
    · rw [if_neg (Ne.symm h1), if_neg (Ne.symm h2)]
      simp [h1, h2]

theorem P4.swap {l : List Int} {k : Nat} (h : P4 l k) {a b : Nat} (ha : a < k) (hb : b < k) (hab : a / 4 = b / 4) : P4 (swp l a b) k := by
  have hl := h.len
  have hsl : (swp l a b).length = l.length := by simp [swp]
  have ha' : a < l.length := by omega
  have hb' : b < l.length := by omega
  refine ⟨by omega, fun p hp => ?_, fun p q hp hq he => ?_, fun j hj => ?_⟩
  · rw [swp_get ha' hb' p hp]
    have key : ∀ q (hq : q < l.length), (q : Int) / 4 = (p : Int) / 4 → 0 ≤ l[q] ∧ l[q] < k ∧ l[q] / 4 = (p : Int) / 4 := fun q hq he => by
      have := h.rng q hq; exact ⟨this.1, this.2.1, by rw [this.2.2, he]⟩
    by_cases h1 : p = b
    · simp only [h1, if_true]
      have := key a ha' (by omega)
      rw [h1] at this; exact this
    · by_cases h2 : p = a
      · simp only [h2, if_true]
        have := key b hb' (by omega)
        rw [h2] at this
        split
        · rename_i h3; exact absurd (h2.trans h3) h1
        · exact this
      · simp only [h1, h2, if_false]
        exact key p (by omega) rfl
  · rw [swp_get ha' hb' p hp, swp_get ha' hb' q hq] at he
    have := h.inj _ _ _ _ he
    split at this <;> split at this <;> (try split at this) <;> (try split at this) <;> omega
  · obtain ⟨p, hp, hpe⟩ := h.sur j hj
    refine ⟨if p = b then a else if p = a then b else p, by split; omega; split <;> omega, ?_⟩
    rw [swp_get ha' hb']
    simp only [← hpe]
    congr 1
    by_cases h1 : p = b
    · subst h1
      simp
    · by_cases h2 : p = a
      · subst h2; simp [h1]
      · simp [h1, h2]

/-- What has been put, and who waits. -/
structure Inv (l : List Int) (m : Nat) (next : Int) (W : List (Int × Int)) : Prop where
  w : Waits next W
  lt : ∀ j : Int, 0 ≤ j → j < next → j ∈ l.take m
  nin : next ∉ l.take m
  w1 : ∀ x ∈ W, x.2 = x.1 ∧ x.1 ∈ l.take m
  w2 : ∀ j ∈ l.take m, next ≤ j → (j, j) ∈ W

theorem Inv.start (l : List Int) : Inv l 0 0 [] := ⟨Waits.fresh, fun j h1 h2 => by omega, by simp, by simp, by simp⟩

theorem mem_take {l : List Int} {m : Nat} {j : Int} : j ∈ l.take m ↔ ∃ (p : Nat) (h : p < l.length), p < m ∧ l[p] = j := by
  constructor
  · intro h
    obtain ⟨p, hp, rfl⟩ := List.getElem_of_mem h
    rw [List.length_take] at hp
    exact ⟨p, by omega, by omega, by rw [List.getElem_take]⟩
  · rintro ⟨p, h, hm, rfl⟩
    exact List.mem_iff_getElem.2 ⟨p, by rw [List.length_take]; omega, by rw [List.getElem_take]⟩

theorem hasW_mem {W : List (Int × Int)} {n : Int} (h : hasW W n = true) : ∃ x ∈ W, x.1 = n := by
  unfold hasW at h
  rw [Option.any_eq_true] at h
  obtain ⟨x, hx, he⟩ := h
  exact ⟨x, List.mem_of_getElem? hx, by simpa using he⟩

theorem Inv.put {l : List Int} {k m : Nat} {next : Int} {W : List (Int × Int)} (h : P4 l k) (I : Inv l m next W) (hm : m < l.length) : next ≤ l[m] ∧ l[m] ≤ next + 8 ∧ hasW W l[m] = false := by
  have hnot : l[m] ∉ l.take m := fun hc => by
    obtain ⟨p, hp, hpm, he⟩ := mem_take.1 hc
    have := h.inj p m hp hm he; omega
  have hr := h.rng m hm
  refine ⟨?_, ?_, ?_⟩
  · apply Classical.byContradiction
    intro hc
    exact hnot (I.lt _ hr.1 (by omega))
  · apply Classical.byContradiction
    intro hc
    have hlo := I.w.lo
    have hl := h.len
    obtain ⟨p, hp, hpe⟩ := h.sur next.toNat (by omega)
    have hpr := h.rng p hp
    refine I.nin (mem_take.2 ⟨p, hp, by omega, by omega⟩)
  · cases hh : hasW W l[m]
    · rfl
    · obtain ⟨x, hx, he⟩ := hasW_mem hh
      exact absurd (by rw [← he]; exact (I.w1 x hx).2) hnot

theorem take_succ_mem {l : List Int} {m : Nat} (hm : m < l.length) {j : Int} : j ∈ l.take (m + 1) ↔ j ∈ l.take m ∨ j = l[m] := by
  rw [List.take_succ_eq_append_getElem hm, List.mem_append, List.mem_singleton]

theorem mem_split {W : List (Int × Int)} {x : Int × Int} (t : Nat) (h : x ∈ W) : x ∈ W.take t ∨ x ∈ W.drop t := by
  rw [← List.take_append_drop t W] at h
  exact List.mem_append.1 h

theorem Inv.step {l : List Int} {k m : Nat} {next : Int} {W : List (Int × Int)} (h : P4 l k) (hk : k ≤ 60) (I : Inv l m next W) (hm : m < l.length) :
    Inv l (m + 1) (next + tk next (putW W l[m] l[m])) ((putW W l[m] l[m]).drop (tk next (putW W l[m] l[m]))) ∧ ∀ i, i < tk next (putW W l[m] l[m]) → (putW W l[m] l[m])[i]? = some (next + (i : Int), next + (i : Int)) := by
  obtain ⟨p1, p2, p3⟩ := I.put h hm
  have hr := h.rng m hm
  have W2 := I.w.put (v := l[m]) p1 p2 p3
  have hlen := W2.len_le
  have hlo := I.w.lo
  obtain ⟨W2e, hWe⟩ : ∃ W2, putW W l[m] l[m] = W2 := ⟨_, rfl⟩
  have hmem : ∀ x, x ∈ W2e ↔ x = (l[m], l[m]) ∨ x ∈ W := fun x => by rw [← hWe]; exact mem_put
  rw [hWe] at W2 hlen ⊢
  obtain ⟨a1, a2, a3⟩ := tk_split W2e next W2 (by omega)
  have same : ∀ x ∈ W2e, x.2 = x.1 ∧ x.1 ∈ l.take (m + 1) := fun x hx => by
    rcases (hmem x).1 hx with rfl | hx
    · exact ⟨rfl, (take_succ_mem hm).2 (.inr rfl)⟩
    · have := I.w1 x hx
      exact ⟨this.1, (take_succ_mem hm).2 (.inl this.2)⟩
  have back : ∀ j ∈ l.take (m + 1), next ≤ j → (j, j) ∈ W2e := fun j hj hn => by
    rcases (take_succ_mem hm).1 hj with hj | rfl
    · exact (hmem _).2 (.inr (I.w2 j hj hn))
    · exact (hmem _).2 (.inl rfl)
  have items : ∀ i, i < tk next W2e → W2e[i]? = some (next + (i : Int), next + (i : Int)) := fun i hi => by
    have h1 := a2 i hi
    rw [Option.map_eq_some_iff] at h1
    obtain ⟨x, hx, he⟩ := h1
    have h2 := same x (List.mem_of_getElem? hx)
    rw [hx, ← he]
    obtain ⟨x1, x2⟩ := x
    simp only at h2
    rw [h2.1]
  refine ⟨⟨a1, fun j h0 hj => ?_, fun hc => ?_, fun x hx => same x (List.mem_of_mem_drop hx), fun j hj hn => ?_⟩, items⟩
  · by_cases hjn : j < next
    · exact (take_succ_mem hm).2 (.inl (I.lt j h0 hjn))
    · have hi := items (j - next).toNat (by omega)
      have := (same _ (List.mem_of_getElem? hi)).2
      simp only at this
      rw [show next + ((j - next).toNat : Int) = j by omega] at this
      exact this
  · have hb := back _ hc (by omega)
    rcases mem_split (tk next W2e) hb with hb | hb
    · obtain ⟨i, hi, he⟩ := List.getElem_of_mem hb
      rw [List.length_take] at hi
      have h1 := items i (by omega)
      rw [List.getElem_take] at he
      rw [List.getElem?_eq_getElem (by omega), he] at h1
      have := congrArg (fun o => o.map Prod.fst) h1
      simp at this; omega
    · have := a3 _ hb
      simp only at this; omega
  · have hb := back _ hj (by omega)
    rcases mem_split (tk next W2e) hb with hb | hb
    · obtain ⟨i, hi, he⟩ := List.getElem_of_mem hb
      rw [List.length_take] at hi
      have h1 := items i (by omega)
      rw [List.getElem_take] at he
      rw [List.getElem?_eq_getElem (by omega), he] at h1
      have := congrArg (fun o => o.map Prod.fst) h1
      simp at this; omega
    · exact hb

theorem Inv.done {l : List Int} {k : Nat} {next : Int} {W : List (Int × Int)} (h : P4 l k) (I : Inv l k next W) : next = k ∧ W = [] := by
  have hl := h.len
  have hlo := I.w.lo
  have ht : l.take k = l := by rw [← hl, List.take_length]
  have hn : next = k := by
    apply Classical.byContradiction
    intro hc
    by_cases hlt : next < k
    · obtain ⟨p, hp, hpe⟩ := h.sur next.toNat (by omega)
      exact I.nin (mem_take.2 ⟨p, hp, by omega, by omega⟩)
    · have := I.lt k (by omega) (by omega)
      obtain ⟨p, hp, _, hpe⟩ := mem_take.1 this
      have := h.rng p hp
      omega
  refine ⟨hn, ?_⟩
  cases W with
  | nil => rfl
  | cons x W' =>
    obtain ⟨p, hp, _, hpe⟩ := mem_take.1 (I.w1 x (by simp)).2
    have := h.rng p hp
    have := I.w.rng x (by simp)
    omega

/-- At first. -/
def ini (k i : Nat) : List Int := (List.range i).map (fun j : Nat => (j : Int)) ++ List.replicate (k - i) 0

theorem ini_len {k i : Nat} (h : i ≤ k) : (ini k i).length = k := by simp [ini]; omega
theorem ini_set {k i : Nat} (h : i < k) : (ini k i).set i (i : Int) = ini k (i + 1) := by
  unfold ini
  rw [List.set_append_right _ _ (by simp)]
  obtain ⟨q, hq⟩ : ∃ q, k - i = q + 1 := ⟨k - i - 1, by omega⟩
  rw [hq, show k - (i + 1) = q by omega, List.range_succ, List.map_append, List.replicate_succ]
  simp
theorem P4.start (k : Nat) : P4 (ini k k) k := by
  have hl := ini_len (Nat.le_refl k)
  have hg : ∀ (p : Nat) (h : p < (ini k k).length), (ini k k)[p] = (p : Int) := fun p h => by
    simp [ini]
  refine ⟨hl, fun p hp => ?_, fun p q hp hq he => ?_, fun j hj => ⟨j, by omega, hg j (by omega)⟩⟩
  · rw [hg p hp]; omega
  · rw [hg p hp, hg q hq] at he; omega

end Go.Proofs.TryN

