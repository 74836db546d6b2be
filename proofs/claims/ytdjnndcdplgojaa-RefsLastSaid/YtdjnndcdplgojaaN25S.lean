/- Layer 25: the last ones are kept. -/
import Derived.Test.YtdjnndcdplgojaaN25J
namespace Go.Proofs.TryN
open Go Go.AL Go.Proofs Go.Sort Go.Shelf

/-- The last four. -/
def lst (f : Int) (i : Nat) : List (Int × Int) := ((List.range i).map fun j : Nat => (f + (j : Int), (j : Int))).drop (i - 4)

theorem lst_len (f : Int) (i : Nat) : (lst f i).length = min i 4 := by simp [lst]; omega

theorem lst_mem {f : Int} {i : Nat} {p : Int × Int} : p ∈ lst f i ↔ ∃ j : Nat, i - 4 ≤ j ∧ j < i ∧ p = (f + (j : Int), (j : Int)) := by
  unfold lst
  rw [List.mem_drop_iff_getElem]
  constructor
  · rintro ⟨j, hj, rfl⟩
    simp only [List.length_map, List.length_range] at hj
    exact ⟨i - 4 + j, by omega, by omega, by simp⟩
  · rintro ⟨j, h1, h2, rfl⟩
    exact ⟨j - (i - 4), by simp; omega, by simp [show i - 4 + (j - (i - 4)) = j by omega]⟩

theorem lst_succ (f : Int) (i : Nat) : lst f (i + 1) = (if (lst f i).length = 4 then (lst f i).tail else lst f i) ++ [(f + (i : Int), (i : Int))] := by
  rw [lst_len]
  unfold lst
  rw [List.range_succ, List.map_append]
  by_cases h : i < 4
  · rw [if_neg (by omega), show i + 1 - 4 = 0 by omega, show i - 4 = 0 by omega]; rfl
  · rw [if_pos (by omega), List.drop_append_of_le_length (by simp), List.tail_drop, show i - 4 + 1 = i + 1 - 4 by omega]; rfl

theorem ins_end (n v : Int) : ∀ L : List (Int × Int), (∀ p ∈ L, p.1 < n) → ins n v L = L ++ [(n, v)]
  | [], _ => rfl
  | x :: r, h => by
    have hx := h x (by simp)
    rw [ins, if_neg (by omega), ins_end n v r fun p hp => h p (by simp [hp])]; rfl

theorem lk_lt (n : Int) : ∀ L : List (Int × Int), (∀ p ∈ L, p.1 < n) → lk n L = none
  | [], _ => rfl
  | x :: r, h => by
    have hx := h x (by simp)
    rw [lk, if_neg (by omega), lk_lt n r fun p hp => h p (by simp [hp])]

theorem lst_put (f : Int) (i : Nat) (h0 : 0 ≤ f) (h1 : f + i ≤ 2147483647) : putE (f + i) (lst f i) = 0 ∧ putL (f + i) i (lst f i) = lst f (i + 1) := by
  have hlt : ∀ p ∈ lst f i, p.1 < f + i := fun p hp => by
    obtain ⟨j, _, h2, rfl⟩ := lst_mem.1 hp
    simp only; omega
  have hk := lk_lt _ _ hlt
  have hn : ¬ (f + (i : Int) < 0 ∨ 2147483647 < f + (i : Int)) := by omega
  rw [putE, if_neg hn, putL, if_neg hn, hk]
  refine ⟨rfl, ?_⟩
  simp only [Option.isSome_none, Bool.false_eq_true, if_false]
  rw [lst_succ, ins_end]
  intro p hp
  split at hp
  · exact hlt p (List.mem_of_mem_tail hp)
  · exact hlt p hp

theorem lst_get (f : Int) {B : List (Int × Int)} {k i : Nat} (hB : Bf B (lst f k)) (hi : i < k) : lk (f + i) (lst f k) = if k ≤ i + 4 then some (i : Int) else none := by
  have nd := nodup_of hB.rise
  split
  · rename_i h
    exact (lk_mem nd).2 (lst_mem.2 ⟨i, by omega, hi, rfl⟩)
  · rename_i h
    cases hh : lk (f + i) (lst f k) with
    | none => rfl
    | some v =>
      obtain ⟨j, h1, h2, h3⟩ := lst_mem.1 ((lk_mem nd).1 hh)
      have := congrArg Prod.fst h3
      simp only at this
      omega

set_option maxRecDepth 20000 in
theorem last_spec (n f : Int) (hn : 0 ≤ n ∧ n ≤ 255) (hf : 0 ≤ f ∧ f ≤ 65535) : CallsF Try.prog 5 [.int .u8 n, .int .u16 f] [] (.bool true) [] := by
  obtain ⟨k, hk, hk40⟩ : ∃ k : Nat, IntKind.wrap .i64 (n.tmod 40) = (k : Int) ∧ k < 40 := by
    have h1 := Int.tmod_nonneg 40 hn.1
    have h2 := Int.tmod_lt_of_pos n (show (0 : Int) < 40 by decide)
    refine ⟨(n.tmod 40).toNat, ?_, by omega⟩
    rw [IntKind.wrap_i64]; omega
  have ef : IntKind.wrap .i64 f = f := by rw [IntKind.wrap_i64]; omega
  refine e5 ?_
  conv => whnf
  refine CallsF.call [] [] first_spec rfl rfl rfl rfl rfl (.inl rfl) ?_
  conv => whnf
  refine CallsF.call [] [] new_all rfl rfl rfl rfl rfl (.inl rfl) ?_
  conv => whnf
  rw [hk]
  conv => whnf
  refine LoopA.inv (fun m st => ∃ (i : Nat) (B : List (Int × Int)), m + i = k ∧ Bf B (lst f i) ∧ st = ⟨[(1, .int .u16 f), (5, .bp 0 0), (6, iv k), (17, iv k), (18, iv i)], bufH B, 2, 0⟩) k [1, 5, 6, 17, 18] [0, 1] [] (by rfl) ?_ ?_
  · conv => whnf
    exact ⟨0, [], rfl, Bf.fresh, rfl⟩
  · rintro m st ⟨i, B, hm, hB, rfl⟩
    unfold bufH
    conv => whnf
    refine ifB_of (fun h1 => ?_) (fun h1 => ?_)
    · have h1 : i < k := by have := of_decide_eq_true h1; omega
      obtain ⟨B2, hB2, kp⟩ := put_all (f + i) i hB
      obtain ⟨p1, p2⟩ := lst_put f i hf.1 (by omega)
      rw [p2] at hB2
      rw [p1] at kp
      have e2 : IntKind.wrap .i64 (f + (i : Int)) = f + (i : Int) := by rw [IntKind.wrap_i64]; omega
      conv => whnf
      rw [ef, e2]
      conv => whnf
      refine CallsF.call [] [] (one_spec i) rfl rfl rfl rfl rfl (.inl rfl) ?_
      conv => whnf
      refine CallsF.call [0, 1] [] kp rfl rfl rfl rfl rfl (.inl rfl) ?_
      conv => whnf
      rw [inc_nat i (by omega)]
      refine ⟨(k - (i + 1)), [1, 5, 6, 17, 18], [0, 1], [], by omega, rfl, ?_⟩
      conv => whnf
      exact ⟨i + 1, B2, by omega, hB2, rfl⟩
    have h1 : k = i := by have := of_decide_eq_false h1; omega
    subst h1
    clear hm
    have hB4 := hB.len
    have kn := numbers_all hB
    have hg := fun i => lst_get f (i := i) hB
    have hgs := fun i => get_all i hB
    have hkl := lst_len f k
    generalize lst f k = L at *
    conv => whnf
    refine LoopA.inv (fun m st => ∃ (i : Nat), m + i = k ∧ st = ⟨[(1, .int .u16 f), (5, .bp 0 0), (6, iv k), (31, iv k), (32, iv i)], [some (.box [.map 1]), some (.mp (ents B))], 2, 0⟩) k [1, 5, 6, 31, 32] [0, 1] [] (by rfl) ?_ ?_
    · conv => whnf
      exact ⟨0, rfl, rfl⟩
    rintro m st ⟨i, hm, rfl⟩
    conv => whnf
    refine ifB_of (fun h1 => ?_) (fun h1 => ?_)
    · have h1 : i < k := by have := of_decide_eq_true h1; omega
      have e2 : IntKind.wrap .i64 (f + (i : Int)) = f + (i : Int) := by rw [IntKind.wrap_i64]; omega
      have e3 : IntKind.wrap .i64 ((k : Int) - 4) = (k : Int) - 4 := by rw [IntKind.wrap_i64]; omega
      have kg := hgs (f + i)
      rw [hg i h1] at kg
      unfold bufH at kg
      conv => whnf
      rw [ef, e2]
      conv => whnf
      by_cases h4 : k ≤ i + 4
      · rw [if_pos h4] at kg
        refine CallsF.call [0, 1] [] kg rfl rfl rfl rfl rfl (.inl rfl) ?_
        conv => whnf
        rw [e3]
        rw [show (!((some (i : Int)).isSome == decide ((i : Int) ≥ (k : Int) - 4))) = false by rw [decide_eq_true (by omega)]; rfl]
        conv => whnf
        refine CallsF.call [] [] (one_spec i) rfl rfl rfl rfl rfl (.inl rfl) ?_
        conv => whnf
        refine ⟨.inl ⟨_, rfl⟩, ?_⟩
        conv => whnf
        refine CallsF.call [] [] (same24_spec i) rfl rfl rfl rfl rfl (.inl rfl) ?_
        conv => whnf
        rw [inc_nat i (by omega)]
        refine ⟨(k - (i + 1)), [1, 5, 6, 31, 32], [0, 1], [], by omega, rfl, ?_⟩
        conv => whnf
        exact ⟨i + 1, by omega, rfl⟩
      · rw [if_neg h4] at kg
        refine CallsF.call [0, 1] [] kg rfl rfl rfl rfl rfl (.inl rfl) ?_
        conv => whnf
        rw [e3]
        rw [show (!((none : Option Int).isSome == decide ((i : Int) ≥ (k : Int) - 4))) = false by rw [decide_eq_false (by omega)]; rfl]
        conv => whnf
        rw [inc_nat i (by omega)]
        refine ⟨(k - (i + 1)), [1, 5, 6, 31, 32], [0, 1], [], by omega, rfl, ?_⟩
        conv => whnf
        exact ⟨i + 1, by omega, rfl⟩
    conv => whnf
    refine CallsF.call [0, 1] [] kn rfl rfl rfl rfl rfl (.inl rfl) ?_
    conv => whnf
    exact ⟨[], [], rfl, congrArg AV.bool (by rw [List.length_map, hkl]; simp; split <;> omega), rfl⟩

end Go.Proofs.TryN

