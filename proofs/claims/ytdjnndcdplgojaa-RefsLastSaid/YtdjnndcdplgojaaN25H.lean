/- Layer 25: the buffer's map and the document's list go together. -/
import Derived.Test.YtdjnndcdplgojaaN25G
namespace Go.Proofs.TryN
open Go Go.AL Go.Proofs Go.Sort Go.Shelf

/-- The error of a put. -/
def putE (n : Int) (L : List (Int × Int)) : Int := if n < 0 ∨ 2147483647 < n then 2 else if (lk n L).isSome then 251 else 0

/-- The list behind a put. -/
def putL (n v : Int) (L : List (Int × Int)) : List (Int × Int) :=
  if n < 0 ∨ 2147483647 < n then L else if (lk n L).isSome then L else ins n v (if L.length = 4 then L.tail else L)

/-- A map's entries, and the list. -/
structure Bf (B L : List (Int × Int)) : Prop where
  perm : B.Perm L
  rise : L.Pairwise fun a b => a.1 < b.1
  len : L.length ≤ 4
  rng : ∀ p ∈ L, 0 ≤ p.1 ∧ p.1 ≤ 2147483647

theorem Bf.fresh : Bf [] [] := ⟨.nil, .nil, by simp, by simp⟩

theorem nodup_of {L : List (Int × Int)} (h : L.Pairwise fun a b => a.1 < b.1) : (L.map (·.1)).Nodup := by
  rw [List.Nodup, List.pairwise_map]
  exact h.imp fun h => by omega

theorem lk_mem {n v : Int} : ∀ {L : List (Int × Int)}, (L.map (·.1)).Nodup → (lk n L = some v ↔ (n, v) ∈ L)
  | [], _ => by simp [lk]
  | (m, u) :: r, h => by
    have h2 := List.nodup_cons.1 h
    have ih := lk_mem (n := n) (v := v) h2.2
    rw [lk]
    by_cases hm : m = n
    · subst hm
      rw [if_pos rfl]
      constructor
      · intro hh; obtain rfl := Option.some.inj hh; simp
      · intro hh
        rcases List.mem_cons.1 hh with hh | hh
        · cases hh; rfl
        · exact (h2.1 (List.mem_map.2 ⟨_, hh, rfl⟩)).elim
    · rw [if_neg hm, ih]
      constructor
      · intro hh; exact List.mem_cons_of_mem _ hh
      · intro hh
        rcases List.mem_cons.1 hh with hh | hh
        · cases hh; exact (hm rfl).elim
        · exact hh

theorem lk_perm {n : Int} {B L : List (Int × Int)} (h : B.Perm L) (hL : (L.map (·.1)).Nodup) : lk n B = lk n L := by
  have hB : (B.map (·.1)).Nodup := (h.map _).nodup_iff.2 hL
  apply Option.ext
  intro v
  rw [lk_mem hB, lk_mem hL]
  exact h.mem_iff

theorem get_ents (n : Int) : ∀ B : List (Int × Int), mpGet n (ents B) = (lk n B).map fun v => .agg (frow v)
  | [] => rfl
  | (m, u) :: r => by
    have ih := get_ents n r
    show (match decide (n = m) with | true => some (AV.agg (frow u)) | false => mpGet n (ents r)) = _
    rw [ih, lk]
    by_cases h : m = n
    · rw [if_pos h, decide_eq_true h.symm]; rfl
    · rw [if_neg h, decide_eq_false fun hh => h hh.symm]

theorem del_ents (n : Int) : ∀ B : List (Int × Int), (B.map (·.1)).Nodup → mpDel n (ents B) = ents (bar n B)
  | [], _ => rfl
  | (m, u) :: r, h => by
    have h2 := List.nodup_cons.1 h
    have ih := del_ents n r h2.2
    show (match decide (n = m) with | true => ents r | false => (m, AV.agg (frow u)) :: mpDel n (ents r)) = _
    by_cases hm : m = n
    · rw [bar_neg hm, decide_eq_true hm.symm]
      have : bar n r = r := by
        rw [bar, List.filter_eq_self]
        intro x hx
        have : x.1 ≠ n := fun hh => h2.1 (List.mem_map.2 ⟨x, hx, hh.trans hm.symm⟩)
        simpa using this
      rw [this]
    · rw [bar_pos hm, decide_eq_false fun hh => hm hh.symm]
      simp only
      rw [ih]; rfl

theorem set_ents (n v : Int) : ∀ B : List (Int × Int), lk n B = none → mpSet n (.agg (frow v)) (ents B) = ents (B ++ [(n, v)])
  | [], _ => rfl
  | (m, u) :: r, h => by
    rw [lk] at h
    by_cases hm : m = n
    · rw [if_pos hm] at h; cases h
    · rw [if_neg hm] at h
      have ih := set_ents n v r h
      show (match decide (n = m) with | true => (m, AV.agg (frow v)) :: ents r | false => (m, AV.agg (frow u)) :: mpSet n (.agg (frow v)) (ents r)) = _
      rw [decide_eq_false fun hh => hm hh.symm]
      simp only
      rw [ih]; rfl

theorem keys_ents {B L : List (Int × Int)} (h : Bf B L) : keysU (ents B) = L.map (·.1) := by
  have h1 : (ents B).map (·.1) = B.map (·.1) := by simp [ents]
  rw [keysU, h1, mergeSort_of_perm_i (h.perm.map _)]
  exact List.mergeSort_of_pairwise ((List.pairwise_map.2 (h.rise.imp fun h => by simp [leI]; omega)))

theorem ins_perm (n v : Int) : ∀ L, (ins n v L).Perm ((n, v) :: L)
  | [] => .refl _
  | x :: r => by
    rw [ins]; split
    · exact .refl _
    · exact ((ins_perm n v r).cons x).trans (.swap _ _ _)

theorem ins_rise (n v : Int) : ∀ L : List (Int × Int), (L.Pairwise fun a b => a.1 < b.1) → lk n L = none → (ins n v L).Pairwise fun a b => a.1 < b.1
  | [], _, _ => by simp [ins]
  | x :: r, h, hk => by
    have h2 := List.pairwise_cons.1 h
    rw [lk] at hk
    split at hk
    · cases hk
    · rename_i hx
      rw [ins]; split
      · rename_i hn
        refine List.pairwise_cons.2 ⟨fun y hy => ?_, h⟩
        rcases List.mem_cons.1 hy with rfl | hy
        · exact hn
        · have := h2.1 y hy
          simp only; omega
      · refine List.pairwise_cons.2 ⟨fun y hy => ?_, ins_rise n v r h2.2 hk⟩
        rcases List.mem_cons.1 ((ins_perm n v r).mem_iff.1 hy) with rfl | hy
        · simp only; omega
        · exact h2.1 y hy

theorem lk_tail {n : Int} {x : Int × Int} {r : List (Int × Int)} (h : lk n (x :: r) = none) : lk n r = none := by
  rw [lk] at h; split at h
  · cases h
  · exact h

theorem bar_head {x : Int × Int} {r : List (Int × Int)} (h : (x :: r).Pairwise fun a b => a.1 < b.1) : bar x.1 (x :: r) = r := by
  have h2 := List.pairwise_cons.1 h
  rw [bar_neg rfl, bar, List.filter_eq_self]
  intro y hy
  have := h2.1 y hy
  simp; omega

theorem Bf.put {B L : List (Int × Int)} (h : Bf B L) (hl : L.length < 4) (n v : Int) (hn : 0 ≤ n ∧ n ≤ 2147483647) (hk : lk n L = none) : Bf (B ++ [(n, v)]) (ins n v L) := by
  refine ⟨?_, ins_rise n v L h.rise hk, by rw [ins_len]; omega, fun p hp => ?_⟩
  · exact (List.perm_append_comm.trans (h.perm.cons (n, v))).trans (ins_perm n v L).symm
  · rcases List.mem_cons.1 ((ins_perm n v L).mem_iff.1 hp) with rfl | hp
    · exact hn
    · exact h.rng p hp

theorem Bf.bar {B L : List (Int × Int)} (h : Bf B L) (n : Int) : Bf (bar n B) (bar n L) :=
  ⟨h.perm.filter _, h.rise.filter _, Nat.le_trans (bar_len n L).1 h.len, fun p hp => h.rng p (List.mem_filter.1 hp).1⟩

end Go.Proofs.TryN

