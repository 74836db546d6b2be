/- Layer 25: what each of the buffer's functions does, and the document's. -/
import Derived.Test.YtdjnndcdplgojaaN25H
namespace Go.Proofs.TryN
open Go Go.AL Go.Proofs Go.Sort Go.Shelf

/-- The buffer, as it lies. -/
def bufH (B : List (Int × Int)) : AHeap := [some (.box [.map 1]), some (.mp (ents B))]
/-- The document's. -/
def refH (L : List (Int × Int)) : AHeap := [some (.box [.ro 10 (L.map irow)])]

theorem putE_bad {n : Int} (L : List (Int × Int)) (h : n < 0 ∨ 2147483647 < n) : putE n L = 2 := by rw [putE, if_pos h]
theorem putL_bad {n v : Int} (L : List (Int × Int)) (h : n < 0 ∨ 2147483647 < n) : putL n v L = L := by rw [putL, if_pos h]
theorem putE_ok {n : Int} (L : List (Int × Int)) (h : ¬ (n < 0 ∨ 2147483647 < n)) : putE n L = if (lk n L).isSome then 251 else 0 := by rw [putE, if_neg h]
theorem putL_ok {n v : Int} (L : List (Int × Int)) (h : ¬ (n < 0 ∨ 2147483647 < n)) : putL n v L = if (lk n L).isSome then L else ins n v (if L.length = 4 then L.tail else L) := by rw [putL, if_neg h]

theorem rput_all (n v : Int) (L : List (Int × Int)) (hL : L.length ≤ 4) : CallsF Try.prog 10 [.bp 0 0, iv n, .agg (frow v)] (refH L) (iv (putE n L)) (refH (putL n v L)) := by
  unfold refH
  by_cases hn : n < 0 ∨ 2147483647 < n
  · rw [putE_bad L hn, putL_bad L hn]
    rcases hn with hn | hn
    · exact rput_low n v hn L
    · exact rput_high n v hn L
  rw [putE_ok L hn, putL_ok L hn]
  have h0 : 0 ≤ n := by omega
  have h1 : n ≤ 2147483647 := by omega
  cases hk : lk n L with
  | some u => exact rput_twice n v u h0 h1 L (by omega) hk
  | none =>
    simp only [Option.isSome_none, Bool.false_eq_true, if_false]
    by_cases h4 : L.length = 4
    · rw [if_pos h4]
      match L, h4, hk with
      | [a, b, c, e], _, hk => exact rput_full n v h0 h1 a b c e hk
    · rw [if_neg h4]
      exact rput_new n v h0 h1 L (by omega) h4 hk

theorem ents_len (B : List (Int × Int)) : (ents B).length = B.length := by simp [ents]

theorem put_all (n v : Int) {B L : List (Int × Int)} (h : Bf B L) : ∃ B', Bf B' (putL n v L) ∧ CallsF Try.prog 8 [.bp 0 0, iv n, .agg (frow v)] (bufH B) (iv (putE n L)) (bufH B') := by
  have hlen := h.perm.length_eq
  have hget : mpGet n (ents B) = (lk n L).map fun v => .agg (frow v) := by rw [get_ents, lk_perm h.perm (nodup_of h.rise)]
  by_cases hn : n < 0 ∨ 2147483647 < n
  · rw [putE_bad L hn, putL_bad L hn]
    rcases hn with hn | hn
    · exact ⟨B, h, put_low n v hn _⟩
    · exact ⟨B, h, put_high n v hn _⟩
  rw [putE_ok L hn, putL_ok L hn]
  have h0 : 0 ≤ n := by omega
  have h1 : n ≤ 2147483647 := by omega
  cases hk : lk n L with
  | some u =>
    rw [hk] at hget
    exact ⟨B, h, put_twice n v u h0 h1 _ hget⟩
  | none =>
    rw [hk] at hget
    simp only [Option.isSome_none, Bool.false_eq_true, if_false]
    have hkB : lk n B = none := by rw [lk_perm h.perm (nodup_of h.rise), hk]
    by_cases h4 : L.length = 4
    · rw [if_pos h4]
      have hkeys := keys_ents h
      have hr := h.rise
      match L, h4, hk, h, hkeys, hr with
      | x :: r, h4, hk, h, hkeys, hr =>
        have hb := h.bar x.1
        rw [bar_head hr] at hb
        have hkr := lk_tail hk
        refine ⟨_, hb.put (by simp only [List.length_cons] at h4; omega) n v ⟨h0, h1⟩ hkr, ?_⟩
        have := put_full n v x.1 (List.map (fun y : Int × Int => y.1) r) h0 h1 (ents B) hget (by rw [ents_len, hlen]; exact h4) (fun p hp => by
          simp only [ents, List.mem_map] at hp
          obtain ⟨q, hq, rfl⟩ := hp
          exact h.rng q (h.perm.mem_iff.1 hq)) hkeys
        rw [del_ents x.1 B ((h.perm.map _).nodup_iff.2 (nodup_of h.rise)), set_ents n v _ (by
          rw [lk_perm hb.perm (nodup_of hb.rise)]; exact hkr)] at this
        exact this
    · rw [if_neg h4]
      have hl := h.len
      refine ⟨_, h.put (by omega) n v ⟨h0, h1⟩ hk, ?_⟩
      have := put_new n v h0 h1 (ents B) hget (by rw [ents_len, hlen]; omega)
      rw [set_ents n v B hkB] at this
      exact this

theorem get_all (n : Int) {B L : List (Int × Int)} (h : Bf B L) : CallsF Try.prog 11 [.bp 0 0, iv n] (bufH B) (.tup [.agg (frO (lk n L)), .bool (lk n L).isSome]) (bufH B) := by
  have hget : mpGet n (ents B) = (lk n L).map fun v => .agg (frow v) := by rw [get_ents, lk_perm h.perm (nodup_of h.rise)]
  cases hk : lk n L with
  | some u => rw [hk] at hget; exact get_some n u _ hget
  | none => rw [hk] at hget; exact get_none n _ hget

theorem retire_all (n : Int) {B L : List (Int × Int)} (h : Bf B L) : CallsF Try.prog 14 [.bp 0 0, iv n] (bufH B) (.bool (lk n L).isSome) (bufH (bar n B)) := by
  have hget : mpGet n (ents B) = (lk n L).map fun v => .agg (frow v) := by rw [get_ents, lk_perm h.perm (nodup_of h.rise)]
  have hd := del_ents n B ((h.perm.map _).nodup_iff.2 (nodup_of h.rise))
  cases hk : lk n L with
  | some u => rw [hk] at hget; have := retire_some n u _ hget; rw [hd] at this; exact this
  | none => rw [hk] at hget; have := retire_none n _ hget; rw [hd] at this; exact this

theorem numbers_all {B L : List (Int × Int)} (h : Bf B L) : CallsF Try.prog 16 [.bp 0 0] (bufH B) (.ri .i64 (L.map (·.1))) (bufH B) := by
  have hlen := h.perm.length_eq
  have hl := h.len
  by_cases hB : B = []
  · subst hB
    have hL : L = [] := List.eq_nil_of_length_eq_zero (by simpa using hlen.symm)
    subst hL
    exact leH numbers_none (AV.le.snil _) rfl fun k x y hx hy => by rw [show bufH [] = [some (ABlk.box [AV.map 1]), some (ABlk.mp [])] from rfl, hx] at hy; obtain rfl := Option.some.inj hy; exact oleB.refl _
  · have := numbers_spec (ents B) (by rw [ents_len]; omega) (fun p hp => by
      simp only [ents, List.mem_map] at hp
      obtain ⟨q, hq, rfl⟩ := hp
      exact h.rng q (h.perm.mem_iff.1 hq)) (by simpa [ents] using hB)
    rw [keys_ents h] at this
    exact this

theorem rget_all (n : Int) (L : List (Int × Int)) (hL : L.length ≤ 4) : CallsF Try.prog 12 [.bp 0 0, iv n] (refH L) (.tup [.agg (frO (lk n L)), .bool (lk n L).isSome]) (refH L) := rget_spec n L (by omega)
theorem rretire_all (n : Int) (L : List (Int × Int)) (hL : L.length ≤ 4) : CallsF Try.prog 15 [.bp 0 0, iv n] (refH L) (.bool (lk n L).isSome) (refH (bar n L)) := rretire_spec n L (by omega)

theorem sameO (o : Option Int) : CallsF Try.prog 13 [.agg (frO o), .agg (frO o)] [] (.bool true) [] := by
  cases o with
  | some v => exact same24_spec v
  | none => exact same24_zero

theorem putL_len (n v : Int) (L : List (Int × Int)) (h : L.length ≤ 4) : (putL n v L).length ≤ 4 := by
  unfold putL
  split
  · exact h
  · split
    · exact h
    · rw [ins_len]; split
      · simp; omega
      · omega

end Go.Proofs.TryN

