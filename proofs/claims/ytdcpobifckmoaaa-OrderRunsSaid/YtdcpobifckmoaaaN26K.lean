/- Layer 26: the document's queue: who waits; a frame is put. -/
import Derived.Test.YtdcpobifckmoaaaN26J
namespace Go.Proofs.TryN
open Go Go.AL Go.Proofs

theorem sorted_eq : ∀ {l1 l2 : List Int}, l1.Pairwise (· < ·) → l2.Pairwise (· < ·) → (∀ x, x ∈ l1 ↔ x ∈ l2) → l1 = l2
  | [], [], _, _, _ => rfl
  | [], y :: ys, _, _, h => by have := (h y).2 (by simp); cases this
  | x :: xs, [], _, _, h => by have := (h x).1 (by simp); cases this
  | x :: xs, y :: ys, h1, h2, h => by
    have a := List.pairwise_cons.1 h1
    have b := List.pairwise_cons.1 h2
    have hxy : x = y := by
      rcases List.mem_cons.1 ((h x).1 (by simp)) with e | e
      · exact e
      · rcases List.mem_cons.1 ((h y).2 (by simp)) with e2 | e2
        · exact e2.symm
        · have c := a.1 y e2
          have d := b.1 x e
          omega
    subst hxy
    rw [sorted_eq a.2 b.2 fun z => ?_]
    have hz := h z
    constructor
    · intro hm
      have h3 := a.1 z hm
      rcases List.mem_cons.1 (hz.1 (by simp [hm])) with e | e
      · omega
      · exact e
    · intro hm
      have h3 := b.1 z hm
      rcases List.mem_cons.1 (hz.2 (by simp [hm])) with e | e
      · omega
      · exact e

def wl (next : Int) (H : Nat → Bool) (i : Nat) : List Int := ((List.range i).filter H).map fun k : Nat => next + (k : Int)

theorem wl_succ (next : Int) (H : Nat → Bool) (i : Nat) : wl next H (i + 1) = wl next H i ++ (if H i = true then [next + (i : Int)] else []) := by
  unfold wl
  rw [List.range_succ, List.filter_append]
  cases h : H i <;> simp [h]
theorem wl_len (next : Int) (H : Nat → Bool) (i : Nat) : (wl next H i).length ≤ i := by
  unfold wl
  rw [List.length_map]
  have := List.length_filter_le H (List.range i)
  rwa [List.length_range] at this

theorem RQ.numsW {next : Int} {W : List (Int × Int)} {H : Nat → Bool} {F : Nat → Fr} (h : Waits next W) (q : RQ next W H F) : wl next H 9 = nums W := by
  refine sorted_eq ?_ ?_ fun x => ?_
  · unfold wl
    rw [List.pairwise_map]
    exact (List.Pairwise.filter _ List.pairwise_lt_range).imp fun h => by omega
  · unfold nums
    rw [List.pairwise_map]
    exact h.rise
  · unfold wl nums
    rw [List.mem_map, List.mem_map]
    constructor
    · rintro ⟨k, hk, rfl⟩
      rw [List.mem_filter, List.mem_range] at hk
      obtain ⟨v, hv⟩ := (q.mem k hk.1).1 hk.2
      exact ⟨_, hv, rfl⟩
    · rintro ⟨y, hy, rfl⟩
      have hr := h.rng y hy
      refine ⟨(y.1 - next).toNat, List.mem_filter.2 ⟨List.mem_range.2 (by omega), (q.mem _ (by omega)).2 ⟨y.2, ?_⟩⟩, by omega⟩
      rw [show next + ((y.1 - next).toNat : Int) = y.1 by omega]
      exact hy

theorem RQ.has {next : Int} {W : List (Int × Int)} {H : Nat → Bool} {F : Nat → Fr} (h : Waits next W) (q : RQ next W H F) {i : Nat} (hi : i < 9) : hasW W (next + i) = H i := by
  have e : hasW W (next + i) = true ↔ H i = true := by
    rw [q.mem i hi]
    unfold hasW
    rw [Option.any_eq_true]
    constructor
    · rintro ⟨x, hx, he⟩
      exact ⟨x.2, by rw [← (by simpa using he : x.1 = next + i)]; exact List.mem_of_getElem? hx⟩
    · rintro ⟨v, hv⟩
      obtain ⟨t, ht, hte⟩ := List.getElem_of_mem hv
      have h1 : posW W (next + i) ≤ t := by
        apply Classical.byContradiction
        intro hc
        have := posW_lo (n := next + i) t ht (by omega)
        rw [hte] at this; simp only at this; omega
      have h2 : ¬ posW W (next + i) < t := by
        intro hc
        have hp : posW W (next + i) < W.length := by omega
        have a := posW_hi h.rise _ hp (Nat.le_refl _)
        have b := List.pairwise_iff_getElem.1 h.rise _ _ hp ht hc
        rw [hte] at b; simp only at b; omega
      have h3 : posW W (next + i) = t := by omega
      exact ⟨W[t], by rw [h3]; exact List.getElem?_eq_getElem ht, by rw [hte]; simp⟩
  cases a : hasW W (next + i) <;> cases b : H i <;> rw [a, b] at e <;> simp at e <;> rfl

theorem mem_put {W : List (Int × Int)} {n v : Int} {x : Int × Int} : x ∈ putW W n v ↔ x = (n, v) ∨ x ∈ W := by
  unfold putW
  conv => rhs; rw [← List.take_append_drop (posW W n) W]
  simp only [List.mem_append, List.mem_cons]
  constructor
  · rintro (h | h | h)
    · exact .inr (.inl h)
    · exact .inl h
    · exact .inr (.inr h)
  · rintro (h | h | h)
    · exact .inr (.inl h)
    · exact .inl h
    · exact .inr (.inr h)

theorem Waits.put {next : Int} {W : List (Int × Int)} (h : Waits next W) {n v : Int} (h1 : next ≤ n) (h2 : n ≤ next + 8) (hh : hasW W n = false) : Waits next (putW W n v) := by
  refine ⟨h.lo, fun x hx => ?_, ?_⟩
  · rcases mem_put.1 hx with rfl | hx
    · exact ⟨h1, h2⟩
    · exact h.rng x hx
  · have hlo : ∀ x ∈ W.take (posW W n), x.1 < n := fun x hx => by
      obtain ⟨t, ht, rfl⟩ := List.getElem_of_mem hx
      rw [List.getElem_take]
      exact posW_lo t (by rw [List.length_take] at ht; omega) (by rw [List.length_take] at ht; omega)
    have hhi : ∀ x ∈ W.drop (posW W n), n < x.1 := fun x hx => by
      obtain ⟨t, ht, rfl⟩ := List.getElem_of_mem hx
      rw [List.length_drop] at ht
      rw [List.getElem_drop]
      have a := posW_hi (n := n) h.rise (posW W n + t) (by omega) (by omega)
      have hp : posW W n < W.length := by omega
      have b := posW_hi (n := n) h.rise (posW W n) hp (Nat.le_refl _)
      have c : ¬ W[posW W n].1 = n := fun e => by
        have : hasW W n = true := by
          unfold hasW
          rw [List.getElem?_eq_getElem hp]
          simp [e]
        rw [hh] at this; cases this
      cases t with
      | zero => simp only [Nat.add_zero]; omega
      | succ t =>
        have d := List.pairwise_iff_getElem.1 h.rise (posW W n) (posW W n + (t + 1)) hp (by omega) (by omega)
        omega
    unfold putW
    have hs := h.rise
    rw [← List.take_append_drop (posW W n) W, List.pairwise_append] at hs
    rw [List.pairwise_append, List.pairwise_cons]
    refine ⟨hs.1, ⟨fun y hy => hhi y hy, hs.2.1⟩, fun x hx y hy => ?_⟩
    have a := hlo x hx
    rcases List.mem_cons.1 hy with rfl | hy
    · exact a
    · have b := hhi y hy; omega

theorem RQ.put {next : Int} {W : List (Int × Int)} {H : Nat → Bool} {F : Nat → Fr} (q : RQ next W H F) {i : Nat} {v : Int} (h0 : H i = false) (hi : i < 9) : RQ next (putW W (next + i) v) (upd H i true) (upd F i (Fr.of v)) := by
  refine ⟨fun k hk => ?_, fun k u hk hu => ?_⟩
  · by_cases hki : k = i
    · subst hki
      rw [upd_at]
      exact ⟨fun _ => ⟨v, mem_put.2 (.inl rfl)⟩, fun _ => rfl⟩
    · rw [upd_ne _ _ _ hki, q.mem k hk]
      constructor
      · rintro ⟨u, hu⟩; exact ⟨u, mem_put.2 (.inr hu)⟩
      · rintro ⟨u, hu⟩
        rcases mem_put.1 hu with e | e
        · have := congrArg Prod.fst e; simp only at this; omega
        · exact ⟨u, e⟩
  · by_cases hki : k = i
    · subst hki
      rw [upd_at]
      rcases mem_put.1 hu with e | e
      · have := congrArg Prod.snd e; simp only at this; rw [this]
      · have : H k = true := (q.mem k hk).2 ⟨u, e⟩
        rw [h0] at this; cases this
    · rw [upd_ne _ _ _ hki]
      rcases mem_put.1 hu with e | e
      · have := congrArg Prod.fst e; simp only at this; omega
      · exact q.frm k u hk e

set_option maxRecDepth 20000 in
set_option maxHeartbeats 4000000 in
theorem rwaiting_spec (next : Int) (hlo : 0 ≤ next ∧ next < 1000000) (H : Nat → Bool) (F : Nat → Fr) : CallsF Try.prog 16 [.bp 0 0] [some (.box (qcells next H F))] (.ri .i64 (wl next H 9)) [some (.box (qcells next H F))] := by
  refine CallsF.le ?_
  refine e16 ?_
  conv => whnf
  refine LoopA.inv (fun n st => ∃ i : Nat, n + i = 9 ∧ ((wl next H i = [] ∧ st = ⟨[(0, .bp 0 0), (3, .snil), (9, .agg [.bool (H 0), .bool (H 1), .bool (H 2), .bool (H 3), .bool (H 4), .bool (H 5), .bool (H 6), .bool (H 7), .bool (H 8)]), (10, iv i)], [some (.box (qcells next H F))], 1, 1⟩) ∨ (wl next H i ≠ [] ∧ st = ⟨[(0, .bp 0 0), (3, .sl 1 0 (wl next H i).length), (9, .agg [.bool (H 0), .bool (H 1), .bool (H 2), .bool (H 3), .bool (H 4), .bool (H 5), .bool (H 6), .bool (H 7), .bool (H 8)]), (10, iv i)], [some (.box (qcells next H F)), some (.ia .i64 (wl next H i))], 2, 1⟩))) 9 [0, 3, 9, 10] [] [] (by rfl) ?_ ?_
  · conv => whnf
    exact ⟨0, rfl, .inl ⟨rfl, rfl⟩⟩
  rintro n st ⟨i, hn, ⟨h0, rfl⟩ | ⟨h0, rfl⟩⟩
  · rcases (by omega : i = 0 ∨ i = 1 ∨ i = 2 ∨ i = 3 ∨ i = 4 ∨ i = 5 ∨ i = 6 ∨ i = 7 ∨ i = 8 ∨ i = 9) with rfl | rfl | rfl | rfl | rfl | rfl | rfl | rfl | rfl | rfl
    · have hs := wl_succ next H 0
      conv => whnf
      refine ifB_of (fun hh => ?_) (fun hh => ?_)
      · rw [if_pos hh] at hs
        conv => whnf
        rw [wrap_id (n := next + ((0 : Nat) : Int)) (by omega) (by omega)]
        refine ⟨(9 - (0 + 1)), [0, 3, 9, 10], [2], [], by omega, rfl, ?_⟩
        conv => whnf
        refine ⟨0 + 1, by omega, .inr ⟨by rw [hs, h0]; simp, ?_⟩⟩
        rw [hs, h0]
        rfl
      · rw [if_neg (by rw [hh]; simp), List.append_nil] at hs
        conv => whnf
        refine ⟨(9 - (0 + 1)), [0, 3, 9, 10], [], [], by omega, rfl, ?_⟩
        conv => whnf
        exact ⟨0 + 1, by omega, .inl ⟨by rw [hs, h0], rfl⟩⟩
    · have hs := wl_succ next H 1
      conv => whnf
      refine ifB_of (fun hh => ?_) (fun hh => ?_)
      · rw [if_pos hh] at hs
        conv => whnf
        rw [wrap_id (n := next + ((1 : Nat) : Int)) (by omega) (by omega)]
        refine ⟨(9 - (1 + 1)), [0, 3, 9, 10], [2], [], by omega, rfl, ?_⟩
        conv => whnf
        refine ⟨1 + 1, by omega, .inr ⟨by rw [hs, h0]; simp, ?_⟩⟩
        rw [hs, h0]
        rfl
      · rw [if_neg (by rw [hh]; simp), List.append_nil] at hs
        conv => whnf
        refine ⟨(9 - (1 + 1)), [0, 3, 9, 10], [], [], by omega, rfl, ?_⟩
        conv => whnf
        exact ⟨1 + 1, by omega, .inl ⟨by rw [hs, h0], rfl⟩⟩
    · have hs := wl_succ next H 2
      conv => whnf
      refine ifB_of (fun hh => ?_) (fun hh => ?_)
      · rw [if_pos hh] at hs
        conv => whnf
        rw [wrap_id (n := next + ((2 : Nat) : Int)) (by omega) (by omega)]
        refine ⟨(9 - (2 + 1)), [0, 3, 9, 10], [2], [], by omega, rfl, ?_⟩
        conv => whnf
        refine ⟨2 + 1, by omega, .inr ⟨by rw [hs, h0]; simp, ?_⟩⟩
        rw [hs, h0]
        rfl
      · rw [if_neg (by rw [hh]; simp), List.append_nil] at hs
        conv => whnf
        refine ⟨(9 - (2 + 1)), [0, 3, 9, 10], [], [], by omega, rfl, ?_⟩
        conv => whnf
        exact ⟨2 + 1, by omega, .inl ⟨by rw [hs, h0], rfl⟩⟩
    · have hs := wl_succ next H 3
      conv => whnf
      refine ifB_of (fun hh => ?_) (fun hh => ?_)
      · rw [if_pos hh] at hs
        conv => whnf
        rw [wrap_id (n := next + ((3 : Nat) : Int)) (by omega) (by omega)]
        refine ⟨(9 - (3 + 1)), [0, 3, 9, 10], [2], [], by omega, rfl, ?_⟩
        conv => whnf
        refine ⟨3 + 1, by omega, .inr ⟨by rw [hs, h0]; simp, ?_⟩⟩
        rw [hs, h0]
        rfl
      · rw [if_neg (by rw [hh]; simp), List.append_nil] at hs
        conv => whnf
        refine ⟨(9 - (3 + 1)), [0, 3, 9, 10], [], [], by omega, rfl, ?_⟩
        conv => whnf
        exact ⟨3 + 1, by omega, .inl ⟨by rw [hs, h0], rfl⟩⟩
    · have hs := wl_succ next H 4
      conv => whnf
      refine ifB_of (fun hh => ?_) (fun hh => ?_)
      · rw [if_pos hh] at hs
        conv => whnf
        rw [wrap_id (n := next + ((4 : Nat) : Int)) (by omega) (by omega)]
        refine ⟨(9 - (4 + 1)), [0, 3, 9, 10], [2], [], by omega, rfl, ?_⟩
        conv => whnf
        refine ⟨4 + 1, by omega, .inr ⟨by rw [hs, h0]; simp, ?_⟩⟩
        rw [hs, h0]
        rfl
      · rw [if_neg (by rw [hh]; simp), List.append_nil] at hs
        conv => whnf
        refine ⟨(9 - (4 + 1)), [0, 3, 9, 10], [], [], by omega, rfl, ?_⟩
        conv => whnf
        exact ⟨4 + 1, by omega, .inl ⟨by rw [hs, h0], rfl⟩⟩
    · have hs := wl_succ next H 5
      conv => whnf
      refine ifB_of (fun hh => ?_) (fun hh => ?_)
      · rw [if_pos hh] at hs
        conv => whnf
        rw [wrap_id (n := next + ((5 : Nat) : Int)) (by omega) (by omega)]
        refine ⟨(9 - (5 + 1)), [0, 3, 9, 10], [2], [], by omega, rfl, ?_⟩
        conv => whnf
        refine ⟨5 + 1, by omega, .inr ⟨by rw [hs, h0]; simp, ?_⟩⟩
        rw [hs, h0]
        rfl
      · rw [if_neg (by rw [hh]; simp), List.append_nil] at hs
        conv => whnf
        refine ⟨(9 - (5 + 1)), [0, 3, 9, 10], [], [], by omega, rfl, ?_⟩
        conv => whnf
        exact ⟨5 + 1, by omega, .inl ⟨by rw [hs, h0], rfl⟩⟩
    · have hs := wl_succ next H 6
      conv => whnf
      refine ifB_of (fun hh => ?_) (fun hh => ?_)
      · rw [if_pos hh] at hs
        conv => whnf
        rw [wrap_id (n := next + ((6 : Nat) : Int)) (by omega) (by omega)]
        refine ⟨(9 - (6 + 1)), [0, 3, 9, 10], [2], [], by omega, rfl, ?_⟩
        conv => whnf
        refine ⟨6 + 1, by omega, .inr ⟨by rw [hs, h0]; simp, ?_⟩⟩
        rw [hs, h0]
        rfl
      · rw [if_neg (by rw [hh]; simp), List.append_nil] at hs
        conv => whnf
        refine ⟨(9 - (6 + 1)), [0, 3, 9, 10], [], [], by omega, rfl, ?_⟩
        conv => whnf
        exact ⟨6 + 1, by omega, .inl ⟨by rw [hs, h0], rfl⟩⟩
    · have hs := wl_succ next H 7
      conv => whnf
      refine ifB_of (fun hh => ?_) (fun hh => ?_)
      · rw [if_pos hh] at hs
        conv => whnf
        rw [wrap_id (n := next + ((7 : Nat) : Int)) (by omega) (by omega)]
        refine ⟨(9 - (7 + 1)), [0, 3, 9, 10], [2], [], by omega, rfl, ?_⟩
        conv => whnf
        refine ⟨7 + 1, by omega, .inr ⟨by rw [hs, h0]; simp, ?_⟩⟩
        rw [hs, h0]
        rfl
      · rw [if_neg (by rw [hh]; simp), List.append_nil] at hs
        conv => whnf
        refine ⟨(9 - (7 + 1)), [0, 3, 9, 10], [], [], by omega, rfl, ?_⟩
        conv => whnf
        exact ⟨7 + 1, by omega, .inl ⟨by rw [hs, h0], rfl⟩⟩
    · have hs := wl_succ next H 8
      conv => whnf
      refine ifB_of (fun hh => ?_) (fun hh => ?_)
      · rw [if_pos hh] at hs
        conv => whnf
        rw [wrap_id (n := next + ((8 : Nat) : Int)) (by omega) (by omega)]
        refine ⟨(9 - (8 + 1)), [0, 3, 9, 10], [2], [], by omega, rfl, ?_⟩
        conv => whnf
        refine ⟨8 + 1, by omega, .inr ⟨by rw [hs, h0]; simp, ?_⟩⟩
        rw [hs, h0]
        rfl
      · rw [if_neg (by rw [hh]; simp), List.append_nil] at hs
        conv => whnf
        refine ⟨(9 - (8 + 1)), [0, 3, 9, 10], [], [], by omega, rfl, ?_⟩
        conv => whnf
        exact ⟨8 + 1, by omega, .inl ⟨by rw [hs, h0], rfl⟩⟩
    · rw [h0]
      conv => whnf
      exact ⟨[], [], rfl, AV.le.snil .i64, rfl⟩
  · have hwl := wl_len next H i
    rcases (by omega : i = 0 ∨ i = 1 ∨ i = 2 ∨ i = 3 ∨ i = 4 ∨ i = 5 ∨ i = 6 ∨ i = 7 ∨ i = 8 ∨ i = 9) with rfl | rfl | rfl | rfl | rfl | rfl | rfl | rfl | rfl | rfl
    · exact absurd rfl h0
    · have hs := wl_succ next H 1
      conv => whnf
      refine ifB_of (fun hh => ?_) (fun hh => ?_)
      · rw [if_pos hh] at hs
        conv => whnf
        rw [wrap_id (n := next + ((1 : Nat) : Int)) (by omega) (by omega)]
        generalize wl next H 1 = xs at *
        refine need_of ((decide_eq_true ⟨by omega, (show 9 * (xs.length + 1) ≤ 2 ^ 46 by omega)⟩)) ?_
        conv => whnf
        refine ⟨(9 - (1 + 1)), [0, 3, 9, 10], [3], [], by omega, rfl, ?_⟩
        conv => whnf
        refine ⟨1 + 1, by omega, .inr ⟨by rw [hs]; simp, ?_⟩⟩
        rw [hs, List.length_append]
        rfl
      · rw [if_neg (by rw [hh]; simp), List.append_nil] at hs
        conv => whnf
        refine ⟨(9 - (1 + 1)), [0, 3, 9, 10], [1], [], by omega, rfl, ?_⟩
        conv => whnf
        exact ⟨1 + 1, by omega, .inr ⟨by rw [hs]; exact h0, by rw [hs]; rfl⟩⟩
    · have hs := wl_succ next H 2
      conv => whnf
      refine ifB_of (fun hh => ?_) (fun hh => ?_)
      · rw [if_pos hh] at hs
        conv => whnf
        rw [wrap_id (n := next + ((2 : Nat) : Int)) (by omega) (by omega)]
        generalize wl next H 2 = xs at *
        refine need_of ((decide_eq_true ⟨by omega, (show 9 * (xs.length + 1) ≤ 2 ^ 46 by omega)⟩)) ?_
        conv => whnf
        refine ⟨(9 - (2 + 1)), [0, 3, 9, 10], [3], [], by omega, rfl, ?_⟩
        conv => whnf
        refine ⟨2 + 1, by omega, .inr ⟨by rw [hs]; simp, ?_⟩⟩
        rw [hs, List.length_append]
        rfl
      · rw [if_neg (by rw [hh]; simp), List.append_nil] at hs
        conv => whnf
        refine ⟨(9 - (2 + 1)), [0, 3, 9, 10], [1], [], by omega, rfl, ?_⟩
        conv => whnf
        exact ⟨2 + 1, by omega, .inr ⟨by rw [hs]; exact h0, by rw [hs]; rfl⟩⟩
    · have hs := wl_succ next H 3
      conv => whnf
      refine ifB_of (fun hh => ?_) (fun hh => ?_)
      · rw [if_pos hh] at hs
        conv => whnf
        rw [wrap_id (n := next + ((3 : Nat) : Int)) (by omega) (by omega)]
        generalize wl next H 3 = xs at *
        refine need_of ((decide_eq_true ⟨by omega, (show 9 * (xs.length + 1) ≤ 2 ^ 46 by omega)⟩)) ?_
        conv => whnf
        refine ⟨(9 - (3 + 1)), [0, 3, 9, 10], [3], [], by omega, rfl, ?_⟩
        conv => whnf
        refine ⟨3 + 1, by omega, .inr ⟨by rw [hs]; simp, ?_⟩⟩
        rw [hs, List.length_append]
        rfl
      · rw [if_neg (by rw [hh]; simp), List.append_nil] at hs
        conv => whnf
        refine ⟨(9 - (3 + 1)), [0, 3, 9, 10], [1], [], by omega, rfl, ?_⟩
        conv => whnf
        exact ⟨3 + 1, by omega, .inr ⟨by rw [hs]; exact h0, by rw [hs]; rfl⟩⟩
    · have hs := wl_succ next H 4
      conv => whnf
      refine ifB_of (fun hh => ?_) (fun hh => ?_)
      · rw [if_pos hh] at hs
        conv => whnf
        rw [wrap_id (n := next + ((4 : Nat) : Int)) (by omega) (by omega)]
        generalize wl next H 4 = xs at *
        refine need_of ((decide_eq_true ⟨by omega, (show 9 * (xs.length + 1) ≤ 2 ^ 46 by omega)⟩)) ?_
        conv => whnf
        refine ⟨(9 - (4 + 1)), [0, 3, 9, 10], [3], [], by omega, rfl, ?_⟩
        conv => whnf
        refine ⟨4 + 1, by omega, .inr ⟨by rw [hs]; simp, ?_⟩⟩
        rw [hs, List.length_append]
        rfl
      · rw [if_neg (by rw [hh]; simp), List.append_nil] at hs
        conv => whnf
        refine ⟨(9 - (4 + 1)), [0, 3, 9, 10], [1], [], by omega, rfl, ?_⟩
        conv => whnf
        exact ⟨4 + 1, by omega, .inr ⟨by rw [hs]; exact h0, by rw [hs]; rfl⟩⟩
    · have hs := wl_succ next H 5
      conv => whnf
      refine ifB_of (fun hh => ?_) (fun hh => ?_)
      · rw [if_pos hh] at hs
        conv => whnf
        rw [wrap_id (n := next + ((5 : Nat) : Int)) (by omega) (by omega)]
        generalize wl next H 5 = xs at *
        refine need_of ((decide_eq_true ⟨by omega, (show 9 * (xs.length + 1) ≤ 2 ^ 46 by omega)⟩)) ?_
        conv => whnf
        refine ⟨(9 - (5 + 1)), [0, 3, 9, 10], [3], [], by omega, rfl, ?_⟩
        conv => whnf
        refine ⟨5 + 1, by omega, .inr ⟨by rw [hs]; simp, ?_⟩⟩
        rw [hs, List.length_append]
        rfl
      · rw [if_neg (by rw [hh]; simp), List.append_nil] at hs
        conv => whnf
        refine ⟨(9 - (5 + 1)), [0, 3, 9, 10], [1], [], by omega, rfl, ?_⟩
        conv => whnf
        exact ⟨5 + 1, by omega, .inr ⟨by rw [hs]; exact h0, by rw [hs]; rfl⟩⟩
    · have hs := wl_succ next H 6
      conv => whnf
      refine ifB_of (fun hh => ?_) (fun hh => ?_)
      · rw [if_pos hh] at hs
        conv => whnf
        rw [wrap_id (n := next + ((6 : Nat) : Int)) (by omega) (by omega)]
        generalize wl next H 6 = xs at *
        refine need_of ((decide_eq_true ⟨by omega, (show 9 * (xs.length + 1) ≤ 2 ^ 46 by omega)⟩)) ?_
        conv => whnf
        refine ⟨(9 - (6 + 1)), [0, 3, 9, 10], [3], [], by omega, rfl, ?_⟩
        conv => whnf
        refine ⟨6 + 1, by omega, .inr ⟨by rw [hs]; simp, ?_⟩⟩
        rw [hs, List.length_append]
        rfl
      · rw [if_neg (by rw [hh]; simp), List.append_nil] at hs
        conv => whnf
        refine ⟨(9 - (6 + 1)), [0, 3, 9, 10], [1], [], by omega, rfl, ?_⟩
        conv => whnf
        exact ⟨6 + 1, by omega, .inr ⟨by rw [hs]; exact h0, by rw [hs]; rfl⟩⟩
    · have hs := wl_succ next H 7
      conv => whnf
      refine ifB_of (fun hh => ?_) (fun hh => ?_)
      · rw [if_pos hh] at hs
        conv => whnf
        rw [wrap_id (n := next + ((7 : Nat) : Int)) (by omega) (by omega)]
        generalize wl next H 7 = xs at *
        refine need_of ((decide_eq_true ⟨by omega, (show 9 * (xs.length + 1) ≤ 2 ^ 46 by omega)⟩)) ?_
        conv => whnf
        refine ⟨(9 - (7 + 1)), [0, 3, 9, 10], [3], [], by omega, rfl, ?_⟩
        conv => whnf
        refine ⟨7 + 1, by omega, .inr ⟨by rw [hs]; simp, ?_⟩⟩
        rw [hs, List.length_append]
        rfl
      · rw [if_neg (by rw [hh]; simp), List.append_nil] at hs
        conv => whnf
        refine ⟨(9 - (7 + 1)), [0, 3, 9, 10], [1], [], by omega, rfl, ?_⟩
        conv => whnf
        exact ⟨7 + 1, by omega, .inr ⟨by rw [hs]; exact h0, by rw [hs]; rfl⟩⟩
    · have hs := wl_succ next H 8
      conv => whnf
      refine ifB_of (fun hh => ?_) (fun hh => ?_)
      · rw [if_pos hh] at hs
        conv => whnf
        rw [wrap_id (n := next + ((8 : Nat) : Int)) (by omega) (by omega)]
        generalize wl next H 8 = xs at *
        refine need_of ((decide_eq_true ⟨by omega, (show 9 * (xs.length + 1) ≤ 2 ^ 46 by omega)⟩)) ?_
        conv => whnf
        refine ⟨(9 - (8 + 1)), [0, 3, 9, 10], [3], [], by omega, rfl, ?_⟩
        conv => whnf
        refine ⟨8 + 1, by omega, .inr ⟨by rw [hs]; simp, ?_⟩⟩
        rw [hs, List.length_append]
        rfl
      · rw [if_neg (by rw [hh]; simp), List.append_nil] at hs
        conv => whnf
        refine ⟨(9 - (8 + 1)), [0, 3, 9, 10], [1], [], by omega, rfl, ?_⟩
        conv => whnf
        exact ⟨8 + 1, by omega, .inr ⟨by rw [hs]; exact h0, by rw [hs]; rfl⟩⟩
    · generalize wl next H 9 = xs at *
      conv => whnf
      refine ⟨[], [1], rfl, AV.le.of_eq ?_, rfl⟩
      show AV.ri .i64 (List.take xs.length (List.drop 0 xs)) = _
      rw [List.drop_zero, List.take_length]

end Go.Proofs.TryN

