/- Layer 26: a frame is put. -/
import Derived.Test.YtdcpobifckmoaaaN26E
namespace Go.Proofs.TryN
open Go Go.AL Go.Proofs

/-- Those that wait, rising, none too far ahead. -/
structure Waits (next : Int) (W : List (Int × Int)) : Prop where
  lo : 0 ≤ next ∧ next < 1000000
  rng : ∀ x ∈ W, next ≤ x.1 ∧ x.1 ≤ next + 8
  rise : W.Pairwise fun x y => x.1 < y.1

theorem Waits.len_le {next : Int} {W : List (Int × Int)} (h : Waits next W) : W.length ≤ 9 := by
  have key : ∀ (k : Nat) (W : List (Int × Int)) (lo : Int), (∀ x ∈ W, lo ≤ x.1 ∧ x.1 < lo + k) → W.Pairwise (fun x y => x.1 < y.1) → W.length ≤ k := by
    intro k
    induction k with
    | zero =>
      intro W lo h1 h2
      cases W with
      | nil => exact Nat.le_refl _
      | cons x xs => have := h1 x (by simp); omega
    | succ k ih =>
      intro W lo h1 h2
      cases W with
      | nil => exact Nat.zero_le _
      | cons x xs =>
        rw [List.pairwise_cons] at h2
        have := ih xs (x.1 + 1) (fun y hy => by
          have a := h1 y (by simp [hy]); have b := h2.1 y hy; have c := h1 x (by simp); omega) h2.2
        have hx := h1 x (by simp)
        simp only [List.length_cons]; omega
  exact key 9 W next (fun x hx => by have := h.rng x hx; omega) h.rise

/-- How many numbers are less. -/
def posW (W : List (Int × Int)) (n : Int) : Nat := (W.takeWhile fun x => decide (x.1 < n)).length

theorem posW_le (W : List (Int × Int)) (n : Int) : posW W n ≤ W.length := by
  unfold posW
  exact (List.takeWhile_sublist _).length_le

theorem posW_lo {W : List (Int × Int)} {n : Int} : ∀ (t : Nat) (h : t < W.length), t < posW W n → W[t].1 < n := by
  unfold posW
  induction W with
  | nil => intro t h; simp at h
  | cons x xs ih =>
    intro t h ht
    rw [List.takeWhile_cons] at ht
    split at ht
    · rename_i hx
      cases t with
      | zero => simpa using hx
      | succ t => exact ih t (by simpa using h) (by simpa using ht)
    · simp at ht

theorem posW_hi {W : List (Int × Int)} {n : Int} (hW : W.Pairwise fun x y => x.1 < y.1) : ∀ (t : Nat) (h : t < W.length), posW W n ≤ t → n ≤ W[t].1 := by
  unfold posW
  induction W with
  | nil => intro t h; simp at h
  | cons x xs ih =>
    rw [List.pairwise_cons] at hW
    intro t h ht
    rw [List.takeWhile_cons] at ht
    split at ht
    · rename_i hx
      cases t with
      | zero => simp at ht
      | succ t => exact ih hW.2 t (by simpa using h) (by simpa using ht)
    · rename_i hx
      have hx : n ≤ x.1 := by simpa using hx
      cases t with
      | zero => exact hx
      | succ t =>
        have := hW.1 _ (List.getElem_mem (show t < xs.length by simpa using h))
        simp only [List.getElem_cons_succ]; omega

def hasW (W : List (Int × Int)) (n : Int) : Bool := W[posW W n]?.any fun x => x.1 == n

/-- With one more. -/
def putW (W : List (Int × Int)) (n v : Int) : List (Int × Int) := W.take (posW W n) ++ (n, v) :: W.drop (posW W n)

theorem irows_put (W : List (Int × Int)) (n v : Int) : insR (irows W) (posW W n) (irow (n, v)) = irows (putW W n v) := by
  simp [insR, irows, putW, List.map_take, List.map_drop]

/-- What is answered, and who waits then. -/
def putE (next : Int) (W : List (Int × Int)) (n : Int) : Int := if n < next then 251 else if next + 8 < n then 260 else if hasW W n = true then 251 else 0
def putQ (next : Int) (W : List (Int × Int)) (n v : Int) : List (Int × Int) := if n < next then W else if next + 8 < n then W else if hasW W n = true then W else putW W n v

set_option maxRecDepth 10000 in
set_option maxHeartbeats 1000000 in
theorem put_spec (next : Int) (W : List (Int × Int)) (hW : Waits next W) (n v : Int) (hn : -9223372036854775808 ≤ n ∧ n ≤ 9223372036854775807) :
    CallsF Try.prog 8 [.bp 0 0, iv n, .agg (frow v)] [some (.box [iv next, .sl 1 0 W.length]), some (.arr 10 (irows W))] (iv (putE next W n)) [some (.box [iv next, .sl 2 0 (putQ next W n v).length]), none, some (.arr 10 (irows (putQ next W n v)))] := by
  have hlen := hW.len_le
  have hlo := hW.lo
  have hl : (irows W).length = W.length := by rw [irows, List.length_map]
  unfold putE putQ
  refine m8 1 ?_
  conv => whnf
  refine ifB_of (fun h1 => ?_) (fun h1 => ?_)
  · have h1 : n < next := of_decide_eq_true h1
    rw [if_pos h1, if_pos h1]
    conv => whnf
    exact ⟨[1], [], rfl, rfl, rfl⟩
  have h1 : ¬ n < next := of_decide_eq_false h1
  rw [if_neg h1, if_neg h1]
  conv => whnf
  rw [wrap_id (n := n - next) (by omega) (by omega)]
  refine ifB_of (fun h2 => ?_) (fun h2 => ?_)
  · have h2 : next + 8 < n := by have := of_decide_eq_true h2; omega
    rw [if_pos h2, if_pos h2]
    conv => whnf
    exact ⟨[1], [], rfl, rfl, rfl⟩
  have h2 : ¬ next + 8 < n := by have := of_decide_eq_false h2; omega
  rw [if_neg h2, if_neg h2]
  have k0 := place_spec next W n (posW W n) (by omega) (fun x hx => by have := hW.rng x hx; omega) (posW_le W n) posW_lo (posW_hi hW.rise)
  have hput := irows_put W n v
  have k1 := insert_spec (irows W) (posW W n) (n, v) (by rw [hl]; exact posW_le W n) (by omega) (irows_closed W)
  rw [hput, hl] at k1
  change CallsF Try.prog _ _ _ (.tup [iv (posW W n : Nat), .bool (hasW W n)]) _ at k0
  have hpl : (putW W n v).length = W.length + 1 := by
    have := congrArg List.length hput
    rw [insR_len _ _ _ (by rw [hl]; exact posW_le W n), irows, irows, List.length_map, List.length_map] at this
    exact this.symm
  have k2 := copied_spec 1 1 (IntKind.wrap .i64 (v + 0)) 1 1 (IntKind.wrap .i64 (v + 1)) 1 1 (IntKind.wrap .i64 (v + 2))
  cases hh : hasW W n
  · rw [hh] at k0
    rw [if_neg (by simp), if_neg (by simp), hpl]
    generalize irows (putW W n v) = rows2 at *
    generalize irows W = rows at *
    generalize posW W n = p at *
    conv => whnf
    refine CallsF.call [0, 1] [] k0 rfl rfl rfl rfl rfl (.inl rfl) ?_
    conv => whnf
    refine CallsF.call [] [] k2 rfl rfl rfl rfl rfl (.inl rfl) ?_
    conv => whnf
    refine ⟨.inl ⟨_, rfl⟩, ?_⟩
    conv => whnf
    refine CallsF.call [1, 3] [] k1 rfl rfl rfl rfl rfl (.inl rfl) ?_
    conv => whnf
    exact ⟨[4], [], rfl, rfl, rfl⟩
  · rw [hh] at k0
    rw [if_pos rfl, if_pos rfl]
    generalize irows W = rows at *
    generalize posW W n = p at *
    conv => whnf
    refine CallsF.call [0, 1] [] k0 rfl rfl rfl rfl rfl (.inl rfl) ?_
    conv => whnf
    exact ⟨[1], [], rfl, rfl, rfl⟩

set_option maxRecDepth 10000 in
theorem put0_spec (next : Int) (_hlo : 0 ≤ next ∧ next < 1000000) (n v : Int) (_hn : -9223372036854775808 ≤ n ∧ n ≤ 9223372036854775807) (h1 : next ≤ n) (h2 : n ≤ next + 8) :
    CallsF Try.prog 8 [.bp 0 0, iv n, .agg (frow v)] [some (.box [iv next, .snil])] (iv 0) [some (.box [iv next, .sl 1 0 1]), some (.arr 10 [irow (n, v)])] := by
  have k0 := place0_spec next n
  have k1 := insert0_spec (n, v)
  have k2 := copied_spec 1 1 (IntKind.wrap .i64 (v + 0)) 1 1 (IntKind.wrap .i64 (v + 1)) 1 1 (IntKind.wrap .i64 (v + 2))
  refine e8 ?_
  conv => whnf
  refine ifB_of (fun h => absurd (of_decide_eq_true h) (by omega)) (fun _ => ?_)
  conv => whnf
  rw [wrap_id (n := n - next) (by omega) (by omega)]
  refine ifB_of (fun h => absurd (of_decide_eq_true h) (by omega)) (fun _ => ?_)
  conv => whnf
  refine CallsF.call [0] [] k0 rfl rfl rfl rfl rfl (.inl rfl) ?_
  conv => whnf
  refine CallsF.call [] [] k2 rfl rfl rfl rfl rfl (.inl rfl) ?_
  conv => whnf
  refine ⟨.inl ⟨_, rfl⟩, ?_⟩
  conv => whnf
  refine CallsF.call [2] [] k1 rfl rfl rfl rfl rfl (.inl rfl) ?_
  conv => whnf
  exact ⟨[3], [], rfl, rfl, rfl⟩

set_option maxRecDepth 10000 in
theorem put0_no (next : Int) (hlo : 0 ≤ next ∧ next < 1000000) (n v : Int) (hn : -9223372036854775808 ≤ n ∧ n ≤ 9223372036854775807) (h1 : n < next ∨ next + 8 < n) :
    CallsF Try.prog 8 [.bp 0 0, iv n, .agg (frow v)] [some (.box [iv next, .snil])] (iv (if n < next then 251 else 260)) [some (.box [iv next, .snil])] := by
  refine e8 ?_
  conv => whnf
  refine ifB_of (fun h2 => ?_) (fun h2 => ?_)
  · rw [if_pos (of_decide_eq_true h2)]
    conv => whnf
    exact ⟨[], [], rfl, rfl, rfl⟩
  have h2 : ¬ n < next := of_decide_eq_false h2
  rw [if_neg h2]
  conv => whnf
  rw [wrap_id (n := n - next) (by omega) (by omega)]
  refine ifB_of (fun _ => ?_) (fun h => absurd (of_decide_eq_false h) (by omega))
  conv => whnf
  exact ⟨[], [], rfl, rfl, rfl⟩

theorem put_nil (n v : Int) : CallsF Try.prog 8 [.pnil, iv n, .agg (frow v)] [] (iv 1) [] := by
  refine e8 ?_
  conv => whnf
  exact ⟨[], [], rfl, rfl, rfl⟩

end Go.Proofs.TryN

