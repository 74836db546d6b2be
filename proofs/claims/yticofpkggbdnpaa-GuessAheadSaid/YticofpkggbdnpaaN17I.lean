/- Layer 17: the middle of numbers. -/
import Derived.Test.YticofpkggbdnpaaN17H
namespace Go.Proofs.TryN
open Go Go.AL Go.Proofs

theorem isnan_spec (n : Int) : CallsF Try.prog 64 [iv n] [] (.bool false) [] := by
  refine e64 ?_
  conv => whnf
  exact ⟨[], [], rfl, congrArg AV.bool (by simp), rfl⟩

theorem less_spec (a b : Int) : CallsF Try.prog 54 [iv a, iv b] [] (.bool (decide (a < b))) [] := by
  refine e54 ?_
  conv => whnf
  refine CallsF.call [] [] (isnan_spec a) rfl rfl rfl rfl rfl (.inl rfl) ?_
  conv => whnf
  exact ⟨[], [], rfl, rfl, rfl⟩

set_option maxRecDepth 100000 in
theorem len64_spec : CallsF Try.prog 58 [.int .u64 3] [] (iv 2) [] := by
  refine e58 ?_
  conv => whnf
  exact ⟨[], [], rfl, congrArg iv (by kernel_rfl), rfl⟩

theorem len_spec : CallsF Try.prog 47 [.int .u64 3] [] (iv 2) [] := by
  refine e47 ?_
  conv => whnf
  refine CallsF.call [] [] len64_spec rfl rfl rfl rfl rfl (.inl rfl) ?_
  conv => whnf
  exact ⟨[], [], rfl, rfl, rfl⟩

/-- Three numbers, sorted. -/
def sort3 (a b c : Int) : List Int :=
  if b < a then (if c < a then (if c < b then [c, b, a] else [b, c, a]) else [b, a, c])
  else (if c < b then (if c < a then [c, a, b] else [a, c, b]) else [a, b, c])

set_option maxRecDepth 10000 in
theorem insertion_spec (a b c : Int) : CallsF Try.prog 48 [.sl 0 0 3, iv 0, iv 3] [some (.ia .i64 [a, b, c])] (.tup []) [some (.ia .i64 (sort3 a b c))] := by
  refine e48 ?_
  conv => whnf
  refine LoopA.steps 3 [0, 1, 2, 6] [] [] (by rfl) ?_
  conv => whnf
  refine LoopA.steps 2 [0, 1, 2, 6, 7] [] [] (by rfl) ?_
  conv => whnf
  refine CallsF.call [] [] (less_spec b a) rfl rfl rfl rfl rfl (.inl rfl) ?_
  conv => whnf
  refine ifB_of (fun h0 => ?_) (fun h0 => ?_)
  · have h0 := of_decide_eq_true h0
    conv => whnf
    refine pt_of [0, 1, 2, 6, 7] [] [] (by rfl) ?_
    conv => whnf
    refine pt_of [0, 1, 2, 6] [] [] (by rfl) ?_
    conv => whnf
    refine LoopA.steps 3 [0, 1, 2, 6, 7] [] [] (by rfl) ?_
    conv => whnf
    refine CallsF.call [] [] (less_spec c a) rfl rfl rfl rfl rfl (.inl rfl) ?_
    conv => whnf
    refine ifB_of (fun h1 => ?_) (fun h1 => ?_)
    · have h1 := of_decide_eq_true h1
      conv => whnf
      refine pt_of [0, 1, 2, 6, 7] [] [] (by rfl) ?_
      conv => whnf
      refine CallsF.call [] [] (less_spec c b) rfl rfl rfl rfl rfl (.inl rfl) ?_
      conv => whnf
      refine ifB_of (fun h2 => ?_) (fun h2 => ?_)
      · have h2 := of_decide_eq_true h2
        conv => whnf
        refine pt_of [0, 1, 2, 6, 7] [] [] (by rfl) ?_
        conv => whnf
        refine pt_of [0, 1, 2, 6] [] [] (by rfl) ?_
        conv => whnf
        exact ⟨[], [], rfl, rfl, (by simp only [sort3, h0, h1, h2, if_true]; rfl)⟩
      · have h2 := of_decide_eq_false h2
        conv => whnf
        refine pt_of [0, 1, 2, 6] [] [] (by rfl) ?_
        conv => whnf
        exact ⟨[], [], rfl, rfl, (by simp only [sort3, h0, h1, h2, if_true, if_false]; rfl)⟩
    · have h1 := of_decide_eq_false h1
      conv => whnf
      refine pt_of [0, 1, 2, 6] [] [] (by rfl) ?_
      conv => whnf
      exact ⟨[], [], rfl, rfl, (by simp only [sort3, h0, h1, if_true, if_false]; rfl)⟩
  · have h0 := of_decide_eq_false h0
    conv => whnf
    refine pt_of [0, 1, 2, 6] [] [] (by rfl) ?_
    conv => whnf
    refine LoopA.steps 3 [0, 1, 2, 6, 7] [] [] (by rfl) ?_
    conv => whnf
    refine CallsF.call [] [] (less_spec c b) rfl rfl rfl rfl rfl (.inl rfl) ?_
    conv => whnf
    refine ifB_of (fun h1 => ?_) (fun h1 => ?_)
    · have h1 := of_decide_eq_true h1
      conv => whnf
      refine pt_of [0, 1, 2, 6, 7] [] [] (by rfl) ?_
      conv => whnf
      refine CallsF.call [] [] (less_spec c a) rfl rfl rfl rfl rfl (.inl rfl) ?_
      conv => whnf
      refine ifB_of (fun h2 => ?_) (fun h2 => ?_)
      · have h2 := of_decide_eq_true h2
        conv => whnf
        refine pt_of [0, 1, 2, 6, 7] [] [] (by rfl) ?_
        conv => whnf
        refine pt_of [0, 1, 2, 6] [] [] (by rfl) ?_
        conv => whnf
        exact ⟨[], [], rfl, rfl, (by simp only [sort3, h0, h1, h2, if_true, if_false]; rfl)⟩
      · have h2 := of_decide_eq_false h2
        conv => whnf
        refine pt_of [0, 1, 2, 6] [] [] (by rfl) ?_
        conv => whnf
        exact ⟨[], [], rfl, rfl, (by simp only [sort3, h0, h1, h2, if_true, if_false]; rfl)⟩
    · have h1 := of_decide_eq_false h1
      conv => whnf
      refine pt_of [0, 1, 2, 6] [] [] (by rfl) ?_
      conv => whnf
      exact ⟨[], [], rfl, rfl, (by simp only [sort3, h0, h1, if_false]; rfl)⟩

set_option maxRecDepth 10000 in
theorem pdq_spec (a b c : Int) : CallsF Try.prog 46 [.sl 0 0 3, iv 0, iv 3, iv 2] [some (.ia .i64 [a, b, c])] (.tup []) [some (.ia .i64 (sort3 a b c))] := by
  refine e46 ?_
  conv => whnf
  refine LoopA.steps 2 [0, 1, 2, 3, 8, 9] [] [] (by rfl) ?_
  conv => whnf
  refine CallsF.call [0] [] (insertion_spec a b c) rfl rfl rfl rfl rfl (.inl rfl) ?_
  conv => whnf
  exact ⟨[], [], rfl, rfl, rfl⟩

theorem sort_spec (a b c : Int) : CallsF Try.prog 41 [.sl 0 0 3] [some (.ia .i64 [a, b, c])] (.tup []) [some (.ia .i64 (sort3 a b c))] := by
  refine e41 ?_
  conv => whnf
  refine CallsF.call [] [] len_spec rfl rfl rfl rfl rfl (.inl rfl) ?_
  conv => whnf
  refine CallsF.call [0] [] (pdq_spec a b c) rfl rfl rfl rfl rfl (.inl rfl) ?_
  conv => whnf
  exact ⟨[], [], rfl, rfl, rfl⟩

def midN : List Int → Int
  | [] => 0
  | [a] => a
  | [a, b] => (a + b + 1) / 2
  | [a, b, c] => (sort3 a b c).getD 1 0
  | _ => 0

def midH : List Int → List Int
  | [a, b, c] => sort3 a b c
  | l => l

theorem sort3_len (a b c : Int) : ∃ p q r, sort3 a b c = [p, q, r] := by
  unfold sort3
  split <;> split <;> (try split) <;> exact ⟨_, _, _, rfl⟩

theorem mid0_spec : CallsF Try.prog 30 [.snil] [] (iv 0) [] := by
  refine e30 ?_
  conv => whnf
  exact ⟨[], [], rfl, rfl, rfl⟩

theorem mid1_spec (a : Int) : CallsF Try.prog 30 [.sl 0 0 1] [some (.ia .i64 [a])] (iv a) [some (.ia .i64 [a])] := by
  refine e30 ?_
  conv => whnf
  exact ⟨[], [], rfl, rfl, rfl⟩

theorem mid2_spec (a b : Int) (ha : -16777216 ≤ a ∧ a ≤ 16777216) (hb : -16777216 ≤ b ∧ b ≤ 16777216) : CallsF Try.prog 30 [.sl 0 0 2] [some (.ia .i64 [a, b])] (iv ((a + b + 1) / 2)) [some (.ia .i64 [a, b])] := by
  have e : IntKind.wrap .i64 (IntKind.wrap .i64 (a + b) + 1) = a + b + 1 := by rw [wrap_id (n := a + b) (by omega) (by omega), wrap_id (by omega) (by omega)]
  have k := lower_spec (a + b + 1) 2 (by omega) (by omega)
  rw [← e] at k
  rw [← e]
  refine e30 ?_
  conv => whnf
  refine CallsF.call [] [] k rfl rfl rfl rfl rfl (.inl rfl) ?_
  conv => whnf
  exact ⟨[], [], rfl, rfl, rfl⟩

theorem mid3_spec (a b c : Int) : CallsF Try.prog 30 [.sl 0 0 3] [some (.ia .i64 [a, b, c])] (iv ((sort3 a b c).getD 1 0)) [some (.ia .i64 (sort3 a b c))] := by
  obtain ⟨p, q, r, hs⟩ := sort3_len a b c
  have k := sort_spec a b c
  rw [hs] at k
  rw [hs]
  refine e30 ?_
  conv => whnf
  refine CallsF.call [0] [] k rfl rfl rfl rfl rfl (.inl rfl) ?_
  conv => whnf
  exact ⟨[], [], rfl, rfl, rfl⟩

theorem mid_spec (l : List Int) (h1 : 1 ≤ l.length) (h3 : l.length ≤ 3) (hb : ∀ v ∈ l, -16777216 ≤ v ∧ v ≤ 16777216) : CallsF Try.prog 30 [.sl 0 0 l.length] [some (.ia .i64 l)] (iv (midN l)) [some (.ia .i64 (midH l))] := by
  match l, h1, h3, hb with
  | [a], _, _, _ => exact mid1_spec a
  | [a, b], _, _, hb => exact mid2_spec a b (hb a (by simp)) (hb b (by simp))
  | [a, b, c], _, _, _ => exact mid3_spec a b c
  | _ :: _ :: _ :: _ :: _, _, h3, _ => simp at h3

theorem mid_sum (a b c : Int) : (sort3 a b c).getD 1 0 = a + b + c - min (min a b) c - max (max a b) c := by
  unfold sort3
  split <;> split <;> (try split) <;> simp <;> omega

set_option maxRecDepth 10000 in
theorem rmid3_spec (a b c : Int) (ha : -16777216 ≤ a ∧ a ≤ 16777216) (hb : -16777216 ≤ b ∧ b ≤ 16777216) (hc : -16777216 ≤ c ∧ c ≤ 16777216) : CallsF Try.prog 31 [.ri .i64 [a, b, c]] [] (iv ((sort3 a b c).getD 1 0)) [] := by
  rw [mid_sum]
  have w1 : IntKind.wrap .i64 (0 + a) = a := by rw [Int.zero_add]; exact wrap_id (by omega) (by omega)
  have w2 : IntKind.wrap .i64 (a + b) = a + b := wrap_id (by omega) (by omega)
  have w3 : IntKind.wrap .i64 (a + b + c) = a + b + c := wrap_id (by omega) (by omega)
  have fin : ∀ m M : Int, m = min (min a b) c → M = max (max a b) c → IntKind.wrap .i64 (IntKind.wrap .i64 (IntKind.wrap .i64 (IntKind.wrap .i64 (IntKind.wrap .i64 (0 + a) + b) + c) - m) - M) = a + b + c - min (min a b) c - max (max a b) c := by
    rintro m M rfl rfl
    rw [w1, w2, w3, wrap_id (n := a + b + c - _) (by omega) (by omega), wrap_id (by omega) (by omega)]
  refine e31 ?_
  conv => whnf
  refine LoopA.unroll 4 [3, 4, 5, 34, 35, 36] [] [] [] [] (by rfl) ?_
  conv => whnf
  refine ifB_of (fun h => absurd h (by simp)) (fun _ => ?_)
  conv => whnf
  refine ifB_of (fun h => absurd h (by simp)) (fun _ => ?_)
  conv => whnf
  refine ⟨rfl, ?_⟩
  conv => whnf
  refine ifB_of (fun (h1 : decide (b < a) = true) => ?_) (fun (h1 : decide (b < a) = false) => ?_)
  · conv => whnf
    refine ifB_of (fun (h2 : decide (b > a) = true) => ?_) (fun (h2 : decide (b > a) = false) => ?_)
    · conv => whnf
      refine ⟨rfl, ?_⟩
      conv => whnf
      refine ifB_of (fun (h3 : decide (c < b) = true) => ?_) (fun (h3 : decide (c < b) = false) => ?_)
      · conv => whnf
        refine ifB_of (fun (h4 : decide (c > b) = true) => ?_) (fun (h4 : decide (c > b) = false) => ?_)
        · conv => whnf
          refine ⟨rfl, ?_⟩
          conv => whnf
          exact ⟨[], [], rfl, congrArg iv (fin c c (by simp at h1 h2 h3 h4; omega) (by simp at h1 h2 h3 h4; omega)), rfl⟩
        · conv => whnf
          refine ⟨rfl, ?_⟩
          conv => whnf
          exact ⟨[], [], rfl, congrArg iv (fin c b (by simp at h1 h2 h3 h4; omega) (by simp at h1 h2 h3 h4; omega)), rfl⟩
      · conv => whnf
        refine ifB_of (fun (h4 : decide (c > b) = true) => ?_) (fun (h4 : decide (c > b) = false) => ?_)
        · conv => whnf
          refine ⟨rfl, ?_⟩
          conv => whnf
          exact ⟨[], [], rfl, congrArg iv (fin b c (by simp at h1 h2 h3 h4; omega) (by simp at h1 h2 h3 h4; omega)), rfl⟩
        · conv => whnf
          refine ⟨rfl, ?_⟩
          conv => whnf
          exact ⟨[], [], rfl, congrArg iv (fin b b (by simp at h1 h2 h3 h4; omega) (by simp at h1 h2 h3 h4; omega)), rfl⟩
    · conv => whnf
      refine ⟨rfl, ?_⟩
      conv => whnf
      refine ifB_of (fun (h3 : decide (c < b) = true) => ?_) (fun (h3 : decide (c < b) = false) => ?_)
      · conv => whnf
        refine ifB_of (fun (h4 : decide (c > a) = true) => ?_) (fun (h4 : decide (c > a) = false) => ?_)
        · conv => whnf
          refine ⟨rfl, ?_⟩
          conv => whnf
          exact ⟨[], [], rfl, congrArg iv (fin c c (by simp at h1 h2 h3 h4; omega) (by simp at h1 h2 h3 h4; omega)), rfl⟩
        · conv => whnf
          refine ⟨rfl, ?_⟩
          conv => whnf
          exact ⟨[], [], rfl, congrArg iv (fin c a (by simp at h1 h2 h3 h4; omega) (by simp at h1 h2 h3 h4; omega)), rfl⟩
      · conv => whnf
        refine ifB_of (fun (h4 : decide (c > a) = true) => ?_) (fun (h4 : decide (c > a) = false) => ?_)
        · conv => whnf
          refine ⟨rfl, ?_⟩
          conv => whnf
          exact ⟨[], [], rfl, congrArg iv (fin b c (by simp at h1 h2 h3 h4; omega) (by simp at h1 h2 h3 h4; omega)), rfl⟩
        · conv => whnf
          refine ⟨rfl, ?_⟩
          conv => whnf
          exact ⟨[], [], rfl, congrArg iv (fin b a (by simp at h1 h2 h3 h4; omega) (by simp at h1 h2 h3 h4; omega)), rfl⟩
  · conv => whnf
    refine ifB_of (fun (h2 : decide (b > a) = true) => ?_) (fun (h2 : decide (b > a) = false) => ?_)
    · conv => whnf
      refine ⟨rfl, ?_⟩
      conv => whnf
      refine ifB_of (fun (h3 : decide (c < a) = true) => ?_) (fun (h3 : decide (c < a) = false) => ?_)
      · conv => whnf
        refine ifB_of (fun (h4 : decide (c > b) = true) => ?_) (fun (h4 : decide (c > b) = false) => ?_)
        · conv => whnf
          refine ⟨rfl, ?_⟩
          conv => whnf
          exact ⟨[], [], rfl, congrArg iv (fin c c (by simp at h1 h2 h3 h4; omega) (by simp at h1 h2 h3 h4; omega)), rfl⟩
        · conv => whnf
          refine ⟨rfl, ?_⟩
          conv => whnf
          exact ⟨[], [], rfl, congrArg iv (fin c b (by simp at h1 h2 h3 h4; omega) (by simp at h1 h2 h3 h4; omega)), rfl⟩
      · conv => whnf
        refine ifB_of (fun (h4 : decide (c > b) = true) => ?_) (fun (h4 : decide (c > b) = false) => ?_)
        · conv => whnf
          refine ⟨rfl, ?_⟩
          conv => whnf
          exact ⟨[], [], rfl, congrArg iv (fin a c (by simp at h1 h2 h3 h4; omega) (by simp at h1 h2 h3 h4; omega)), rfl⟩
        · conv => whnf
          refine ⟨rfl, ?_⟩
          conv => whnf
          exact ⟨[], [], rfl, congrArg iv (fin a b (by simp at h1 h2 h3 h4; omega) (by simp at h1 h2 h3 h4; omega)), rfl⟩
    · conv => whnf
      refine ⟨rfl, ?_⟩
      conv => whnf
      refine ifB_of (fun (h3 : decide (c < a) = true) => ?_) (fun (h3 : decide (c < a) = false) => ?_)
      · conv => whnf
        refine ifB_of (fun (h4 : decide (c > a) = true) => ?_) (fun (h4 : decide (c > a) = false) => ?_)
        · conv => whnf
          refine ⟨rfl, ?_⟩
          conv => whnf
          exact ⟨[], [], rfl, congrArg iv (fin c c (by simp at h1 h2 h3 h4; omega) (by simp at h1 h2 h3 h4; omega)), rfl⟩
        · conv => whnf
          refine ⟨rfl, ?_⟩
          conv => whnf
          exact ⟨[], [], rfl, congrArg iv (fin c a (by simp at h1 h2 h3 h4; omega) (by simp at h1 h2 h3 h4; omega)), rfl⟩
      · conv => whnf
        refine ifB_of (fun (h4 : decide (c > a) = true) => ?_) (fun (h4 : decide (c > a) = false) => ?_)
        · conv => whnf
          refine ⟨rfl, ?_⟩
          conv => whnf
          exact ⟨[], [], rfl, congrArg iv (fin a c (by simp at h1 h2 h3 h4; omega) (by simp at h1 h2 h3 h4; omega)), rfl⟩
        · conv => whnf
          refine ⟨rfl, ?_⟩
          conv => whnf
          exact ⟨[], [], rfl, congrArg iv (fin a a (by simp at h1 h2 h3 h4; omega) (by simp at h1 h2 h3 h4; omega)), rfl⟩

theorem rmid_spec (l : List Int) (h3 : l.length ≤ 3) (hb : ∀ v ∈ l, -16777216 ≤ v ∧ v ≤ 16777216) : CallsF Try.prog 31 [.ri .i64 l] [] (iv (midN l)) [] := by
  match l, h3, hb with
  | [], _, _ =>
    refine e31 ?_
    conv => whnf
    exact ⟨[], [], rfl, rfl, rfl⟩
  | [a], _, _ =>
    refine e31 ?_
    conv => whnf
    exact ⟨[], [], rfl, rfl, rfl⟩
  | [a, b], _, hb =>
    have ha := hb a (by simp)
    have hb := hb b (by simp)
    have e : IntKind.wrap .i64 (IntKind.wrap .i64 (a + b) + 1) = a + b + 1 := by rw [wrap_id (n := a + b) (by omega) (by omega), wrap_id (by omega) (by omega)]
    have k := down_spec (a + b + 1) 2 (by omega) (by omega)
    rw [← e] at k
    rw [midN, ← e]
    refine e31 ?_
    conv => whnf
    refine CallsF.call [] [] k rfl rfl rfl rfl rfl (.inl rfl) ?_
    conv => whnf
    exact ⟨[], [], rfl, rfl, rfl⟩
  | [a, b, c], _, hb => exact rmid3_spec a b c (hb a (by simp)) (hb b (by simp)) (hb c (by simp))
  | _ :: _ :: _ :: _ :: _, h3, _ => simp at h3
end Go.Proofs.TryN

