/- NearAhead: the walk. -/
import Derived.Test.YthigehjpkpbmcaaAL27
import Derived.Test.YthigehjpkpbmcaaN13
namespace Go.Proofs.TryN
open Go Go.AL Go.Proofs

theorem mod_in {a w : Int} (h1 : 1 ≤ w) (h2 : w ≤ 1024) : ∃ x : Int, IntKind.wrap .i64 ((IntKind.wrap .u64 a).tmod (IntKind.wrap .u64 w)) = x ∧ 0 ≤ x ∧ x < w := by
  have hu : IntKind.wrap .u64 w = w := wrap_u64 (by omega) (by omega)
  have h0 : 0 ≤ IntKind.wrap .u64 a := (wrap_u64_nn a).1
  rw [hu]
  have b1 : 0 ≤ (IntKind.wrap .u64 a).tmod w := Int.tmod_nonneg _ h0
  have b2 : (IntKind.wrap .u64 a).tmod w < w := Int.tmod_lt_of_pos _ (by omega)
  exact ⟨_, rfl, by rw [wrap_id (by omega) (by omega)]; exact b1, by rw [wrap_id (by omega) (by omega)]; exact b2⟩

/-- The plane's numbers, from k on up to i others. -/
def mix (v : List Int) (k : Nat) (d : Int) (i : Nat) : List Int := v.take k ++ List.replicate (i - k) d ++ v.drop i

theorem mix_len {v : List Int} {k i : Nat} {d : Int} (h1 : k ≤ i) (h2 : i ≤ v.length) : (mix v k d i).length = v.length := by
  simp [mix]; omega

theorem mix_set {v : List Int} {k i : Nat} {d : Int} (h1 : k ≤ i) (h2 : i < v.length) : (mix v k d i).set i d = mix v k d (i + 1) := by
  apply List.ext_getElem?
  intro q
  have e : i + 1 - k = i - k + 1 := by omega
  simp only [mix, List.getElem?_set, List.getElem?_append, List.getElem?_take, List.getElem?_drop, List.getElem?_replicate, List.length_append, List.length_take, List.length_replicate, List.length_drop]
  by_cases hq : q < k
  · simp [hq, show ¬ i = q by omega]
    split <;> split <;> simp_all <;> omega
  · by_cases hqi : q = i
    · subst hqi
      simp
      grind
    · grind

theorem mix_start (v : List Int) (k : Nat) (d : Int) : mix v k d k = v := by simp [mix]

theorem mix_get {v : List Int} {k i q : Nat} {d : Int} (h1 : k ≤ v.length) (hq : q < k) : (mix v k d i).getD q 0 = v.getD q 0 := by
  simp only [mix, List.getD_eq_getElem?_getD]
  rw [List.append_assoc, List.getElem?_append_left (by simp; omega), List.getElem?_take, if_pos hq]

theorem at_mix {w h : Int} {v v2 : List Int} {k : Nat} (hl : v2.length = v.length) (hg : ∀ q, q < k → v2.getD q 0 = v.getD q 0) {x' y' : Int} (hx : y' * w + x' < k ∨ x' < 0 ∨ y' < 0) : atN w h v2 x' y' = atN w h v x' y' := by
  have hr : right w h v2 = right w h v := by simp [right, hl]
  unfold atN
  rw [hr]
  split
  · rfl
  · rename_i hn
    rw [not_or, not_or, not_or, not_or] at hn
    have hrr : right w h v = true := by cases hh : right w h v <;> simp_all
    obtain ⟨b1, b2, b3, b4, _⟩ := at_in hrr ⟨by omega, by omega⟩ ⟨by omega, by omega⟩ (x := x') (y := y')
    exact hg _ (by omega)

theorem of_mix {w h : Int} {v v2 : List Int} {w' h' : Int} {v' : List Int} {o x y : Int} (hr : right w h v = true) (x0 : 0 ≤ x) (x1 : x < w) (y0 : 0 ≤ y) (y1 : y < h) (hl : v2.length = v.length)
    (hg : ∀ q, q < (y * w + x).toNat → v2.getD q 0 = v.getD q 0) : ofV w h v2 w' h' v' o x y = ofV w h v w' h' v' o x y := by
  obtain ⟨a1, a2, a3, a4⟩ := right_in hr
  obtain ⟨b1, b2, b3, b4, _⟩ := at_in hr ⟨x0, x1⟩ ⟨y0, y1⟩
  have ex : IntKind.wrap .i64 (x - 1) = x - 1 := wrap_id (by omega) (by omega)
  have ey : IntKind.wrap .i64 (y - 1) = y - 1 := wrap_id (by omega) (by omega)
  have em : (y - 1) * w = y * w - w := by rw [Int.sub_mul, Int.one_mul]
  have e1 : atN w h v2 (x - 1) y = atN w h v (x - 1) y := at_mix (k := (y * w + x).toNat) hl hg (by omega)
  have e2 : atN w h v2 x (y - 1) = atN w h v x (y - 1) := at_mix (k := (y * w + x).toNat) hl hg (by omega)
  have e3 : atN w h v2 (x - 1) (y - 1) = atN w h v (x - 1) (y - 1) := at_mix (k := (y * w + x).toNat) hl hg (by omega)
  simp only [ofV, besideB, signN, ex, ey, e1, e2, e3]

theorem ctx_in (p b : Bool) : (ctx p b).length = 6 ∧ ∀ c ∈ ctx p b, 0 ≤ c ∧ c ≤ 13 := by
  cases p <;> cases b <;> simp [ctx]

theorem NearAhead_spec (w h : Int) (v : List Int) (w' h' : Int) (v' : List Int) (a b c d : Int) :
    CallsA Try.prog 3 [pl w h v, pl w' h' v', .agg [iv a, iv b, iv c, iv d]] [] (fun r _ => r = .bool true) := by
  refine e3 ?_
  conv => whnf
  refine CallsF.call [] [] first_spec rfl rfl rfl rfl rfl (.inl rfl) ?_
  conv => whnf
  refine ifB_of (fun h1 => ?_) (fun h1 => ?_)
  · conv => whnf
    exact ⟨[], [], rfl, rfl⟩
  conv => whnf
  refine CallsF.call [] [] (right7_spec w h v) rfl rfl rfl rfl rfl (.inl rfl) ?_
  conv => whnf
  refine ifB_of (fun h2 => ?_) (fun h2 => ?_)
  · conv => whnf
    exact ⟨[], [], rfl, rfl⟩
  conv => whnf
  have hr : right w h v = true := by simpa using h2
  obtain ⟨a1, a2, a3, a4⟩ := right_in hr
  have hl : v.length ≤ 2000 := by have := of_decide_eq_false h1; omega
  obtain ⟨x, hx, x1, x2⟩ := mod_in (a := a) a1.1 a1.2
  obtain ⟨y, hy, y1, y2⟩ := mod_in (a := b) a2.1 a2.2
  have hu : IntKind.wrap .u64 w = w := wrap_u64 (by omega) (by omega)
  have hu' : IntKind.wrap .u64 h = h := wrap_u64 (by omega) (by omega)
  refine need_of ((decide_eq_true (by rw [hu]; omega))) ?_
  conv => whnf
  refine need_of ((decide_eq_true (by rw [hu']; omega))) ?_
  conv => whnf
  rw [hx, hy]
  refine CallsF.call [] [] (Of_spec w h v w' h' v' _ x y) rfl rfl rfl rfl rfl (.inl rfl) ?_
  conv => whnf
  obtain ⟨v0, vs, rfl⟩ : ∃ v0 vs, v = v0 :: vs := by
    cases v with
    | nil =>
      have : 0 < w * h := Int.mul_pos (by omega) (by omega)
      simp at a4; omega
    | cons v0 vs => exact ⟨v0, vs, rfl⟩
  conv => whnf
  refine need_of ((decide_eq_true (by simp at hl; omega))) ?_
  conv => whnf
  obtain ⟨b1, b2, b3, b4, ew⟩ := at_in hr ⟨x1, x2⟩ ⟨y1, y2⟩
  obtain ⟨o, ho⟩ : ∃ o, IntKind.wrap .i64 ((IntKind.wrap .u64 c).tmod 4) = o := ⟨_, rfl⟩
  obtain ⟨k, hk⟩ : ∃ k : Nat, y * w + x = k := ⟨(y * w + x).toNat, by omega⟩
  rw [ew, hk, ho]
  have hkl : k < (v0 :: vs).length := by omega
  obtain ⟨fl, hfl⟩ : ∃ fl, ctx (atN w' h' v' (x.fdiv 2) (y.fdiv 2) != 0) (besideB w h (v0 :: vs) x y) = fl := ⟨_, rfl⟩
  obtain ⟨sg, hsg⟩ : ∃ sg, ctxS (signN w h (v0 :: vs) o x y) = sg := ⟨_, rfl⟩
  have hof : ofV w h (v0 :: vs) w' h' v' o x y = st3 fl 17 sg := by rw [ofV, hfl, hsg]
  obtain ⟨f1, f2⟩ : fl.length = 6 ∧ ∀ c ∈ fl, 0 ≤ c ∧ c ≤ 13 := by rw [← hfl]; exact ctx_in _ _
  rw [hfl, hsg]
  refine LoopA.inv (fun n st => ∃ i : Nat, n + i = (v0 :: vs).length ∧ k ≤ i ∧ st = ⟨[(4, .bp 0 0), (7, iv x), (8, iv y), (9, iv o), (10, iv d), (11, .bp 1 0), (12, .bp 3 0), (13, iv i)], [some (.box [iv w', iv h', .ri .i64 v']), some (.box [.ri .i64 fl, iv 17, iv sg]), some (.ia .i64 (mix (v0 :: vs) k d i)), some (.box [iv w, iv h, .sl 2 0 (vs.length + 1)])], 4, 0⟩) ((v0 :: vs).length - k) [4, 7, 8, 9, 10, 11, 12, 13] [1, 3, 4, 5] [] (by rfl) ?_ ?_
  · conv => whnf
    exact ⟨k, by omega, Nat.le_refl _, by rw [mix_start]⟩
  rintro n st ⟨i, hn, hi, rfl⟩
  conv => whnf
  refine ifB_of (fun h3 => ?_) (fun h3 => ?_)
  · have hil : i < (v0 :: vs).length := by have := of_decide_eq_true h3; simp only [List.length_cons]; omega
    conv => whnf
    refine need_of ((decide_eq_true ⟨by omega, by simp at hil; omega⟩)) ?_
    conv => whnf
    refine need_of ((decide_eq_true (by rw [mix_len hi (by omega)]; simpa using hil))) ?_
    conv => whnf
    refine ⟨((v0 :: vs).length - (i + 1)), [4, 7, 8, 9, 10, 11, 12, 13], [0, 1, 2, 3], [], by omega, rfl, ?_⟩
    conv => whnf
    refine ⟨i + 1, by omega, by omega, ?_⟩
    have e1 : IntKind.wrap .i64 ((i : Int) + 1) = ((i + 1 : Nat) : Int) := by rw [wrap_id (by omega) (by omega)]; rfl
    have e2 : (mix (v0 :: vs) k d i).set (0 + (i : Int).toNat) d = mix (v0 :: vs) k d (i + 1) := by
      rw [Nat.zero_add, Int.toNat_natCast]; exact mix_set hi hil
    rw [← e1, ← e2]
  · conv => whnf
    have hie : i = vs.length + 1 := by have := of_decide_eq_false h3; simp at hn; omega
    subst hie
    have hm := mix_len (v := v0 :: vs) (k := k) (i := vs.length + 1) (d := d) (by simp at hkl; omega) (by simp)
    have ht : ((mix (v0 :: vs) k d (vs.length + 1)).drop 0).take (vs.length + 1) = mix (v0 :: vs) k d (vs.length + 1) := by
      rw [List.drop_zero, List.take_of_length_le (by rw [hm]; simp)]
    refine LoopA.inv (fun n st => ∃ i : Nat, n + i = 6 ∧ st = ⟨[(4, .bp 0 0), (7, iv x), (8, iv y), (9, iv o), (11, .bp 1 0), (12, .bp 2 0), (84, .ri .i64 fl), (85, iv fl.length), (86, iv i)], [some (.box [iv w', iv h', .ri .i64 v']), some (.box [.ri .i64 fl, iv 17, iv sg]), some (.box [iv w, iv h, .ri .i64 (mix (v0 :: vs) k d (vs.length + 1))])], 3, 0⟩) 6 [4, 7, 8, 9, 11, 12, 84, 85, 86] [0, 1, 3] [2] (by rfl) ?_ ?_
    · conv => whnf
      exact ⟨0, rfl, by rw [ht]; rfl⟩
    rintro n st ⟨i, hn, rfl⟩
    conv => whnf
    refine ifB_of (fun h4 => ?_) (fun h4 => ?_)
    · have hil : i < fl.length := by have := of_decide_eq_true h4; omega
      have hc := f2 _ (List.getElem_mem hil)
      have e0 : fl.getD (i : Int).toNat 0 = fl[i] := by rw [Int.toNat_natCast, getD_at hil]
      conv => whnf
      refine need_of ((decide_eq_true ⟨by omega, by omega⟩)) ?_
      conv => whnf
      rw [e0]
      refine ifB_of (fun h5 => ?_) (fun h5 => ?_)
      · have := of_decide_eq_true h5; omega
      conv => whnf
      refine ifB_of (fun h6 => ?_) (fun h6 => ?_)
      · have := of_decide_eq_true h6; omega
      conv => whnf
      refine ⟨(6 - (i + 1)), [4, 7, 8, 9, 11, 12, 84, 85, 86], [0, 1, 2], [], by omega, rfl, ?_⟩
      conv => whnf
      refine ⟨i + 1, by omega, ?_⟩
      have e1 : IntKind.wrap .i64 ((i : Int) + 1) = ((i + 1 : Nat) : Int) := by rw [wrap_id (by omega) (by omega)]; rfl
      rw [← e1]
    · conv => whnf
      refine CallsF.call [] [] (Of_spec w h (mix (v0 :: vs) k d (vs.length + 1)) w' h' v' o x y) rfl rfl rfl rfl rfl (.inl rfl) ?_
      rw [of_mix hr x1 x2 y1 y2 hm (fun q hq => mix_get (by omega) (by omega)), hof]
      conv => whnf
      refine ⟨⟨[], rfl⟩, ?_⟩
      conv => whnf
      refine CallsF.call [] [] (Same_true fl 17 sg (by omega)) rfl rfl rfl rfl rfl (.inl rfl) ?_
      conv => whnf
      exact ⟨[], [], rfl, rfl⟩
end Go.Proofs.TryN

