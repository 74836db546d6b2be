/- Layer 36: components. -/
import Derived.Test.YthigehjpkpbmcaaAL29
import Derived.Test.YthigehjpkpbmcaaF36
import Derived.Test.YthigehjpkpbmcaaN36E
namespace Go.Proofs.TryN
open Go Go.AL Go.Proofs

/-- A band's bytes. -/
def compT (f d : Int) (a b : List Int) (m : Bool) (w h D k : Nat) : Int :=
  24 + coderN (bandN f d a b m (loL k) ((w / 2 ^ (D - (loL k - 1)) : Nat) : Int) ((h / 2 ^ (D - (loL k - 1)) : Nat) : Int))

def sumT (f d : Int) (a b : List Int) (m : Bool) (w h D : Nat) : Nat → Int
  | 0 => 0
  | k + 1 => sumT f d a b m w h D k + compT f d a b m w h D k

def compN (f d : Int) (a b : List Int) (m : Bool) (w h : Int) : Int :=
  if shapeR f d a b = true ∧ fitsB (padN w d) (padN h d) d = true then sumT f d a b m (padN w d).toNat (padN h d).toNat d.toNat (3 * d.toNat + 1) else 0

theorem coderN_le {n : Int} (h : n ≤ 2 ^ 27) : 0 ≤ coderN n ∧ coderN n ≤ 2 ^ 28 := by
  have := clamp40_in n
  have : clamp40 n ≤ 2 ^ 27 := by unfold clamp40; split <;> (try split) <;> omega
  unfold coderN; omega

theorem compT_in (f d : Int) (a b : List Int) (m : Bool) (w h D k : Nat) : 0 ≤ compT f d a b m w h D k ∧ compT f d a b m w h D k ≤ 2 ^ 29 := by
  have := coderN_le (bandN_in f d a b m (loL k) ((w / 2 ^ (D - (loL k - 1)) : Nat) : Int) ((h / 2 ^ (D - (loL k - 1)) : Nat) : Int)).2
  unfold compT; omega

theorem sumT_in (f d : Int) (a b : List Int) (m : Bool) (w h D : Nat) : ∀ k : Nat, 0 ≤ sumT f d a b m w h D k ∧ sumT f d a b m w h D k ≤ 2 ^ 29 * k
  | 0 => by simp [sumT]
  | k + 1 => by
    have h1 := sumT_in f d a b m w h D k
    have h2 := compT_in f d a b m w h D k
    rw [sumT]; push_cast; omega

theorem allX_get {w h d : Int} {k : Nat} {x : List AV} (hx : (allX w h d)[k]? = some x) : fitsB w h d = true ∧ k < 3 * d.toNat + 1 ∧ x = [iv k, .agg (bandK w.toNat h.toNat d.toNat k)] := by
  unfold allX at hx
  split at hx
  · rename_i hf
    simp only [bandX, List.getElem?_map, Option.map_eq_some_iff] at hx
    obtain ⟨q, hq, rfl⟩ := hx
    obtain ⟨h1, h2⟩ := List.getElem?_eq_some_iff.1 hq
    simp at h1 h2
    subst h2
    exact ⟨hf, h1, rfl⟩
  · simp at hx

set_option maxRecDepth 10000 in
theorem comp_spec (f d : Int) (a b : List Int) (m : Bool) (w h : Int) (ha : a.length = 7) (hb : b.length = 7) : CallsF Try.prog 34 [sh f d a b m, iv w, iv h] [] (iv (compN f d a b m w h)) [] := by
  obtain ⟨a0, a1, a2, a3, a4, a5, a6, rfl⟩ := len7 ha
  obtain ⟨b0, b1, b2, b3, b4, b5, b6, rfl⟩ := len7 hb
  refine e34 ?_
  conv => whnf
  refine CallsF.call [] [] (shape_spec f d _ _ m ha hb) rfl rfl rfl rfl rfl (.inl rfl) ?_
  conv => whnf
  refine ifB_of (fun h1 => ?_) (fun h1 => ?_)
  · conv => whnf
    exact ⟨[], [], rfl, congrArg iv (by rw [compN, if_neg (by simp at h1; simp [h1])]), rfl⟩
  have h1 : shapeR f d [a0, a1, a2, a3, a4, a5, a6] [b0, b1, b2, b3, b4, b5, b6] = true := by simpa using h1
  conv => whnf
  refine CallsF.call [] [] (padded_spec w d) rfl rfl rfl rfl rfl (.inl rfl) ?_
  conv => whnf
  refine ⟨⟨_, rfl⟩, ?_⟩
  conv => whnf
  refine CallsF.call [] [] (padded_spec h d) rfl rfl rfl rfl rfl (.inl rfl) ?_
  conv => whnf
  refine ⟨⟨_, rfl⟩, ?_⟩
  conv => whnf
  refine CallsF.call [] [] (all_spec _ _ _) rfl rfl rfl rfl rfl (.inl rfl) ?_
  conv => whnf
  refine ⟨[3, 7, 23], [0, 1], [], rfl, rfl, rfl, allX (padN w d) (padN h d) d, allX_spec _ _ _, ?_, ?_⟩
  · intro x hx
    obtain ⟨k, hk⟩ := List.mem_iff_getElem?.1 hx
    obtain ⟨_, _, rfl⟩ := allX_get hk
    rfl
  refine ⟨fun k hp => hp = [some (.box [iv f, iv d, iv a0, iv a1, iv a2, iv a3, iv a4, iv a5, iv a6, iv b0, iv b1, iv b2, iv b3, iv b4, iv b5, iv b6, .bool m]), some (.box [iv (sumT f d [a0, a1, a2, a3, a4, a5, a6] [b0, b1, b2, b3, b4, b5, b6] m (padN w d).toNat (padN h d).toNat d.toNat k)])], rfl, ?_, ?_⟩
  · rintro k x hp hx rfl
    obtain ⟨hf, hk, rfl⟩ := allX_get hx
    conv => whnf
    refine CallsF.call [] [] (band_spec f d _ _ m _ _ _ ha hb) rfl rfl rfl rfl rfl (.inl rfl) ?_
    conv => whnf
    refine ⟨⟨_, rfl⟩, ?_⟩
    conv => whnf
    refine CallsF.call [] [] (coder_spec _) rfl rfl rfl rfl rfl (.inl rfl) ?_
    conv => whnf
    refine ⟨⟨_, rfl⟩, ?_⟩
    conv => whnf
    have hk' : (k : Int) < 19 := by have := (fitsB_in hf).2.2; omega
    have s1 := sumT_in f d [a0, a1, a2, a3, a4, a5, a6] [b0, b1, b2, b3, b4, b5, b6] m (padN w d).toNat (padN h d).toNat d.toNat k
    have s2 := compT_in f d [a0, a1, a2, a3, a4, a5, a6] [b0, b1, b2, b3, b4, b5, b6] m (padN w d).toNat (padN h d).toNat d.toNat k
    have ew : IntKind.wrap .i64 (sumT f d [a0, a1, a2, a3, a4, a5, a6] [b0, b1, b2, b3, b4, b5, b6] m (padN w d).toNat (padN h d).toNat d.toNat k + IntKind.wrap .i64 (compT f d [a0, a1, a2, a3, a4, a5, a6] [b0, b1, b2, b3, b4, b5, b6] m (padN w d).toNat (padN h d).toNat d.toNat k)) =
        sumT f d [a0, a1, a2, a3, a4, a5, a6] [b0, b1, b2, b3, b4, b5, b6] m (padN w d).toNat (padN h d).toNat d.toNat (k + 1) := by
      rw [sumT, wrap_id (n := compT ..) (by omega) (by omega), wrap_id (by omega) (by omega)]
    refine ⟨[], [], rfl, ?_⟩
    refine Eq.trans (b := [some (.box [iv f, iv d, iv a0, iv a1, iv a2, iv a3, iv a4, iv a5, iv a6, iv b0, iv b1, iv b2, iv b3, iv b4, iv b5, iv b6, .bool m]), some (.box [iv (IntKind.wrap .i64 (sumT f d [a0, a1, a2, a3, a4, a5, a6] [b0, b1, b2, b3, b4, b5, b6] m (padN w d).toNat (padN h d).toNat d.toNat k + IntKind.wrap .i64 (compT f d [a0, a1, a2, a3, a4, a5, a6] [b0, b1, b2, b3, b4, b5, b6] m (padN w d).toNat (padN h d).toNat d.toNat k)))])]) rfl ?_
    rw [ew]
  · rintro hp rfl
    conv => whnf
    refine ⟨[], [], rfl, congrArg iv ?_, rfl⟩
    rw [compN]
    unfold allX
    by_cases hf : fitsB (padN w d) (padN h d) d = true
    · rw [if_pos hf, if_pos ⟨h1, hf⟩]; simp [bandX]
    · rw [if_neg hf, if_neg (fun h => hf h.2)]; rfl

set_option maxRecDepth 10000 in
theorem comp36_spec (f d : Int) (a b : List Int) (m : Bool) (w h : Int) (ha : a.length = 7) (hb : b.length = 7) : CallsF Try.prog 35 [sh f d a b m, iv w, iv h] [] (iv (compN f d a b m w h)) [] := by
  obtain ⟨a0, a1, a2, a3, a4, a5, a6, rfl⟩ := len7 ha
  obtain ⟨b0, b1, b2, b3, b4, b5, b6, rfl⟩ := len7 hb
  refine e35 ?_
  conv => whnf
  refine CallsF.call [] [] (shape15_spec f d _ _ m ha hb) rfl rfl rfl rfl rfl (.inl rfl) ?_
  conv => whnf
  refine ifB_of (fun h1 => ?_) (fun h1 => ?_)
  · conv => whnf
    exact ⟨[], [], rfl, congrArg iv (by rw [compN, if_neg (by simp at h1; simp [h1])]), rfl⟩
  have h1 : shapeR f d [a0, a1, a2, a3, a4, a5, a6] [b0, b1, b2, b3, b4, b5, b6] = true := by simpa using h1
  conv => whnf
  refine CallsF.call [] [] (padded09_spec w d) rfl rfl rfl rfl rfl (.inl rfl) ?_
  conv => whnf
  refine ⟨⟨_, rfl⟩, ?_⟩
  conv => whnf
  refine CallsF.call [] [] (padded09_spec h d) rfl rfl rfl rfl rfl (.inl rfl) ?_
  conv => whnf
  refine ⟨⟨_, rfl⟩, ?_⟩
  conv => whnf
  by_cases hf : fitsB (padN w d) (padN h d) d = true
  · obtain ⟨q1, q2, q3⟩ := fitsB_in hf
    have hC : compN f d [a0, a1, a2, a3, a4, a5, a6] [b0, b1, b2, b3, b4, b5, b6] m w h = sumT f d [a0, a1, a2, a3, a4, a5, a6] [b0, b1, b2, b3, b4, b5, b6] m (padN w d).toNat (padN h d).toNat d.toNat (3 * d.toNat + 1) := by rw [compN, if_pos ⟨h1, hf⟩]
    rw [hC]
    clear hC
    generalize padN w d = pw at *
    generalize padN h d = ph at *
    obtain ⟨W, rfl⟩ : ∃ W : Nat, pw = W := ⟨pw.toNat, by omega⟩
    obtain ⟨H, rfl⟩ : ∃ H : Nat, ph = H := ⟨ph.toNat, by omega⟩
    obtain ⟨D, rfl⟩ : ∃ D : Nat, d = D := ⟨d.toNat, by omega⟩
    simp only [Int.toNat_natCast]
    refine CallsF.call [] [] (list_yes D W H hf) rfl rfl rfl rfl rfl (.inl rfl) ?_
    conv => whnf
    obtain ⟨rows, hr⟩ : ∃ rows, listR W H D = rows := ⟨_, rfl⟩
    rw [hr]
    refine LoopA.inv (fun n st => ∃ i : Nat, n + i = 3 * D + 1 ∧ st = ⟨[(3, .bp 0 0), (7, iv (sumT f D [a0, a1, a2, a3, a4, a5, a6] [b0, b1, b2, b3, b4, b5, b6] m W H D i)), (23, .sl 1 0 (3 * D + 1)), (24, iv (3 * D + 1 : Nat)), (25, iv i)], [some (.box [iv f, iv D, iv a0, iv a1, iv a2, iv a3, iv a4, iv a5, iv a6, iv b0, iv b1, iv b2, iv b3, iv b4, iv b5, iv b6, .bool m]), some (.arr 6 rows)], 2, 0⟩) (3 * D + 1) [3, 7, 23, 24, 25] [0, 1] [] (by rfl) ?_ ?_
    · conv => whnf
      exact ⟨0, rfl, rfl⟩
    rintro n st ⟨i, hn, rfl⟩
    conv => whnf
    refine ifB_of (fun h2 => ?_) (fun h2 => ?_)
    · have h2 : i < 3 * D + 1 := by have := of_decide_eq_true h2; omega
      conv => whnf
      refine need_of ((decide_eq_true ⟨by omega, by omega⟩)) ?_
      conv => whnf
      have hrow : nth rows (0 + (i : Int).toNat) = some (bandR W H D (loL i) (loO i)) := by
        rw [Nat.zero_add, Int.toNat_natCast, nth_get, ← hr, listR, List.getElem?_map, List.getElem?_range h2]; rfl
      rw [aop_loadN_arr hrow rfl rfl rfl]
      conv => whnf
      refine CallsF.call [] [] (band36_spec f D _ _ m _ _ _ ha hb) rfl rfl rfl rfl rfl (.inl rfl) ?_
      conv => whnf
      refine CallsF.call [] [] (coder36_spec _) rfl rfl rfl rfl rfl (.inl rfl) ?_
      conv => whnf
      refine ⟨(3 * D + 1 - (i + 1)), [3, 7, 23, 24, 25], [0, 1], [], by omega, rfl, ?_⟩
      conv => whnf
      have s1 := sumT_in f D [a0, a1, a2, a3, a4, a5, a6] [b0, b1, b2, b3, b4, b5, b6] m W H D i
      have s2 := compT_in f D [a0, a1, a2, a3, a4, a5, a6] [b0, b1, b2, b3, b4, b5, b6] m W H D i
      have ew : IntKind.wrap .i64 (sumT f D [a0, a1, a2, a3, a4, a5, a6] [b0, b1, b2, b3, b4, b5, b6] m W H D i + IntKind.wrap .i64 (compT f D [a0, a1, a2, a3, a4, a5, a6] [b0, b1, b2, b3, b4, b5, b6] m W H D i)) =
        sumT f D [a0, a1, a2, a3, a4, a5, a6] [b0, b1, b2, b3, b4, b5, b6] m W H D (i + 1) := by
        rw [sumT, wrap_id (n := compT ..) (by omega) (by omega), wrap_id (by omega) (by omega)]
      refine ⟨i + 1, by omega, ?_⟩
      rw [inc_nat (by omega), ← ew]
      rfl
    · have h2 : ¬i < 3 * D + 1 := by have := of_decide_eq_false h2; omega
      conv => whnf
      obtain rfl : i = 3 * D + 1 := by omega
      exact ⟨[], [], rfl, rfl, rfl⟩
  · have hf : fitsB (padN w d) (padN h d) d = false := by simpa using hf
    refine CallsF.call [] [] (list_no _ _ _ hf) rfl rfl rfl rfl rfl (.inl rfl) ?_
    conv => whnf
    refine LoopA.unroll 1 [7, 24, 25] [] [] [] [] (by rfl) ?_
    conv => whnf
    exact ⟨[], [], rfl, congrArg iv (by rw [compN, if_neg (by rw [hf]; simp)]), rfl⟩
end Go.Proofs.TryN

