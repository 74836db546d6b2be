/- Layer 36: shapes, coders, bands, motion: what each function answers, as contracts. -/
import Derived.Test.YthigehjpkpbmcaaAL27
import Derived.Test.YthigehjpkpbmcaaF36
namespace Go.Proofs.TryN
open Go Go.AL Go.Proofs

/-- A shape, as it is handed over. -/
def sh (f d : Int) (a b : List Int) (m : Bool) : AV := .agg (iv f :: iv d :: (a.map iv ++ (b.map iv ++ [.bool m])))

theorem len7 {a : List Int} (h : a.length = 7) : ∃ a0 a1 a2 a3 a4 a5 a6, a = [a0, a1, a2, a3, a4, a5, a6] := by
  match a, h with
  | [a0, a1, a2, a3, a4, a5, a6], _ => exact ⟨a0, a1, a2, a3, a4, a5, a6, rfl⟩

def partB (n : Int) : Bool := decide (1 ≤ n) && decide (n ≤ 64)

theorem parts_spec (n : Int) : CallsF Try.prog 74 [iv n] [] (.bool (partB n)) [] := by
  refine e74 ?_
  conv => whnf
  iterate 1 (all_goals (try (refine ifB_of (fun _ => ?_) (fun _ => ?_))); all_goals (conv => whnf))
  all_goals (refine ⟨[], [], rfl, congrArg AV.bool ?_, rfl⟩; simp_all [partB] <;> omega)

theorem liftR_spec (n : Int) : CallsF Try.prog 73 [iv n] [] (.bool (decide (0 ≤ n) && decide (n ≤ 4))) [] := by
  refine e73 ?_
  conv => whnf
  iterate 1 (all_goals (try (refine ifB_of (fun _ => ?_) (fun _ => ?_))); all_goals (conv => whnf))
  all_goals (refine ⟨[], [], rfl, congrArg AV.bool ?_, rfl⟩; simp_all <;> omega)

/-- The parts of the levels below. -/
def partsTo (a b : List Int) (n : Nat) : Bool := (List.range n).all fun l => partB (a.getD l 0) && partB (b.getD l 0)
def shapeR (f d : Int) (a b : List Int) : Bool := ((decide (0 ≤ f) && decide (f ≤ 4)) && (decide (0 ≤ d) && decide (d ≤ 6))) && partsTo a b (d.toNat + 1)

theorem partsTo_succ {a b : List Int} {n : Nat} : partsTo a b (n + 1) = (partsTo a b n && (partB (a.getD n 0) && partB (b.getD n 0))) := by
  simp [partsTo, List.range_succ, List.all_append]

theorem partsTo_no {a b : List Int} {n m : Nat} (h : n < m) (hf : (partB (a.getD n 0) && partB (b.getD n 0)) = false) : partsTo a b m = false := by
  rw [partsTo, List.all_eq_false]
  exact ⟨n, List.mem_range.2 h, by rw [hf]; simp⟩

set_option maxRecDepth 10000 in
theorem shape_spec (f d : Int) (a b : List Int) (m : Bool) (ha : a.length = 7) (hb : b.length = 7) : CallsF Try.prog 53 [sh f d a b m] [] (.bool (shapeR f d a b)) [] := by
  obtain ⟨a0, a1, a2, a3, a4, a5, a6, rfl⟩ := len7 ha
  obtain ⟨b0, b1, b2, b3, b4, b5, b6, rfl⟩ := len7 hb
  refine e53 ?_
  conv => whnf
  refine CallsF.call [] [] (liftR_spec f) rfl rfl rfl rfl rfl (.inl rfl) ?_
  conv => whnf
  iterate 3 (all_goals (try (refine ifB_of (fun _ => ?_) (fun _ => ?_))); all_goals (conv => whnf))
  case refine_1 | refine_2.refine_1 | refine_2.refine_2.refine_1 => all_goals (refine ⟨[], [], rfl, congrArg AV.bool ?_, rfl⟩; simp_all [shapeR] <;> omega)
  rename_i h1 h2 h3
  have hd : 0 ≤ d ∧ d ≤ 6 := by simp at h2 h3; omega
  have hf : (decide (0 ≤ f) && decide (f ≤ 4)) = true := by simpa using h1
  obtain ⟨D, rfl⟩ : ∃ D : Nat, d = D := ⟨d.toNat, by omega⟩
  have e0 : IntKind.wrap .i64 ((D : Int) + 1) = ((D + 1 : Nat) : Int) := by rw [wrap_id (by omega) (by omega)]; rfl
  have hs : shapeR f D [a0, a1, a2, a3, a4, a5, a6] [b0, b1, b2, b3, b4, b5, b6] = partsTo [a0, a1, a2, a3, a4, a5, a6] [b0, b1, b2, b3, b4, b5, b6] (D + 1) := by
    rw [shapeR, hf, decide_eq_true (by omega : (0 : Int) ≤ D), decide_eq_true (by omega : (D : Int) ≤ 6)]; simp
  rw [e0]
  refine LoopA.inv (fun n st => ∃ i : Nat, n + i = D + 1 ∧ partsTo [a0, a1, a2, a3, a4, a5, a6] [b0, b1, b2, b3, b4, b5, b6] i = true ∧ st = ⟨[(1, .bp 0 0), (20, iv ((D + 1 : Nat) : Int)), (21, iv i)], [some (.box [iv f, iv D, iv a0, iv a1, iv a2, iv a3, iv a4, iv a5, iv a6, iv b0, iv b1, iv b2, iv b3, iv b4, iv b5, iv b6, .bool m])], 1, 0⟩) (D + 1) [1, 20, 21] [0] [] (by rfl) ?_ ?_
  · conv => whnf
    exact ⟨0, rfl, rfl, rfl⟩
  rintro n st ⟨i, hn, hp, rfl⟩
  conv => whnf
  refine ifB_of (fun h4 => ?_) (fun h4 => ?_)
  · have hi : i < D + 1 := by have := of_decide_eq_true h4; omega
    have e1 : IntKind.wrap .i64 ((i : Int) + 1) = ((i + 1 : Nat) : Int) := by rw [wrap_id (by omega) (by omega)]; rfl
    have hc : i = 0 ∨ i = 1 ∨ i = 2 ∨ i = 3 ∨ i = 4 ∨ i = 5 ∨ i = 6 := by omega
    rcases hc with rfl | rfl | rfl | rfl | rfl | rfl | rfl <;>
    (conv => whnf
     refine need_of (rfl) ?_
     conv => whnf
     refine CallsF.call [] [] (parts_spec _) rfl rfl rfl rfl rfl (.inl rfl) ?_
     conv => whnf
     refine ifB_of (fun h5 => ?_) (fun h5 => ?_)
     · conv => whnf
       refine ⟨[], [], rfl, congrArg AV.bool ?_, rfl⟩
       rw [hs, partsTo_no hi (by simp_all)]
     conv => whnf
     refine need_of (rfl) ?_
     conv => whnf
     refine CallsF.call [] [] (parts_spec _) rfl rfl rfl rfl rfl (.inl rfl) ?_
     conv => whnf
     refine ifB_of (fun h6 => ?_) (fun h6 => ?_)
     · conv => whnf
       refine ⟨[], [], rfl, congrArg AV.bool ?_, rfl⟩
       rw [hs, partsTo_no hi (by simp_all)]
     conv => whnf
     refine ⟨n - 1, [1, 20, 21], [0], [], by omega, rfl, ?_⟩
     conv => whnf
     refine ⟨_, ?_, ?_, by rw [e1]⟩
     · omega
     · rw [partsTo_succ, hp]; simp_all)
  · conv => whnf
    refine ⟨[], [], rfl, congrArg AV.bool ?_, rfl⟩
    have : i = D + 1 := by have := of_decide_eq_false h4; omega
    subst this
    rw [hs, hp]

theorem shape15_spec (f d : Int) (a b : List Int) (m : Bool) (ha : a.length = 7) (hb : b.length = 7) : CallsF Try.prog 55 [sh f d a b m] [] (.bool (shapeR f d a b)) [] := by
  obtain ⟨a0, a1, a2, a3, a4, a5, a6, rfl⟩ := len7 ha
  obtain ⟨b0, b1, b2, b3, b4, b5, b6, rfl⟩ := len7 hb
  refine e55 ?_
  conv => whnf
  iterate 4 (all_goals (try (refine ifB_of (fun _ => ?_) (fun _ => ?_))); all_goals (conv => whnf))
  case refine_1 | refine_2.refine_1 | refine_2.refine_2.refine_1 | refine_2.refine_2.refine_2.refine_1 => all_goals (refine ⟨[], [], rfl, congrArg AV.bool ?_, rfl⟩; simp_all [shapeR] <;> omega)
  rename_i h1 h1' h2 h3
  have hd : 0 ≤ d ∧ d ≤ 6 := by simp at h2 h3; omega
  have hf : (decide (0 ≤ f) && decide (f ≤ 4)) = true := by simp at h1 h1' ⊢; omega
  obtain ⟨D, rfl⟩ : ∃ D : Nat, d = D := ⟨d.toNat, by omega⟩
  have hs : shapeR f D [a0, a1, a2, a3, a4, a5, a6] [b0, b1, b2, b3, b4, b5, b6] = partsTo [a0, a1, a2, a3, a4, a5, a6] [b0, b1, b2, b3, b4, b5, b6] (D + 1) := by
    rw [shapeR, hf, decide_eq_true (by omega : (0 : Int) ≤ D), decide_eq_true (by omega : (D : Int) ≤ 6)]; simp
  refine LoopA.inv (fun n st => ∃ i : Nat, n + i = D + 1 ∧ partsTo [a0, a1, a2, a3, a4, a5, a6] [b0, b1, b2, b3, b4, b5, b6] i = true ∧ st = ⟨[(1, .bp 0 0), (3, iv i)], [some (.box [iv f, iv D, iv a0, iv a1, iv a2, iv a3, iv a4, iv a5, iv a6, iv b0, iv b1, iv b2, iv b3, iv b4, iv b5, iv b6, .bool m])], 1, 0⟩) (D + 1) [1, 3] [0] [] (by rfl) ?_ ?_
  · conv => whnf
    exact ⟨0, rfl, rfl, rfl⟩
  rintro n st ⟨i, hn, hp, rfl⟩
  conv => whnf
  refine ifB_of (fun h4 => ?_) (fun h4 => ?_)
  · have hi : i < D + 1 := by have := of_decide_eq_true h4; omega
    have e1 : IntKind.wrap .i64 ((i : Int) + 1) = ((i + 1 : Nat) : Int) := by rw [wrap_id (by omega) (by omega)]; rfl
    have hc : i = 0 ∨ i = 1 ∨ i = 2 ∨ i = 3 ∨ i = 4 ∨ i = 5 ∨ i = 6 := by omega
    have no : ∀ {P : Prop} [Decidable P], (partB ([a0, a1, a2, a3, a4, a5, a6].getD i 0) && partB ([b0, b1, b2, b3, b4, b5, b6].getD i 0)) = false → false = shapeR f D [a0, a1, a2, a3, a4, a5, a6] [b0, b1, b2, b3, b4, b5, b6] := fun h => by rw [hs, partsTo_no hi h]
    rcases hc with rfl | rfl | rfl | rfl | rfl | rfl | rfl <;>
    (conv => whnf
     refine need_of (rfl) ?_
     conv => whnf
     refine ifB_of (fun h5 => ?_) (fun h5 => ?_)
     · conv => whnf
       refine ⟨[], [], rfl, congrArg AV.bool ?_, rfl⟩
       rw [hs, partsTo_no hi (by simp [partB]; simp at h5; omega)]
     conv => whnf
     refine need_of (rfl) ?_
     conv => whnf
     refine ifB_of (fun h6 => ?_) (fun h6 => ?_)
     · conv => whnf
       refine ⟨[], [], rfl, congrArg AV.bool ?_, rfl⟩
       rw [hs, partsTo_no hi (by simp [partB]; simp at h6; omega)]
     conv => whnf
     refine need_of (rfl) ?_
     conv => whnf
     refine ifB_of (fun h7 => ?_) (fun h7 => ?_)
     · conv => whnf
       refine ⟨[], [], rfl, congrArg AV.bool ?_, rfl⟩
       rw [hs, partsTo_no hi (by simp [partB]; simp at h7; omega)]
     conv => whnf
     refine need_of (rfl) ?_
     conv => whnf
     refine ifB_of (fun h8 => ?_) (fun h8 => ?_)
     · conv => whnf
       refine ⟨[], [], rfl, congrArg AV.bool ?_, rfl⟩
       rw [hs, partsTo_no hi (by simp [partB]; simp at h8; omega)]
     conv => whnf
     refine ⟨n - 1, [1, 3], [0], [], by omega, rfl, ?_⟩
     conv => whnf
     refine ⟨_, ?_, ?_, by rw [e1]⟩
     · omega
     · rw [partsTo_succ, hp]; simp [partB]; simp at h5 h6 h7 h8; omega)
  · conv => whnf
    refine ⟨[], [], rfl, congrArg AV.bool ?_, rfl⟩
    have : i = D + 1 := by have := of_decide_eq_false h4; omega
    subst this
    rw [hs, hp]

/-! ### Coders -/
def clamp40 (n : Int) : Int := if n < 0 then 0 else if 1099511627776 < n then 1099511627776 else n
def coderN (n : Int) : Int := (9 * clamp40 n + 7) / 8 + 4

theorem clamp40_in (n : Int) : 0 ≤ clamp40 n ∧ clamp40 n ≤ 1099511627776 := by unfold clamp40; split <;> (try split) <;> omega
theorem coderN_in (n : Int) : 0 ≤ coderN n ∧ coderN n ≤ 2 ^ 41 := by have := clamp40_in n; unfold coderN; omega

theorem coder_spec (n : Int) : CallsF Try.prog 30 [iv n] [] (iv (coderN n)) [] := by
  refine e30 ?_
  conv => whnf
  have hm : (if (1099511627776 : Int) < (if (0 : Int) > n then 0 else n) then 1099511627776 else (if (0 : Int) > n then 0 else n)) = clamp40 n := by unfold clamp40; split <;> split <;> (try split) <;> omega
  have hc := clamp40_in n
  refine ⟨[], [], rfl, congrArg iv ?_, rfl⟩
  show IntKind.wrap .i64 (IntKind.wrap .i64 ((IntKind.wrap .i64 (IntKind.wrap .i64 (IntKind.wrap .i64 (9 * _) + 8) - 1)).tdiv 8) + 4) = _
  rw [hm, wrap_id (n := 9 * clamp40 n) (by omega) (by omega), wrap_id (n := 9 * clamp40 n + 8) (by omega) (by omega), wrap_id (n := 9 * clamp40 n + 8 - 1) (by omega) (by omega),
    Int.tdiv_eq_ediv_of_nonneg (by omega), wrap_id (n := (9 * clamp40 n + 8 - 1) / 8) (by omega) (by omega), wrap_id (by omega) (by omega), coderN]
  omega

theorem up_spec (n : Int) (h0 : 0 ≤ n) (h1 : n ≤ 2 ^ 50) : CallsF Try.prog 52 [iv n, iv 8] [] (iv ((n + 7) / 8)) [] := by
  refine e52 ?_
  conv => whnf
  refine need_of (rfl) ?_
  conv => whnf
  have e : IntKind.wrap .i64 (n.tdiv 8) = n / 8 := by rw [Int.tdiv_eq_ediv_of_nonneg h0, wrap_id (by omega) (by omega)]
  rw [e]
  have e2 : IntKind.wrap .i64 (n / 8 * 8) = n / 8 * 8 := wrap_id (by omega) (by omega)
  rw [e2]
  refine ifB_of (fun h => ?_) (fun h => ?_)
  · conv => whnf
    refine ⟨[], [], rfl, congrArg iv ?_, rfl⟩
    simp at h
    rw [wrap_id (by omega) (by omega)]; omega
  · conv => whnf
    refine ⟨[], [], rfl, congrArg iv ?_, rfl⟩
    simp at h
    omega

theorem coder36_spec (n : Int) : CallsF Try.prog 31 [iv n] [] (iv (coderN n)) [] := by
  refine e31 ?_
  conv => whnf
  have hc := clamp40_in n
  have fin : ∀ m : Int, m = clamp40 n → CallsF Try.prog 52 [iv (IntKind.wrap .i64 (9 * m)), iv 8] [] (iv ((9 * clamp40 n + 7) / 8)) [] := by
    rintro m rfl
    have := up_spec (9 * clamp40 n) (by omega) (by omega)
    rwa [wrap_id (by omega) (by omega)]
  have fin2 : IntKind.wrap .i64 ((9 * clamp40 n + 7) / 8 + 4) = coderN n := by rw [wrap_id (by omega) (by omega), coderN]
  refine ifB_of (fun h1 => ?_) (fun h1 => ?_)
  · conv => whnf
    refine CallsF.call [] [] (fin 0 (by simp at h1; unfold clamp40; omega)) rfl rfl rfl rfl rfl (.inl rfl) ?_
    conv => whnf
    exact ⟨[], [], rfl, congrArg iv fin2, rfl⟩
  conv => whnf
  refine ifB_of (fun h2 => ?_) (fun h2 => ?_)
  · conv => whnf
    refine CallsF.call [] [] (fin 1099511627776 (by simp at h1 h2; unfold clamp40; omega)) rfl rfl rfl rfl rfl (.inl rfl) ?_
    conv => whnf
    exact ⟨[], [], rfl, congrArg iv fin2, rfl⟩
  conv => whnf
  refine CallsF.call [] [] (fin n (by simp at h1 h2; unfold clamp40; omega)) rfl rfl rfl rfl rfl (.inl rfl) ?_
  conv => whnf
  exact ⟨[], [], rfl, congrArg iv fin2, rfl⟩

def sideB (n : Int) : Bool := decide (1 ≤ n) && decide (n ≤ 1024)

theorem bside_spec (n : Int) : CallsF Try.prog 54 [iv n] [] (.bool (sideB n)) [] := by
  refine e54 ?_
  conv => whnf
  iterate 1 (all_goals (try (refine ifB_of (fun _ => ?_) (fun _ => ?_))); all_goals (conv => whnf))
  all_goals (refine ⟨[], [], rfl, congrArg AV.bool ?_, rfl⟩; simp_all [sideB] <;> omega)

/-- The bits of a band. -/
def bandN (f d : Int) (a b : List Int) (m : Bool) (l w h : Int) : Int :=
  if shapeR f d a b = true ∧ 0 ≤ l ∧ l ≤ d ∧ sideB w = true ∧ sideB h = true then 82 * w * h + (if m then 83 else 1) * (a.getD l.toNat 0 * b.getD l.toNat 0) else 0

theorem shapeR_in {f d : Int} {a b : List Int} (h : shapeR f d a b = true) : (0 ≤ f ∧ f ≤ 4) ∧ (0 ≤ d ∧ d ≤ 6) ∧ ∀ l : Nat, (l : Int) ≤ d → (1 ≤ a.getD l 0 ∧ a.getD l 0 ≤ 64) ∧ (1 ≤ b.getD l 0 ∧ b.getD l 0 ≤ 64) := by
  simp only [shapeR, partsTo, partB, Bool.and_eq_true, decide_eq_true_eq, List.all_eq_true, List.mem_range] at h
  obtain ⟨⟨h1, h2⟩, h3⟩ := h
  exact ⟨h1, h2, fun l hl => h3 l (by omega)⟩

theorem band_terms {w h x y : Int} (hw : 1 ≤ w ∧ w ≤ 1024) (hh : 1 ≤ h ∧ h ≤ 1024) (hx : 1 ≤ x ∧ x ≤ 64) (hy : 1 ≤ y ∧ y ≤ 64) :
    (0 ≤ w * h ∧ w * h ≤ 1048576) ∧ (0 ≤ x * y ∧ x * y ≤ 4096) := by
  have a1 : 0 ≤ w * h := Int.mul_nonneg (by omega) (by omega)
  have a2 : w * h ≤ 1024 * 1024 := Int.mul_le_mul (by omega) (by omega) (by omega) (by omega)
  have b1 : 0 ≤ x * y := Int.mul_nonneg (by omega) (by omega)
  have b2 : x * y ≤ 64 * 64 := Int.mul_le_mul (by omega) (by omega) (by omega) (by omega)
  omega

theorem bandN_in (f d : Int) (a b : List Int) (m : Bool) (l w h : Int) : 0 ≤ bandN f d a b m l w h ∧ bandN f d a b m l w h ≤ 2 ^ 27 := by
  unfold bandN
  split
  · rename_i hh
    obtain ⟨h1, h2, h3, h4, h5⟩ := hh
    obtain ⟨_, _, g3⟩ := shapeR_in h1
    obtain ⟨g4, g5⟩ := g3 l.toNat (by omega)
    simp only [sideB, Bool.and_eq_true, decide_eq_true_eq] at h4 h5
    obtain ⟨t1, t2⟩ := band_terms h4 h5 g4 g5
    have e : 82 * w * h = 82 * (w * h) := by rw [Int.mul_assoc]
    rw [e]
    generalize a.getD l.toNat 0 * b.getD l.toNat 0 = q at *
    cases m <;> simp <;> omega
  · omega

set_option maxRecDepth 10000 in
theorem band_spec (f d : Int) (a b : List Int) (m : Bool) (l w h : Int) (ha : a.length = 7) (hb : b.length = 7) : CallsF Try.prog 32 [sh f d a b m, iv l, iv w, iv h] [] (iv (bandN f d a b m l w h)) [] := by
  obtain ⟨a0, a1, a2, a3, a4, a5, a6, rfl⟩ := len7 ha
  obtain ⟨b0, b1, b2, b3, b4, b5, b6, rfl⟩ := len7 hb
  have no : ¬(shapeR f d [a0, a1, a2, a3, a4, a5, a6] [b0, b1, b2, b3, b4, b5, b6] = true ∧ 0 ≤ l ∧ l ≤ d ∧ sideB w = true ∧ sideB h = true) → iv 0 = iv (bandN f d [a0, a1, a2, a3, a4, a5, a6] [b0, b1, b2, b3, b4, b5, b6] m l w h) := fun hn => by rw [bandN, if_neg hn]
  refine e32 ?_
  conv => whnf
  refine CallsF.call [] [] (shape_spec f d _ _ m ha hb) rfl rfl rfl rfl rfl (.inl rfl) ?_
  conv => whnf
  refine ifB_of (fun h1 => ?_) (fun h1 => ?_)
  · conv => whnf
    exact ⟨[], [], rfl, no (by simp at h1; simp [h1]), rfl⟩
  conv => whnf
  refine ifB_of (fun h2 => ?_) (fun h2 => ?_)
  · conv => whnf
    exact ⟨[], [], rfl, no (by simp at h2; omega), rfl⟩
  conv => whnf
  refine ifB_of (fun h3 => ?_) (fun h3 => ?_)
  · conv => whnf
    exact ⟨[], [], rfl, no (by simp at h3; omega), rfl⟩
  conv => whnf
  refine CallsF.call [] [] (bside_spec w) rfl rfl rfl rfl rfl (.inl rfl) ?_
  conv => whnf
  refine ifB_of (fun h4 => ?_) (fun h4 => ?_)
  · conv => whnf
    exact ⟨[], [], rfl, no (by simp at h4; simp [h4]), rfl⟩
  conv => whnf
  refine CallsF.call [] [] (bside_spec h) rfl rfl rfl rfl rfl (.inl rfl) ?_
  conv => whnf
  refine ifB_of (fun h5 => ?_) (fun h5 => ?_)
  · conv => whnf
    exact ⟨[], [], rfl, no (by simp at h5; simp [h5]), rfl⟩
  conv => whnf
  have hc : shapeR f d [a0, a1, a2, a3, a4, a5, a6] [b0, b1, b2, b3, b4, b5, b6] = true ∧ 0 ≤ l ∧ l ≤ d ∧ sideB w = true ∧ sideB h = true := by simp at h1 h2 h3 h4 h5; exact ⟨h1, h2, h3, h4, h5⟩
  have hB : bandN f d [a0, a1, a2, a3, a4, a5, a6] [b0, b1, b2, b3, b4, b5, b6] m l w h = 82 * w * h + (if m then 83 else 1) * ([a0, a1, a2, a3, a4, a5, a6].getD l.toNat 0 * [b0, b1, b2, b3, b4, b5, b6].getD l.toNat 0) := by rw [bandN, if_pos hc]
  obtain ⟨c1, c2, c3, c4, c5⟩ := hc
  obtain ⟨_, g2, g3⟩ := shapeR_in c1
  obtain ⟨g4, g5⟩ := g3 l.toNat (by omega)
  simp only [sideB, Bool.and_eq_true, decide_eq_true_eq] at c4 c5
  obtain ⟨t1, t2⟩ := band_terms c4 c5 g4 g5
  have em : ∀ x y : Int, 0 ≤ x * y → x * y ≤ 4096 → 1 ≤ x ∧ x ≤ 64 → IntKind.wrap .i64 (IntKind.wrap .i64 (IntKind.wrap .i64 (82 * w) * h) + IntKind.wrap .i64 (IntKind.wrap .i64 ((if m then 83 else 1) * x) * y)) = 82 * w * h + (if m then 83 else 1) * (x * y) := by
    intro x y k1 k2 k3
    have e1 : 82 * w * h = 82 * (w * h) := by rw [Int.mul_assoc]
    have e2 : (if m then (83 : Int) else 1) * x * y = (if m then 83 else 1) * (x * y) := by rw [Int.mul_assoc]
    have e3 : IntKind.wrap .i64 (82 * w) = 82 * w := wrap_id (by omega) (by omega)
    have e4 : IntKind.wrap .i64 ((if m then 83 else 1) * x) = (if m then 83 else 1) * x := wrap_id (by split <;> omega) (by split <;> omega)
    rw [e3, e4, e1, e2]
    generalize x * y = q at *
    generalize w * h = p at *
    rw [wrap_id (n := 82 * p) (by omega) (by omega), wrap_id (n := (if m then 83 else 1) * q) (by split <;> omega) (by split <;> omega), wrap_id (by split <;> omega) (by split <;> omega)]
  obtain ⟨q, rfl⟩ : ∃ q : Nat, l = q := ⟨l.toNat, by omega⟩
  have hq : q = 0 ∨ q = 1 ∨ q = 2 ∨ q = 3 ∨ q = 4 ∨ q = 5 ∨ q = 6 := by omega
  have fin : ∀ x y : Int, x = [a0, a1, a2, a3, a4, a5, a6].getD (q : Int).toNat 0 → y = [b0, b1, b2, b3, b4, b5, b6].getD (q : Int).toNat 0 →
      iv (IntKind.wrap .i64 (IntKind.wrap .i64 (IntKind.wrap .i64 (82 * w) * h) + IntKind.wrap .i64 (IntKind.wrap .i64 ((if m then 83 else 1) * x) * y))) = iv (bandN f d [a0, a1, a2, a3, a4, a5, a6] [b0, b1, b2, b3, b4, b5, b6] m q w h) := by
    rintro x y rfl rfl
    rw [hB, em _ _ t2.1 t2.2 g4]
  cases m <;> rcases hq with rfl | rfl | rfl | rfl | rfl | rfl | rfl <;>
  (conv => whnf
   refine need_of rfl ?_
   conv => whnf
   refine need_of rfl ?_
   conv => whnf
   exact ⟨[], [], rfl, fin _ _ rfl rfl, rfl⟩)

end Go.Proofs.TryN

