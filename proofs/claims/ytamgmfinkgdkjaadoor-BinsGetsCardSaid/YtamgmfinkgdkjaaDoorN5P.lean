/- Layer 5: bits one behind another; lists held against each other. -/
import Derived.Test.YtamgmfinkgdkjaaDoorN5O
namespace Go.Proofs.TrydN
open Go Go.AL Go.Proofs

def encL (c : Int) (q : List (Int × Bool)) : Enc := q.foldl (fun e x => e.put x.1 x.2) (Enc.new c)
def decL (bs : List Int) (c : Int) (q : List (Int × Bool)) : Dec := q.foldl (fun d x => d.get x.1) (Dec.new bs c)
theorem encL_snoc (c : Int) (q : List (Int × Bool)) (x : Int × Bool) : encL c (q ++ [x]) = (encL c q).put x.1 x.2 := by simp [encL]
theorem decL_snoc (bs : List Int) (c : Int) (q : List (Int × Bool)) (x : Int × Bool) : decL bs c (q ++ [x]) = (decL bs c q).get x.1 := by simp [decL]

/-- Is there such a context? -/
def hasN (c k : Int) : Bool := decide (0 ≤ k) && decide (k < (ctxN c : Nat))

theorem list_snoc {α : Type} {motive : List α → Prop} (h0 : motive []) (h1 : ∀ q x, motive q → motive (q ++ [x])) (q : List α) : motive q := by
  have key : ∀ n, n ≤ q.length → motive (q.take n) := by
    intro n
    induction n with
    | zero => intro _; simpa using h0
    | succ n ih => intro hn; rw [List.take_succ_eq_append_getElem (by omega)]; exact h1 _ _ (ih (by omega))
  have := key q.length (Nat.le_refl _)
  rwa [List.take_length] at this

theorem encL_ok (c : Int) (q : List (Int × Bool)) : q.length < 67108000 → okE (encL c q) ∧ (encL c q).p.length = ctxN c ∧ (encL c q).n ≤ q.length := by
  refine list_snoc (motive := fun q => q.length < 67108000 → okE (encL c q) ∧ (encL c q).p.length = ctxN c ∧ (encL c q).n ≤ q.length) ?_ ?_ q
  · intro _
    exact ⟨newE_ok c, by simp [encL, Enc.new, freshP], by simp [encL, Enc.new]⟩
  · intro q x ih hl
    simp at hl
    obtain ⟨a1, a2, a3⟩ := ih (by omega)
    obtain ⟨b1, b2, b3⟩ := put_keep a1 (by omega) x.1 x.2
    rw [encL_snoc]
    refine ⟨b1, by rw [b2, a2], ?_⟩
    rw [b3]; simp; split <;> omega

theorem hasC_N {p : List Int} {c k : Int} (h : p.length = ctxN c) : hasC p k = hasN c k := by unfold hasC hasN; rw [h]

theorem encL_n (c : Int) (q : List (Int × Bool)) : q.length < 67108000 → (∀ x ∈ q, hasN c x.1 = true) → (encL c q).n = q.length := by
  refine list_snoc (motive := fun q => q.length < 67108000 → (∀ x ∈ q, hasN c x.1 = true) → (encL c q).n = q.length) ?_ ?_ q
  · intro _ _; simp [encL, Enc.new]
  · intro q x ih hl hx
    simp at hl
    obtain ⟨a1, a2, a3⟩ := encL_ok c q (by omega)
    have hn := ih (by omega) fun y hy => hx y (by simp [hy])
    obtain ⟨b1, b2, b3⟩ := put_keep a1 (by omega) x.1 x.2
    rw [encL_snoc, b3, hn, hasC_N a2, hx x (by simp)]; simp

theorem decL_ok {bs : List Int} (h : okB bs) (hb : bs.length < 4294967290) (c : Int) (q : List (Int × Bool)) : q.length < 67108000 → okD (decL bs c q) ∧ (decL bs c q).p.length = ctxN c ∧ (decL bs c q).n ≤ q.length ∧ ((∀ x ∈ q, hasN c x.1 = true) → (decL bs c q).n = q.length) := by
  refine list_snoc (motive := fun q => q.length < 67108000 → okD (decL bs c q) ∧ (decL bs c q).p.length = ctxN c ∧ (decL bs c q).n ≤ q.length ∧ ((∀ x ∈ q, hasN c x.1 = true) → (decL bs c q).n = q.length)) ?_ ?_ q
  · intro _
    exact ⟨newD_ok h hb c, by simp [decL, Dec.new, freshP], by simp [decL, Dec.new], fun _ => by simp [decL, Dec.new]⟩
  · intro q x ih hl
    simp at hl
    obtain ⟨a1, a2, a3, a4⟩ := ih (by omega)
    obtain ⟨b1, b2, b3⟩ := get_keep a1 (by omega) x.1
    rw [decL_snoc]
    refine ⟨b1, by rw [b2, a2], ?_, fun hx => ?_⟩
    · rw [b3]; simp; split <;> omega
    · rw [b3, a4 (fun y hy => hx y (by simp [hy])), hasC_N a2, hx x (by simp)]; simp

theorem fits_put {X : Nat → Bool} {e : Enc} (h : okE e) {c : Int} {b : Bool} (hf : (e.put c b).fits X) : e.fits X := by
  cases hc : hasC e.p c
  · unfold Enc.put at hf; rw [hc] at hf; exact hf
  have hS := h.s
  have hq := hS.chance hc
  have kp := partN_in h.big (by have := hS.top; have := hS.l0; omega) hq
  have hS2 := hS.take h.big hc b
  have hput : e.put c b = (e.take c b).norm 16 := by unfold Enc.put; rw [hc]
  rw [hput] at hf
  obtain ⟨f1, f2⟩ := fits_norm 16 hS2 hf
  cases b <;> simp only [Enc.take, Enc.A, Enc.m, lowT, sizeT] at f1 f2 <;> simp only [Enc.fits, Enc.A, Enc.m] <;> exact ⟨by omega, by omega⟩

theorem fits_take {X : Nat → Bool} {c : Int} {q : List (Int × Bool)} (hq : q.length < 67108000) (hf : (encL c q).fits X) : ∀ k j, j + k = q.length → (encL c (q.take j)).fits X
  | 0, j, hj => by rw [List.take_of_length_le (by omega)]; exact hf
  | k + 1, j, hj => by
    have ih := fits_take hq hf k (j + 1) (by omega)
    rw [List.take_succ_eq_append_getElem (by omega), encL_snoc] at ih
    exact fits_put (encL_ok c (q.take j) (by simp; omega)).1 ih

/-- **What is put is told again.** -/
theorem told_all {bs : List Int} {X : Nat → Bool} (hX : ∀ i, rdB bs i = X i) {c : Int} {q : List (Int × Bool)} (hq : q.length < 67108000) (hc : ∀ x ∈ q, hasN c x.1 = true) (hf : (encL c q).fits X) :
    ∀ j, j ≤ q.length → Mir X (encL c (q.take j)) (decL bs c (q.take j)) ∧ ∀ h : j < q.length, (decL bs c (q.take j)).told q[j].1 = q[j].2 := by
  have step : ∀ j (h : j < q.length), Mir X (encL c (q.take j)) (decL bs c (q.take j)) → (decL bs c (q.take j)).told q[j].1 = q[j].2 ∧ Mir X (encL c (q.take (j + 1))) (decL bs c (q.take (j + 1))) := by
    intro j h M
    have e1 := encL_ok c (q.take j) (by simp; omega)
    have hcj : hasC (encL c (q.take j)).p q[j].1 = true := by rw [hasC_N e1.2.1]; exact hc _ (List.getElem_mem _)
    have hfj := fits_take hq hf (q.length - (j + 1)) (j + 1) (by omega)
    rw [List.take_succ_eq_append_getElem h, encL_snoc] at hfj
    have := mir_put e1.1 M hcj hfj
    rw [List.take_succ_eq_append_getElem h, encL_snoc, decL_snoc]
    exact ⟨this.2.1, this.2.2⟩
  intro j
  induction j with
  | zero => intro hj; exact ⟨new_mir hX c, fun h => (step 0 h (new_mir hX c)).1⟩
  | succ j ih =>
    intro hj
    have M := (step j (by omega) (ih (by omega)).1).2
    exact ⟨M, fun h => (step (j + 1) h M).1⟩

theorem same_spec (a b : List Int) (ha : a.length < 4294967296) : CallsF Tryd.prog 18 [.ri .i64 a, .ri .i64 b] [] (.bool (decide (a = b))) [] := by
  refine e18 ?_
  conv => whnf
  cases hl : ((a.length : Int) != (b.length : Int))
  · have hl2 : a.length = b.length := by
      have : (a.length : Int) = b.length := by simpa using hl
      omega
    conv => whnf
    refine LoopA.inv (fun k st => ∃ i : Nat, i + k = a.length ∧ a.take i = b.take i ∧ st = ⟨[(0, .ri .i64 a), (1, .ri .i64 b), (12, iv a.length), (13, iv i)], [], 0, 0⟩) a.length [0, 1, 12, 13] [] [] (by rfl) ?_ ?_
    · conv => whnf
      exact ⟨0, by omega, by simp, rfl⟩
    rintro k st ⟨i, hi, he, rfl⟩
    conv => whnf
    refine ifB_of (fun hd => ?_) (fun hd => ?_)
    · have hd : i < a.length := by have := of_decide_eq_true hd; omega
      conv => whnf
      refine need_of ((decide_eq_true ⟨by omega, by omega⟩)) ?_
      conv => whnf
      refine need_of ((decide_eq_true ⟨by omega, by omega⟩)) ?_
      conv => whnf
      rw [Int.toNat_natCast]
      have ga : a.getD i 0 = a[i] := by simp [List.getD, List.getElem?_eq_getElem hd]
      have gb : b.getD i 0 = b[i]'(by omega) := by simp [List.getD, List.getElem?_eq_getElem (show i < b.length by omega)]
      cases hz : (a.getD i 0 != b.getD i 0)
      · have hz : a.getD i 0 = b.getD i 0 := by simpa using hz
        conv => whnf
        rw [inc_nat (by omega)]
        refine ⟨(a.length - (i + 1)), [0, 1, 12, 13], [], [], by omega, rfl, ?_⟩
        conv => whnf
        refine ⟨i + 1, by omega, ?_, rfl⟩
        rw [List.take_succ_eq_append_getElem hd, List.take_succ_eq_append_getElem (show i < b.length by omega), he, ← ga, ← gb, hz]
      · have hz : ¬a.getD i 0 = b.getD i 0 := by simpa using hz
        conv => whnf
        refine ⟨[], [], rfl, congrArg AV.bool ?_, rfl⟩
        exact (decide_eq_false fun h => hz (by rw [h])).symm
    · have hd := of_decide_eq_false hd
      obtain rfl : i = a.length := by omega
      conv => whnf
      refine ⟨[], [], rfl, congrArg AV.bool ?_, rfl⟩
      rw [List.take_length, List.take_of_length_le (by omega)] at he
      exact (decide_eq_true he).symm
  · have hl2 : ¬a.length = b.length := by
      have : ¬(a.length : Int) = b.length := by simpa using hl
      omega
    conv => whnf
    refine ⟨[], [], rfl, congrArg AV.bool ?_, rfl⟩
    exact (decide_eq_false fun h => hl2 (by rw [h])).symm

end Go.Proofs.TrydN

