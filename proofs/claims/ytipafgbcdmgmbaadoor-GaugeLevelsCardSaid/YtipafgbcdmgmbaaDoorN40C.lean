/- Layer 40: the document's gauge of two planes. -/
import Derived.Test.YtipafgbcdmgmbaaDoorN40B
namespace Go.Proofs.TrydN
open Go Go.AL Go.Proofs

theorem like_spec (w h : Int) (v : List Int) (w2 h2 : Int) (v2 : List Int) : CallsF Tryd.prog 32 [pl w h v, pl w2 h2 v2] [] (.bool (like w h v w2 h2 v2)) [] := by
  refine e32 ?_
  conv => whnf
  refine CallsF.call [] [] (right7_spec w h v) rfl rfl rfl rfl rfl (.inl rfl) ?_
  conv => whnf
  cases h1 : right w h v
  · conv => whnf
    exact ⟨[], [], rfl, by rw [like, h1]; rfl, rfl⟩
  conv => whnf
  refine CallsF.call [] [] (right7_spec w2 h2 v2) rfl rfl rfl rfl rfl (.inl rfl) ?_
  conv => whnf
  cases h2' : right w2 h2 v2
  · conv => whnf
    exact ⟨[], [], rfl, by rw [like, h1, h2']; rfl, rfl⟩
  conv => whnf
  cases h3 : (w == w2)
  · conv => whnf
    exact ⟨[], [], rfl, by rw [like, h1, h2', h3]; rfl, rfl⟩
  · conv => whnf
    exact ⟨[], [], rfl, by rw [like, h1, h2', h3]; rfl, rfl⟩

set_option maxRecDepth 10000 in
theorem rplanes_spec (w h : Int) (v : List Int) (w2 h2 : Int) (v2 : List Int) (hv : ∀ n ∈ v, okI n) (hv2 : ∀ n ∈ v2, okI n) :
    CallsF Tryd.prog 20 [pl w h v, pl w2 h2 v2] [] (gPl w h v w2 h2 v2).av [] := by
  refine e20 ?_
  conv => whnf
  refine CallsF.call [] [] (like_spec w h v w2 h2 v2) rfl rfl rfl rfl rfl (.inl rfl) ?_
  conv => whnf
  cases hl : like w h v w2 h2 v2
  · conv => whnf
    exact ⟨[], [], rfl, by rw [gPl, hl]; rfl, rfl⟩
  conv => whnf
  have hl' := hl
  simp only [like, Bool.and_eq_true, beq_iff_eq] at hl'
  obtain ⟨⟨⟨h1, h2'⟩, rfl⟩, rfl⟩ := hl'
  obtain ⟨a1, a2, a3, a4⟩ := right_in h1
  have hlen : v2.length = v.length := by
    have b := (right_in h2').2.2.2
    omega
  have hN : v.length ≤ 1048576 := by
    have b3 : w * h ≤ 1024 * 1024 := Int.mul_le_mul (by omega) (by omega) (by omega) (by omega)
    omega
  rw [gPl, if_pos hl]
  refine LoopA.inv (fun n st => ∃ i : Nat, n + i = v.length ∧ st = ⟨[(2, .bp 0 0), (3, .bp 1 0), (4, .bp 2 0), (5, .bp 3 0), (15, iv (v.length : Nat)), (16, iv i)], [some (.box [iv w, iv h, .ri .i64 v]), some (.box [iv w, iv h, .ri .i64 v2]), some (.box [iv 0, iv 0, iv 0, iv 0, iv 0]), some (.box [iv (gRow v v2 i).c, iv (gRow v v2 i).d, iv (gRow v v2 i).w, iv (gRow v v2 i).s, iv (gRow v v2 i).q])], 4, 0⟩) v.length [2, 3, 4, 5, 15, 16] [0, 1, 2, 3] [] (by rfl) ?_ ?_
  · conv => whnf
    exact ⟨0, rfl, rfl⟩
  rintro n st ⟨i, hn, rfl⟩
  have hg : gRow v v2 (i + 1) = (gRow v v2 i).join (G.one (far (v.getD i 0) (v2.getD i 0))) := rfl
  obtain ⟨g, hgg⟩ : ∃ g, gRow v v2 i = g := ⟨_, rfl⟩
  rw [hgg] at hg ⊢
  obtain ⟨g0, g1, g2, g3, g4⟩ := g
  conv => whnf
  refine ifB_of (fun h5 => ?_) (fun h5 => ?_)
  · have h5 : i < v.length := by have := of_decide_eq_true h5; omega
    conv => whnf
    refine need_of ((decide_eq_true ⟨Int.natCast_nonneg i, by omega⟩)) ?_
    conv => whnf
    refine need_of ((decide_eq_true ⟨Int.natCast_nonneg i, by omega⟩)) ?_
    conv => whnf
    refine CallsF.call [] [] (rfar_spec (v.getD i 0) (v2.getD i 0) (okI_at hv i) (okI_at hv2 i)) rfl rfl rfl rfl rfl (.inl rfl) ?_
    conv => whnf
    generalize far (v.getD i 0) (v2.getD i 0) = x at hg ⊢
    have e1 := inc_nat (n := i) (by omega)
    have hd0 := gRow_d v v2 i (by omega)
    rw [hgg] at hd0
    simp only at hd0
    refine ifB_of (fun h6 => ?_) (fun h6 => ?_)
    · have h6 : 0 < x := of_decide_eq_true h6
      have hd : (if 0 < x then 1 else 0 : Int) = 1 := if_pos h6
      conv => whnf
      refine ifB_of (fun h7 => ?_) (fun h7 => ?_)
      · have hm : max g2 x = x := by have h : x > g2 := of_decide_eq_true h7; omega
        conv => whnf
        refine ⟨(v.length - (i + 1)), [2, 3, 4, 5, 15, 16], [0, 1, 2, 3], [], by omega, rfl, ?_⟩
        conv => whnf
        refine ⟨i + 1, by omega, ?_⟩
        rw [e1, hg]; simp only [G.join, G.one, hm, hd]
      · have hm : max g2 x = g2 := by have h : ¬x > g2 := of_decide_eq_false h7; omega
        conv => whnf
        refine ⟨(v.length - (i + 1)), [2, 3, 4, 5, 15, 16], [0, 1, 2, 3], [], by omega, rfl, ?_⟩
        conv => whnf
        refine ⟨i + 1, by omega, ?_⟩
        rw [e1, hg]; simp only [G.join, G.one, hm, hd]
    · have h6 : ¬0 < x := of_decide_eq_false h6
      have hd : IntKind.wrap .i64 (g1 + if 0 < x then 1 else 0) = g1 := by rw [if_neg h6, wrap_id (by omega) (by omega)]; omega
      conv => whnf
      refine ifB_of (fun h7 => ?_) (fun h7 => ?_)
      · have hm : max g2 x = x := by have h : x > g2 := of_decide_eq_true h7; omega
        conv => whnf
        refine ⟨(v.length - (i + 1)), [2, 3, 4, 5, 15, 16], [0, 1, 2, 3], [], by omega, rfl, ?_⟩
        conv => whnf
        refine ⟨i + 1, by omega, ?_⟩
        rw [e1, hg]; simp only [G.join, G.one, hm, hd]
      · have hm : max g2 x = g2 := by have h : ¬x > g2 := of_decide_eq_false h7; omega
        conv => whnf
        refine ⟨(v.length - (i + 1)), [2, 3, 4, 5, 15, 16], [0, 1, 2, 3], [], by omega, rfl, ?_⟩
        conv => whnf
        refine ⟨i + 1, by omega, ?_⟩
        rw [e1, hg]; simp only [G.join, G.one, hm, hd]
  · have h5 : ¬i < v.length := by have := of_decide_eq_false h5; omega
    obtain rfl : i = v.length := by omega
    conv => whnf
    exact ⟨[], [], rfl, by rw [hgg]; rfl, rfl⟩

end Go.Proofs.TrydN

