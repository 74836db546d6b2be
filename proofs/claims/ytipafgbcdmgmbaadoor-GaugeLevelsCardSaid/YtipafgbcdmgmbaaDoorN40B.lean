/- Layer 40: the gauge of two planes: what each function answers, as contracts. -/
import Derived.Test.YtipafgbcdmgmbaaDoorN40A
namespace Go.Proofs.TrydN
open Go Go.AL Go.Proofs

theorem okI_at {v : List Int} (h : ∀ n ∈ v, okI n) (i : Nat) : okI (v.getD i 0) := by
  by_cases hi : i < v.length
  · rw [getD_at hi]; exact h _ (List.getElem_mem hi)
  · rw [List.getD_eq_getElem?_getD, List.getElem?_eq_none (by omega)]; unfold okI; exact ⟨by decide, by decide⟩

set_option maxRecDepth 10000 in
theorem planes_spec (w h : Int) (v : List Int) (w2 h2 : Int) (v2 : List Int) (hv : ∀ n ∈ v, okI n) (hv2 : ∀ n ∈ v2, okI n) :
    CallsF Tryd.prog 16 [pl w h v, pl w2 h2 v2] [] (gPl w h v w2 h2 v2).av [] := by
  refine e16 ?_
  conv => whnf
  refine CallsF.call [] [] (right_spec w h v) rfl rfl rfl rfl rfl (.inl rfl) ?_
  conv => whnf
  cases h1 : right w h v
  · conv => whnf
    exact ⟨[], [], rfl, by rw [gPl, like, h1]; rfl, rfl⟩
  conv => whnf
  refine CallsF.call [] [] (right_spec w2 h2 v2) rfl rfl rfl rfl rfl (.inl rfl) ?_
  conv => whnf
  cases h2' : right w2 h2 v2
  · conv => whnf
    exact ⟨[], [], rfl, by rw [gPl, like, h1, h2']; rfl, rfl⟩
  conv => whnf
  cases h3 : (w != w2)
  · conv => whnf
    cases h4 : (h != h2)
    · conv => whnf
      have hl : like w h v w2 h2 v2 = true := by rw [like, h1, h2', show (w == w2) = true by simpa using h3, show (h == h2) = true by simpa using h4]; rfl
      have hlen : v2.length = v.length := by
        have a := (right_in h1).2.2.2
        have b := (right_in h2').2.2.2
        obtain rfl : w = w2 := by simpa using h3
        obtain rfl : h = h2 := by simpa using h4
        omega
      have hN : v.length ≤ 1048576 := by
        obtain ⟨a1, a2, a3, a4⟩ := right_in h1
        have b3 : w * h ≤ 1024 * 1024 := Int.mul_le_mul (by omega) (by omega) (by omega) (by omega)
        omega
      rw [gPl, if_pos hl]
      refine LoopA.inv (fun n st => ∃ i : Nat, n + i = v.length ∧ st = ⟨[(2, .bp 0 0), (3, .bp 1 0), (4, .bp 2 0), (5, .bp 3 0), (34, .ri .i64 v), (35, iv (v.length : Nat)), (36, iv i)], [some (.box [iv w, iv h, .ri .i64 v]), some (.box [iv w2, iv h2, .ri .i64 v2]), some (.box [iv 0, iv 0, iv 0, iv 0, iv 0]), some (.box [iv (gRow v v2 i).c, iv (gRow v v2 i).d, iv (gRow v v2 i).w, iv (gRow v v2 i).s, iv (gRow v v2 i).q])], 4, 0⟩) v.length [2, 3, 4, 5, 34, 35, 36] [0, 1, 2, 3] [] (by rfl) ?_ ?_
      · conv => whnf
        exact ⟨0, rfl, rfl⟩
      rintro n st ⟨i, hn, rfl⟩
      have hg : gRow v v2 (i + 1) = (gRow v v2 i).join (G.one (far (v.getD i 0) (v2.getD i 0))) := rfl
      obtain ⟨g, hgg⟩ : ∃ g, gRow v v2 i = g := ⟨_, rfl⟩
      rw [hgg] at hg ⊢
      conv => whnf
      refine ifB_of (fun h5 => ?_) (fun h5 => ?_)
      · have h5 : i < v.length := by have := of_decide_eq_true h5; omega
        conv => whnf
        refine need_of ((decide_eq_true ⟨Int.natCast_nonneg i, by omega⟩)) ?_
        conv => whnf
        refine need_of ((decide_eq_true ⟨Int.natCast_nonneg i, by omega⟩)) ?_
        conv => whnf
        refine CallsF.call [] [] (apart_spec (v.getD i 0) (v2.getD i 0) (okI_at hv i) (okI_at hv2 i)) rfl rfl rfl rfl rfl (.inl rfl) ?_
        conv => whnf
        generalize far (v.getD i 0) (v2.getD i 0) = x at hg ⊢
        have e1 := inc_nat (n := i) (by omega)
        refine ifB_of (fun h6 => ?_) (fun h6 => ?_)
        · have h6 : 0 < x := of_decide_eq_true h6
          have ho : G.one x = ⟨1, 1, x, x, IntKind.wrap .i64 (x * x)⟩ := by rw [G.one, if_pos h6]
          conv => whnf
          refine CallsF.call [] [] (join_spec g ⟨1, 1, x, x, IntKind.wrap .i64 (x * x)⟩) rfl rfl rfl rfl rfl (.inl rfl) ?_
          conv => whnf
          refine ⟨(v.length - (i + 1)), [2, 3, 4, 5, 34, 35, 36], [0, 1, 2, 3], [], by omega, rfl, ?_⟩
          conv => whnf
          refine ⟨i + 1, by omega, ?_⟩
          rw [e1, hg, ho]
        · have h6 : ¬0 < x := of_decide_eq_false h6
          have ho : G.one x = ⟨1, 0, x, x, IntKind.wrap .i64 (x * x)⟩ := by rw [G.one, if_neg h6]
          conv => whnf
          refine CallsF.call [] [] (join_spec g ⟨1, 0, x, x, IntKind.wrap .i64 (x * x)⟩) rfl rfl rfl rfl rfl (.inl rfl) ?_
          conv => whnf
          refine ⟨(v.length - (i + 1)), [2, 3, 4, 5, 34, 35, 36], [0, 1, 2, 3], [], by omega, rfl, ?_⟩
          conv => whnf
          refine ⟨i + 1, by omega, ?_⟩
          rw [e1, hg, ho]
      · have h5 : ¬i < v.length := by have := of_decide_eq_false h5; omega
        obtain rfl : i = v.length := by omega
        conv => whnf
        exact ⟨[], [], rfl, by rw [hgg]; rfl, rfl⟩
    · conv => whnf
      exact ⟨[], [], rfl, by rw [gPl, like, h1, h2', show (h == h2) = false by simpa using h4]; simp; rfl, rfl⟩
  · conv => whnf
    exact ⟨[], [], rfl, by rw [gPl, like, h1, h2', show (w == w2) = false by simpa using h3]; rfl, rfl⟩

end Go.Proofs.TrydN

