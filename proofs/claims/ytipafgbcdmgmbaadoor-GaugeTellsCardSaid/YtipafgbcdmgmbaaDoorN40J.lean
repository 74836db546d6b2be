/- Layer 40: the gauges of films. -/
import Derived.Test.YtipafgbcdmgmbaaDoorN40I
namespace Go.Proofs.TrydN
open Go Go.AL Go.Proofs

theorem inc_nat2 {n : Nat} (h : n + 1 ≤ 9223372036854775807) : IntKind.wrap .i64 ((n : Int) + 1) = ((n + 1 : Nat) : Int) := by rw [wrap_id (by omega) (by omega)]; rfl

theorem wrap_okI (n : Int) : okI (IntKind.wrap .i64 n) := by
  unfold okI IntKind.wrap; simp [IntKind.bits, IntKind.signed]; omega

structure G.In (g : G) : Prop where
  c : okI g.c
  d : okI g.d
  w : 0 ≤ g.w
  s : okI g.s
  q : okI g.q

theorem G.zero_in : G.zero.In := ⟨⟨by decide, by decide⟩, ⟨by decide, by decide⟩, by decide, ⟨by decide, by decide⟩, ⟨by decide, by decide⟩⟩
theorem G.join_in {a b : G} (ha : a.In) : (a.join b).In :=
  ⟨wrap_okI _, wrap_okI _, by have := ha.w; simp only [G.join]; omega, wrap_okI _, wrap_okI _⟩
theorem G.zero_join {g : G} (h : g.In) : G.zero.join g = g := by
  obtain ⟨h1, h2, h3, h4, h5⟩ := h
  obtain ⟨c, d, w, s, q⟩ := g
  unfold okI at h1 h2 h4 h5
  simp only [G.join, G.zero, Int.zero_add] at *
  rw [wrap_id h1.1 h1.2, wrap_id h2.1 h2.2, wrap_id h4.1 h4.2, wrap_id h5.1 h5.2, show max 0 w = w by omega]
theorem gRow_in (p q : List Int) : ∀ n, (gRow p q n).In
  | 0 => G.zero_in
  | n + 1 => G.join_in (gRow_in p q n)
theorem gP_in (p q : Pl) : (gP p q).In := by
  unfold gP gPl
  split
  · exact gRow_in _ _ _
  · exact G.zero_in

/-- A frame. -/
structure Fr where
  a : Pl
  b : Pl
  c : Pl
instance : Inhabited Fr := ⟨⟨⟨0, 0, []⟩, ⟨0, 0, []⟩, ⟨0, 0, []⟩⟩⟩
def Fr.row (f : Fr) : List AV := [iv f.a.w, iv f.a.h, .ri .i64 f.a.v, iv f.b.w, iv f.b.h, .ri .i64 f.b.v, iv f.c.w, iv f.c.h, .ri .i64 f.c.v]
def Fr.ok (f : Fr) : Prop := f.a.ok ∧ f.b.ok ∧ f.c.ok
/-- The gauge of two frames. -/
def gFr (f g : Fr) : G := ((gP f.a g.a).join (gP f.b g.b)).join (gP f.c g.c)
theorem gFr_eq (f g : Fr) : gF f.a f.b f.c g.a g.b g.c = gFr f g := by rw [gF, gFr, G.zero_join (gP_in _ _)]
theorem gP_comm (p q : Pl) : gP p q = gP q p := by unfold gP; exact gPl_comm _ _ _ _ _ _
theorem gFr_comm (f g : Fr) : gFr f g = gFr g f := by rw [gFr, gFr, gP_comm f.a, gP_comm f.b, gP_comm f.c]
/-- The gauge of the first frames of two films. -/
def films (fs gs : List Fr) : Nat → G
  | 0 => G.zero
  | n + 1 => (films fs gs n).join (gFr (fs.getD n default) (gs.getD n default))
theorem films_comm (fs gs : List Fr) : ∀ n, films fs gs n = films gs fs n
  | 0 => rfl
  | n + 1 => by rw [films, films, films_comm fs gs n, gFr_comm]

theorem row_at {fs : List Fr} {rows : List (List AV)} (hr : fs.map Fr.row = rows) {i : Nat} (h : i < fs.length) : nth rows (i : Int).toNat = some (fs.getD i default).row := by
  rw [Int.toNat_natCast, nth_get, ← hr, List.getElem?_map, List.getD_eq_getElem?_getD, List.getElem?_eq_getElem h]; rfl
theorem ok_at {fs : List Fr} (ho : ∀ f ∈ fs, f.ok) {i : Nat} (h : i < fs.length) : (fs.getD i default).ok := by
  rw [List.getD_eq_getElem?_getD, List.getElem?_eq_getElem h]; exact ho _ (List.getElem_mem h)
theorem min_cast (a b : Nat) : (if (b : Int) < (a : Int) then (b : Int) else (a : Int)) = ((min a b : Nat) : Int) := by split <;> omega

theorem frames2_spec (f g : Fr) (hf : f.ok) (hg : g.ok) : CallsF Tryd.prog 19 [.agg f.row, .agg g.row] [] (gFr f g).av [] := by
  rw [← gFr_eq]
  exact frames_spec f.a f.b f.c g.a g.b g.c hf.1 hf.2.1 hf.2.2 hg.1 hg.2.1 hg.2.2
theorem rframes2_spec (f g : Fr) (hf : f.ok) (hg : g.ok) : CallsF Tryd.prog 18 [.agg f.row, .agg g.row] [] (gFr f g).av [] :=
  rframes_spec f.a f.b f.c g.a g.b g.c hf.1 hf.2.1 hf.2.2 hg.1 hg.2.1 hg.2.2

set_option maxHeartbeats 4000000 in
set_option maxRecDepth 10000 in
theorem films_spec (fs gs : List Fr) (hl : fs.length ≤ 9223372036854775807) (hf : ∀ f ∈ fs, f.ok) (hg : ∀ f ∈ gs, f.ok) :
    CallsF Tryd.prog 22 [.ro 9 (fs.map Fr.row), .ro 9 (gs.map Fr.row)] [] (films fs gs (min fs.length gs.length)).av [] := by
  obtain ⟨A, hA⟩ : ∃ rows, fs.map Fr.row = rows := ⟨_, rfl⟩
  obtain ⟨B, hB⟩ : ∃ rows, gs.map Fr.row = rows := ⟨_, rfl⟩
  have hAl : A.length = fs.length := by rw [← hA, List.length_map]
  have hBl : B.length = gs.length := by rw [← hB, List.length_map]
  rw [hA, hB]
  obtain ⟨M, hM⟩ : ∃ M, min fs.length gs.length = M := ⟨_, rfl⟩
  rw [hM]
  have hMi : (if ((B.length : Nat) : Int) < ((A.length : Nat) : Int) then ((B.length : Nat) : Int) else ((A.length : Nat) : Int)) = (M : Int) := by rw [min_cast, hAl, hBl, hM]
  refine e22 ?_
  conv => whnf
  rw [hMi]
  refine LoopA.inv (fun n st => ∃ i : Nat, n + i = M ∧ st = ⟨[(0, .ro 9 A), (1, .ro 9 B), (4, .bp 0 0), (5, .bp 1 0), (11, iv M), (12, iv i)], [some (.box [iv 0, iv 0, iv 0, iv 0, iv 0]), some (.box [iv (films fs gs i).c, iv (films fs gs i).d, iv (films fs gs i).w, iv (films fs gs i).s, iv (films fs gs i).q])], 2, 0⟩) M [0, 1, 4, 5, 11, 12] [0, 1] [] (by rfl) ?_ ?_
  · conv => whnf
    exact ⟨0, rfl, rfl⟩
  rintro n st ⟨i, hn, rfl⟩
  have hs : films fs gs (i + 1) = (films fs gs i).join (gFr (fs.getD i default) (gs.getD i default)) := rfl
  obtain ⟨g, hgg⟩ : ∃ g, films fs gs i = g := ⟨_, rfl⟩
  rw [hgg] at hs ⊢
  conv => whnf
  refine ifB_of (fun h5 => ?_) (fun h5 => ?_)
  · have h5 : i < M := by have := of_decide_eq_true h5; omega
    have e1 := inc_nat2 (n := i) (by omega)
    have k0 := frames2_spec _ _ (ok_at hf (i := i) (by omega)) (ok_at hg (i := i) (by omega))
    have r0 := row_at hA (i := i) (by omega)
    have r1 := row_at hB (i := i) (by omega)
    generalize fs.getD i default = f at *
    generalize gs.getD i default = f2 at *
    have j := join_spec g (gFr f f2)
    generalize gFr f f2 = x at *
    obtain ⟨u, hu⟩ : ∃ u, g.join x = u := ⟨_, rfl⟩
    rw [hu] at j hs
    conv => whnf
    rw [aop_idxS_ro r0 rfl rfl]
    conv => whnf
    rw [aop_idxS_ro r1 rfl rfl]
    conv => whnf
    refine CallsF.call [] [] k0 rfl rfl rfl rfl rfl (.inl rfl) ?_
    conv => whnf
    refine ⟨.inl ⟨_, rfl⟩, ?_⟩
    conv => whnf
    refine CallsF.call [] [] j rfl rfl rfl rfl rfl (.inl rfl) ?_
    conv => whnf
    refine ⟨(M - (i + 1)), [0, 1, 4, 5, 11, 12], [0, 1], [], by omega, rfl, ?_⟩
    conv => whnf
    refine ⟨i + 1, by omega, ?_⟩
    rw [e1, hs]
  · have h5 : ¬i < M := by have := of_decide_eq_false h5; omega
    obtain rfl : i = M := by omega
    conv => whnf
    exact ⟨[], [], rfl, by rw [hgg]; rfl, rfl⟩

end Go.Proofs.TrydN

