/- Layer 40: gauges of frames, and the frame of three planes of one number each. -/
import Derived.Test.YtipafgbcdmgmbaaDoorN40E
namespace Go.Proofs.TrydN
open Go Go.AL Go.Proofs

structure Pl where
  w : Int
  h : Int
  v : List Int
def Pl.ok (p : Pl) : Prop := ∀ n ∈ p.v, okI n
/-- A frame. -/
def fr (a b c : Pl) : AV := .agg [iv a.w, iv a.h, .ri .i64 a.v, iv b.w, iv b.h, .ri .i64 b.v, iv c.w, iv c.h, .ri .i64 c.v]
def gP (p q : Pl) : G := gPl p.w p.h p.v q.w q.h q.v
def gF (a b c a' b' c' : Pl) : G := ((G.zero.join (gP a a')).join (gP b b')).join (gP c c')

set_option maxHeartbeats 4000000 in
set_option maxRecDepth 10000 in
theorem frames_spec (a b c a' b' c' : Pl) (ha : a.ok) (hb : b.ok) (hc : c.ok) (ha' : a'.ok) (hb' : b'.ok) (hc' : c'.ok) :
    CallsF Tryd.prog 19 [fr a b c, fr a' b' c'] [] (gF a b c a' b' c').av [] := by
  have k0 := planes_spec a.w a.h a.v a'.w a'.h a'.v ha ha'
  have k1 := planes_spec b.w b.h b.v b'.w b'.h b'.v hb hb'
  have k2 := planes_spec c.w c.h c.v c'.w c'.h c'.v hc hc'
  obtain ⟨x, hx⟩ : ∃ x, gP a a' = x := ⟨_, rfl⟩
  obtain ⟨y, hy⟩ : ∃ x, gP b b' = x := ⟨_, rfl⟩
  obtain ⟨z, hz⟩ : ∃ x, gP c c' = x := ⟨_, rfl⟩
  rw [gF, hx, hy, hz]
  rw [show gPl a.w a.h a.v a'.w a'.h a'.v = x from hx] at k0
  rw [show gPl b.w b.h b.v b'.w b'.h b'.v = y from hy] at k1
  rw [show gPl c.w c.h c.v c'.w c'.h c'.v = z from hz] at k2
  have j0 := join_spec G.zero x
  obtain ⟨s, hs⟩ : ∃ s, G.zero.join x = s := ⟨_, rfl⟩
  rw [hs] at j0 ⊢
  have j1 := join_spec s y
  obtain ⟨u, hu⟩ : ∃ s', s.join y = s' := ⟨_, rfl⟩
  rw [hu] at j1 ⊢
  have j2 := join_spec u z
  obtain ⟨q, hq⟩ : ∃ s', u.join z = s' := ⟨_, rfl⟩
  rw [hq] at j2 ⊢
  refine e19 ?_
  conv => whnf
  refine LoopA.steps 4 [2, 3, 4, 5, 9, 10] [0, 1, 2, 3] [] (by rfl) ?_
  conv => whnf
  refine CallsF.call [] [] k0 rfl rfl rfl rfl rfl (.inl rfl) ?_
  conv => whnf
  refine ⟨.inl ⟨_, rfl⟩, ?_⟩
  conv => whnf
  refine CallsF.call [] [] j0 rfl rfl rfl rfl rfl (.inl rfl) ?_
  conv => whnf
  refine pt_of [2, 3, 4, 5, 9, 10] [0, 1, 2, 3] [] (by rfl) ?_
  conv => whnf
  refine CallsF.call [] [] k1 rfl rfl rfl rfl rfl (.inl rfl) ?_
  conv => whnf
  refine ⟨.inl ⟨_, rfl⟩, ?_⟩
  conv => whnf
  refine CallsF.call [] [] j1 rfl rfl rfl rfl rfl (.inl rfl) ?_
  conv => whnf
  refine pt_of [2, 3, 4, 5, 9, 10] [0, 1, 2, 3] [] (by rfl) ?_
  conv => whnf
  refine CallsF.call [] [] k2 rfl rfl rfl rfl rfl (.inl rfl) ?_
  conv => whnf
  refine ⟨.inl ⟨_, rfl⟩, ?_⟩
  conv => whnf
  refine CallsF.call [] [] j2 rfl rfl rfl rfl rfl (.inl rfl) ?_
  conv => whnf
  refine pt_of [2, 3, 4, 5, 9, 10] [0, 1, 2, 3] [] (by rfl) ?_
  conv => whnf
  exact ⟨[], [], rfl, rfl, rfl⟩

/-- The cells of a frame of numbers from n on, when i planes are made. -/
def oneC (n : Int) : Nat → List AV
  | 0 => [iv 0, iv 0, .snil, iv 0, iv 0, .snil, iv 0, iv 0, .snil]
  | 1 => [iv 1, iv 1, .ri .i64 [n], iv 0, iv 0, .snil, iv 0, iv 0, .snil]
  | 2 => [iv 1, iv 1, .ri .i64 [n], iv 1, iv 1, .ri .i64 [n + 1], iv 0, iv 0, .snil]
  | _ => [iv 1, iv 1, .ri .i64 [n], iv 1, iv 1, .ri .i64 [n + 1], iv 1, iv 1, .ri .i64 [n + 2]]

set_option maxHeartbeats 4000000 in
set_option maxRecDepth 10000 in
theorem one_spec (n : Nat) (hn : n < 1000) : CallsF Tryd.prog 24 [iv n] [] (fr ⟨1, 1, [(n : Int)]⟩ ⟨1, 1, [(n : Int) + 1]⟩ ⟨1, 1, [(n : Int) + 2]⟩) [] := by
  have e0 : IntKind.wrap .i64 ((n : Int) + ((0 : Nat) : Int)) = n := by rw [wrap_id (by omega) (by omega)]; omega
  have e1 : IntKind.wrap .i64 ((n : Int) + ((1 : Nat) : Int)) = (n : Int) + 1 := wrap_id (by omega) (by omega)
  have e2 : IntKind.wrap .i64 ((n : Int) + ((2 : Nat) : Int)) = (n : Int) + 2 := wrap_id (by omega) (by omega)
  refine e24 ?_
  conv => whnf
  refine LoopA.inv (fun k st => ∃ i : Nat, k + i = 3 ∧ st = ⟨[(0, iv n), (2, .bp 0 0), (3, .bp 1 0), (5, iv i)], [some (.box (oneC n 0)), some (.box (oneC n i))], 2, 0⟩) 3 [0, 2, 3, 5] [0, 1] [] (by rfl) ?_ ?_
  · conv => whnf
    exact ⟨0, rfl, rfl⟩
  rintro k st ⟨i, hk, rfl⟩
  rcases (by omega : i = 0 ∨ i = 1 ∨ i = 2 ∨ i = 3) with rfl | rfl | rfl | rfl
  · conv => whnf
    refine ⟨2, [0, 2, 3, 5], [0, 1], [2], by omega, rfl, ?_⟩
    conv => whnf
    refine ⟨1, by omega, ?_⟩
    rw [e0]; rfl
  · conv => whnf
    refine ⟨1, [0, 2, 3, 5], [0, 1], [2], by omega, rfl, ?_⟩
    conv => whnf
    refine ⟨2, by omega, ?_⟩
    rw [e1]; rfl
  · conv => whnf
    refine ⟨0, [0, 2, 3, 5], [0, 1], [2], by omega, rfl, ?_⟩
    conv => whnf
    refine ⟨3, by omega, ?_⟩
    rw [e2]; rfl
  · conv => whnf
    exact ⟨[], [], rfl, rfl, rfl⟩

/-- The document's: the first two, and the third. -/
theorem rframes_spec (a b c a' b' c' : Pl) (ha : a.ok) (hb : b.ok) (hc : c.ok) (ha' : a'.ok) (hb' : b'.ok) (hc' : c'.ok) :
    CallsF Tryd.prog 18 [fr a b c, fr a' b' c'] [] (((gP a a').join (gP b b')).join (gP c c')).av [] := by
  have k0 := rplanes_spec a.w a.h a.v a'.w a'.h a'.v ha ha'
  have k1 := rplanes_spec b.w b.h b.v b'.w b'.h b'.v hb hb'
  have k2 := rplanes_spec c.w c.h c.v c'.w c'.h c'.v hc hc'
  obtain ⟨x, hx⟩ : ∃ x, gP a a' = x := ⟨_, rfl⟩
  obtain ⟨y, hy⟩ : ∃ x, gP b b' = x := ⟨_, rfl⟩
  obtain ⟨z, hz⟩ : ∃ x, gP c c' = x := ⟨_, rfl⟩
  rw [hx, hy, hz]
  rw [show gPl a.w a.h a.v a'.w a'.h a'.v = x from hx] at k0
  rw [show gPl b.w b.h b.v b'.w b'.h b'.v = y from hy] at k1
  rw [show gPl c.w c.h c.v c'.w c'.h c'.v = z from hz] at k2
  have j1 := both_spec x y
  obtain ⟨u, hu⟩ : ∃ s', x.join y = s' := ⟨_, rfl⟩
  rw [hu] at j1 ⊢
  have j2 := both_spec u z
  obtain ⟨q, hq⟩ : ∃ s', u.join z = s' := ⟨_, rfl⟩
  rw [hq] at j2 ⊢
  refine e18 ?_
  conv => whnf
  refine CallsF.call [] [] k0 rfl rfl rfl rfl rfl (.inl rfl) ?_
  conv => whnf
  refine ⟨.inl ⟨_, rfl⟩, ?_⟩
  conv => whnf
  refine CallsF.call [] [] k1 rfl rfl rfl rfl rfl (.inl rfl) ?_
  conv => whnf
  refine ⟨.inl ⟨_, rfl⟩, ?_⟩
  conv => whnf
  refine CallsF.call [] [] j1 rfl rfl rfl rfl rfl (.inl rfl) ?_
  conv => whnf
  refine ⟨.inl ⟨_, rfl⟩, ?_⟩
  conv => whnf
  refine CallsF.call [] [] k2 rfl rfl rfl rfl rfl (.inl rfl) ?_
  conv => whnf
  refine CallsF.call [] [] j2 rfl rfl rfl rfl rfl (.inl rfl) ?_
  conv => whnf
  exact ⟨[], [], rfl, rfl, rfl⟩

end Go.Proofs.TrydN

