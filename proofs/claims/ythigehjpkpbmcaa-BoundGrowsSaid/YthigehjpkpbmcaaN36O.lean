/- Layer 36: settings, whole. -/
import Derived.Test.YthigehjpkpbmcaaAL29
import Derived.Test.YthigehjpkpbmcaaF36
import Derived.Test.YthigehjpkpbmcaaN36N
namespace Go.Proofs.TryN
open Go Go.AL Go.Proofs

structure Sett where
  (w h c b f d : Int) (a bs : List Int) (m : Bool) (lx ly sx sy pel r l p gp gb : Int) (gl ll : Bool) (q tg : Int)

def Sett.av (s : Sett) : AV :=
  .agg ([iv s.w, iv s.h, iv s.c, iv s.b, iv s.f, iv s.d] ++ (s.a.map iv ++ (s.bs.map iv ++ [.bool s.m, iv s.lx, iv s.ly, iv s.sx, iv s.sy, iv s.pel, iv s.r, iv s.l, iv s.p, iv s.gp, iv s.gb, .bool s.gl, .bool s.ll, iv s.q, iv s.tg])))

def Sett.ok (s : Sett) : Bool :=
  ((((videoR s.w s.h s.c s.b && (shapeR s.f s.d s.a s.bs && restB s.d.toNat s.a s.bs)) && (fitsH s.w s.h s.c s.lx s.ly s.sx s.sy s.pel && choiceB s.r s.l s.p)) && gopR s.gp s.gb) && inB s.q 0 60) && inB s.tg 0 1048576

theorem not_t {b : Bool} (h : (!b) = true) : b = false := by cases b <;> simp_all
theorem not_f {b : Bool} (h : (!b) = false) : b = true := by cases b <;> simp_all

set_option maxRecDepth 10000 in
theorem validate_spec (s : Sett) (ha : s.a.length = 7) (hb : s.bs.length = 7) : CallsF Try.prog 60 [s.av] [] (iv (if s.ok then 0 else 341)) [] := by
  obtain ⟨w, h, c, b, f, d, a, bs, m, lx, ly, sx, sy, pel, r, l, p, gp, gb, gl, ll, q, tg⟩ := s
  simp only at ha hb
  obtain ⟨a0, a1, a2, a3, a4, a5, a6, rfl⟩ := len7 ha
  obtain ⟨b0, b1, b2, b3, b4, b5, b6, rfl⟩ := len7 hb
  have no : ∀ x : Bool, x = false → iv 341 = iv (if x = true then 0 else 341) := fun x hx => by rw [hx]; rfl
  refine e60 ?_
  conv => whnf
  refine CallsF.call [] [] (video_spec w h c b) rfl rfl rfl rfl rfl (.inl rfl) ?_
  conv => whnf
  refine ifB_of (fun h1 => ?_) (fun h1 => ?_)
  · conv => whnf
    exact ⟨[], [], rfl, no _ (by simp only [Sett.ok]; rw [not_t h1]; rfl), rfl⟩
  have h1 := not_f h1
  rw [h1]
  conv => whnf
  refine CallsF.call [] [] (rshape_spec f d _ _ m ha hb) rfl rfl rfl rfl rfl (.inl rfl) ?_
  conv => whnf
  refine ifB_of (fun h2 => ?_) (fun h2 => ?_)
  · conv => whnf
    exact ⟨[], [], rfl, no _ (by simp only [Sett.ok]; rw [not_t h2, Bool.and_false]; rfl), rfl⟩
  have h2 := not_f h2
  rw [h2]
  conv => whnf
  refine CallsF.call [] [] (cfits_spec w h c b 1 lx ly sx sy pel r l p h1 (.inl rfl)) rfl rfl rfl rfl rfl (.inl rfl) ?_
  conv => whnf
  refine ifB_of (fun h3 => ?_) (fun h3 => ?_)
  · conv => whnf
    exact ⟨[], [], rfl, no _ (by simp only [Sett.ok]; rw [not_t h3, Bool.and_false]; rfl), rfl⟩
  have h3 := not_f h3
  rw [h3]
  conv => whnf
  refine CallsF.call [] [] (cfits_spec w h c b 2 lx ly sx sy pel r l p h1 (.inr rfl)) rfl rfl rfl rfl rfl (.inl rfl) ?_
  conv => whnf
  rw [h3]
  conv => whnf
  refine CallsF.call [] [] (gop_spec gp gb) rfl rfl rfl rfl rfl (.inl rfl) ?_
  conv => whnf
  refine ifB_of (fun h4 => ?_) (fun h4 => ?_)
  · conv => whnf
    exact ⟨[], [], rfl, no _ (by simp only [Sett.ok]; rw [not_t h4, Bool.and_false]; rfl), rfl⟩
  have h4 := not_f h4
  rw [h4]
  conv => whnf
  refine ifB_of (fun h5 => ?_) (fun h5 => ?_)
  · conv => whnf
    exact ⟨[], [], rfl, no _ (by simp only [Sett.ok]; have : q < 0 := of_decide_eq_true h5; rw [show inB q 0 60 = false by rw [inB, decide_eq_false (by omega)]; rfl, Bool.and_false]; rfl), rfl⟩
  conv => whnf
  refine ifB_of (fun h6 => ?_) (fun h6 => ?_)
  · conv => whnf
    exact ⟨[], [], rfl, no _ (by simp only [Sett.ok]; have : q > 60 := of_decide_eq_true h6; rw [show inB q 0 60 = false by rw [inB, decide_eq_false (p := q ≤ 60) (by omega), Bool.and_false], Bool.and_false]; rfl), rfl⟩
  conv => whnf
  refine ifB_of (fun h7 => ?_) (fun h7 => ?_)
  · conv => whnf
    exact ⟨[], [], rfl, no _ (by simp only [Sett.ok]; have : tg < 0 := of_decide_eq_true h7; rw [show inB tg 0 1048576 = false by rw [inB, decide_eq_false (by omega)]; rfl, Bool.and_false]), rfl⟩
  conv => whnf
  refine ifB_of (fun h8 => ?_) (fun h8 => ?_)
  · conv => whnf
    exact ⟨[], [], rfl, no _ (by simp only [Sett.ok]; have : tg > 1048576 := of_decide_eq_true h8; rw [show inB tg 0 1048576 = false by rw [inB, decide_eq_false (p := tg ≤ 1048576) (by omega), Bool.and_false], Bool.and_false]), rfl⟩
  conv => whnf
  refine ⟨[], [], rfl, congrArg iv ?_, rfl⟩
  have h5 : ¬q < 0 := of_decide_eq_false h5
  have h6 : ¬q > 60 := of_decide_eq_false h6
  have h7 : ¬tg < 0 := of_decide_eq_false h7
  have h8 : ¬tg > 1048576 := of_decide_eq_false h8
  have hok : Sett.ok ⟨w, h, c, b, f, d, [a0, a1, a2, a3, a4, a5, a6], [b0, b1, b2, b3, b4, b5, b6], m, lx, ly, sx, sy, pel, r, l, p, gp, gb, gl, ll, q, tg⟩ = true := by
    simp only [Sett.ok]
    rw [h1, h2, h3, h4, inB_iff.2 (show 0 ≤ q ∧ q ≤ 60 by omega), inB_iff.2 (show 0 ≤ tg ∧ tg ≤ 1048576 by omega)]; rfl
  rw [if_pos hok]

set_option maxRecDepth 10000 in
theorem right34_spec (s : Sett) (ha : s.a.length = 7) (hb : s.bs.length = 7) (hx : s.lx ≤ 9223372036854775807) (hy : s.ly ≤ 9223372036854775807) : CallsF Try.prog 63 [s.av] [] (.bool s.ok) [] := by
  obtain ⟨w, h, c, b, f, d, a, bs, m, lx, ly, sx, sy, pel, r, l, p, gp, gb, gl, ll, q, tg⟩ := s
  simp only at ha hb hx hy
  obtain ⟨a0, a1, a2, a3, a4, a5, a6, rfl⟩ := len7 ha
  obtain ⟨b0, b1, b2, b3, b4, b5, b6, rfl⟩ := len7 hb
  have no : ∀ x : Bool, x = false → AV.bool false = AV.bool x := fun x hx => by rw [hx]
  refine e63 ?_
  conv => whnf
  refine CallsF.call [] [] (video24_spec w h c b) rfl rfl rfl rfl rfl (.inl rfl) ?_
  conv => whnf
  refine ifB_of (fun h1 => ?_) (fun h1 => ?_)
  · conv => whnf
    exact ⟨[], [], rfl, no _ (by simp only [Sett.ok]; rw [not_t h1]; rfl), rfl⟩
  have h1 := not_f h1
  rw [h1]
  conv => whnf
  refine CallsF.call [] [] (shape15_spec f d _ _ m ha hb) rfl rfl rfl rfl rfl (.inl rfl) ?_
  conv => whnf
  refine ifB_of (fun h2 => ?_) (fun h2 => ?_)
  · conv => whnf
    exact ⟨[], [], rfl, no _ (by simp only [Sett.ok]; rw [not_t h2, Bool.false_and, Bool.and_false]; rfl), rfl⟩
  have h2 := not_f h2
  rw [h2]
  conv => whnf
  refine CallsF.call [] [] (fits31_spec w h c b 1 lx ly sx sy pel r l p h1 (.inl rfl) hx hy) rfl rfl rfl rfl rfl (.inl rfl) ?_
  conv => whnf
  refine ifB_of (fun h3 => ?_) (fun h3 => ?_)
  · conv => whnf
    exact ⟨[], [], rfl, no _ (by simp only [Sett.ok]; rw [not_t h3, Bool.and_false]; rfl), rfl⟩
  have h3 := not_f h3
  rw [h3]
  conv => whnf
  refine CallsF.call [] [] (fits31_spec w h c b 2 lx ly sx sy pel r l p h1 (.inr rfl) hx hy) rfl rfl rfl rfl rfl (.inl rfl) ?_
  conv => whnf
  rw [h3]
  conv => whnf
  refine CallsF.call [] [] (gop32_spec gp gb) rfl rfl rfl rfl rfl (.inl rfl) ?_
  conv => whnf
  refine ifB_of (fun h4 => ?_) (fun h4 => ?_)
  · conv => whnf
    exact ⟨[], [], rfl, no _ (by simp only [Sett.ok]; rw [not_t h4, Bool.and_false]; rfl), rfl⟩
  have h4 := not_f h4
  rw [h4]
  have hok : Sett.ok ⟨w, h, c, b, f, d, [a0, a1, a2, a3, a4, a5, a6], [b0, b1, b2, b3, b4, b5, b6], m, lx, ly, sx, sy, pel, r, l, p, gp, gb, gl, ll, q, tg⟩ = ((restB d.toNat [a0, a1, a2, a3, a4, a5, a6] [b0, b1, b2, b3, b4, b5, b6] && inB q 0 60) && inB tg 0 1048576) := by
    simp only [Sett.ok]
    rw [h1, h2, h3, h4]; simp
  rw [hok]
  clear hok no
  obtain ⟨_, hd, _⟩ := shapeR_in h2
  obtain ⟨D, rfl⟩ : ∃ D : Nat, d = D := ⟨d.toNat, by omega⟩
  rw [Int.toNat_natCast]
  conv => whnf
  rw [inc_nat (by omega)]
  refine LoopA.inv (fun n st => ∃ i : Nat, n + i = 7 ∧ 1 ≤ i ∧ restB D [a0, a1, a2, a3, a4, a5, a6] [b0, b1, b2, b3, b4, b5, b6] = (List.range' i n).all (okAt [a0, a1, a2, a3, a4, a5, a6] [b0, b1, b2, b3, b4, b5, b6]) ∧ st = ⟨[(1, .bp 0 0), (3, iv i)], [some (.box [iv w, iv h, iv c, iv b, iv f, iv D, iv a0, iv a1, iv a2, iv a3, iv a4, iv a5, iv a6, iv b0, iv b1, iv b2, iv b3, iv b4, iv b5, iv b6, .bool m, iv lx, iv ly, iv sx, iv sy, iv pel, iv r, iv l, iv p, iv gp, iv gb, .bool gl, .bool ll, iv q, iv tg])], 1, 0⟩) (6 - D) [1, 3] [0] [] (by rfl) ?_ ?_
  · conv => whnf
    exact ⟨D + 1, by omega, by omega, rfl, rfl⟩
  rintro n st ⟨i, hn, hi, hR, rfl⟩
  rw [hR]
  conv => whnf
  refine ifB_of (fun h5 => ?_) (fun h5 => ?_)
  · have hi' : i < 7 := by have := of_decide_eq_true h5; omega
    obtain ⟨n', rfl⟩ : ∃ n', n = n' + 1 := ⟨n - 1, by omega⟩
    rw [List.range'_succ, List.all_cons]
    have hc : i = 1 ∨ i = 2 ∨ i = 3 ∨ i = 4 ∨ i = 5 ∨ i = 6 := by omega
    rcases hc with rfl | rfl | rfl | rfl | rfl | rfl <;>
    (conv => whnf
     refine need_of (rfl) ?_
     conv => whnf
     refine ifB_of (fun h6 => ?_) (fun h6 => ?_)
     · conv => whnf
       refine ⟨[], [], rfl, congrArg AV.bool ?_, rfl⟩
       simp at h6; simp [okAt, h6]
     conv => whnf
     refine need_of (rfl) ?_
     conv => whnf
     refine ifB_of (fun h7 => ?_) (fun h7 => ?_)
     · conv => whnf
       refine ⟨[], [], rfl, congrArg AV.bool ?_, rfl⟩
       simp at h7; simp [okAt, h7]
     conv => whnf
     refine ⟨n', [1, 3], [0], [], by omega, rfl, ?_⟩
     conv => whnf
     refine ⟨_, ?_, ?_, ?_, by rw [inc_nat (by omega)]⟩
     · omega
     · omega
     · simp at h6 h7; simp [okAt, h6, h7])
  · have h5 := of_decide_eq_false h5
    obtain rfl : n = 0 := by omega
    conv => whnf
    iterate 3 (all_goals (try (refine ifB_of (fun _ => ?_) (fun _ => ?_))); all_goals (conv => whnf))
    all_goals (refine ⟨[], [], rfl, congrArg AV.bool ?_, rfl⟩; simp_all [inB] <;> omega)
end Go.Proofs.TryN

