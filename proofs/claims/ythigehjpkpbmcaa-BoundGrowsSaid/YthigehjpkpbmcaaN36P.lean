/- Layer 36: pictures and films. -/
import Derived.Test.YthigehjpkpbmcaaAL29
import Derived.Test.YthigehjpkpbmcaaF36
import Derived.Test.YthigehjpkpbmcaaN36O
namespace Go.Proofs.TryN
open Go Go.AL Go.Proofs

theorem LeL.refl : ∀ l : List AV, LeL l l
  | [] => .nil
  | x :: xs => .cons (.refl x) (LeL.refl xs)

theorem comp24z_spec (w h c b p : Int) (hv : videoR w h c b = true) (hp : 0 ≤ p ∧ p ≤ 2) :
    CallsF Try.prog 66 [vid w h c b, iv p, .agg (hdW 0 .snil 0 0 0 0 0 false)] [] (.agg (compC p w h c b 0 0 0 0 0)) [] :=
  CallsA.weak (.cons (.refl _) (.cons (.refl _) (.cons (.agg (.cons (.refl _) (.cons (.snil _) (LeL.refl _)))) .nil))) (comp24_spec w h c b p 0 [] 0 0 0 0 0 false hv hp)

theorem compN_in (f d : Int) (a b : List Int) (m : Bool) (w h : Int) : 0 ≤ compN f d a b m w h ∧ compN f d a b m w h ≤ 2 ^ 34 := by
  unfold compN
  split
  · rename_i hh
    have h1 := sumT_in f d a b m (padN w d).toNat (padN h d).toNat d.toNat (3 * d.toNat + 1)
    have h2 := (fitsB_in hh.2).2.2
    omega
  · omega

theorem motionN_in (n : Int) : 0 ≤ motionN n ∧ motionN n ≤ 2 ^ 42 := by
  have := coderN_in (5301 * (if 4096 < n then 4096 else n))
  unfold motionN; split <;> omega

def pcomp (s : Sett) (p : Int) : Int := compN s.f s.d s.a s.bs s.m (upN s.w (hxN p s.c)) (upN s.h (hyN p s.c))
def picN (s : Sett) : Int := if s.ok = true then ((373 + motionN (fcover s.w s.sx * fcover s.h s.sy) + pcomp s 0) + pcomp s 1) + pcomp s 2 else 0

theorem pcomp_in (s : Sett) (p : Int) : 0 ≤ pcomp s p ∧ pcomp s p ≤ 2 ^ 34 := compN_in ..
theorem picN_in (s : Sett) : 0 ≤ picN s ∧ picN s ≤ 2 ^ 43 := by
  have := motionN_in (fcover s.w s.sx * fcover s.h s.sy)
  have := pcomp_in s 0
  have := pcomp_in s 1
  have := pcomp_in s 2
  unfold picN; split <;> omega

theorem ok_in {s : Sett} (h : s.ok = true) : videoR s.w s.h s.c s.b = true ∧ shapeR s.f s.d s.a s.bs = true ∧ lapsR s.lx s.ly s.sx s.sy = true ∧ inB s.pel 0 3 = true := by
  simp only [Sett.ok, fitsH, Bool.and_eq_true] at h
  obtain ⟨⟨⟨⟨⟨h1, h2, _⟩, h3, _⟩, _⟩, _⟩, _⟩ := h
  exact ⟨h1, h2, h3.1.1.1.1, h3.1.1.1.2⟩

set_option maxRecDepth 10000 in
theorem picture_spec (s : Sett) (ha : s.a.length = 7) (hb : s.bs.length = 7) : CallsF Try.prog 38 [s.av] [] (iv (picN s)) [] := by
  obtain ⟨w, h, c, b, f, d, a, bs, m, lx, ly, sx, sy, pel, r, l, p, gp, gb, gl, ll, q, tg⟩ := s
  simp only at ha hb
  obtain ⟨a0, a1, a2, a3, a4, a5, a6, rfl⟩ := len7 ha
  obtain ⟨b0, b1, b2, b3, b4, b5, b6, rfl⟩ := len7 hb
  refine e38 ?_
  conv => whnf
  refine CallsF.call [] [] (validate_spec ⟨w, h, c, b, f, d, [a0, a1, a2, a3, a4, a5, a6], [b0, b1, b2, b3, b4, b5, b6], m, lx, ly, sx, sy, pel, r, l, p, gp, gb, gl, ll, q, tg⟩ ha hb) rfl rfl rfl rfl rfl (.inl rfl) ?_
  conv => whnf
  by_cases hok : Sett.ok ⟨w, h, c, b, f, d, [a0, a1, a2, a3, a4, a5, a6], [b0, b1, b2, b3, b4, b5, b6], m, lx, ly, sx, sy, pel, r, l, p, gp, gb, gl, ll, q, tg⟩ = true
  rotate_left
  · have hok : Sett.ok ⟨w, h, c, b, f, d, [a0, a1, a2, a3, a4, a5, a6], [b0, b1, b2, b3, b4, b5, b6], m, lx, ly, sx, sy, pel, r, l, p, gp, gb, gl, ll, q, tg⟩ = false := by simpa using hok
    rw [hok]
    conv => whnf
    exact ⟨[], [], rfl, congrArg iv (by rw [picN, hok]; rfl), rfl⟩
  rw [hok]
  conv => whnf
  obtain ⟨S, hS⟩ : ∃ S : Sett, S = ⟨w, h, c, b, f, d, [a0, a1, a2, a3, a4, a5, a6], [b0, b1, b2, b3, b4, b5, b6], m, lx, ly, sx, sy, pel, r, l, p, gp, gb, gl, ll, q, tg⟩ := ⟨_, rfl⟩
  have okS : S.ok = true := by rw [hS]; exact hok
  obtain ⟨o1, o2, o3, o4⟩ := ok_in okS
  have hP : picN ⟨w, h, c, b, f, d, [a0, a1, a2, a3, a4, a5, a6], [b0, b1, b2, b3, b4, b5, b6], m, lx, ly, sx, sy, pel, r, l, p, gp, gb, gl, ll, q, tg⟩ = ((373 + motionN (fcover w sx * fcover h sy) + pcomp S 0) + pcomp S 1) + pcomp S 2 := by subst hS; rw [picN, if_pos hok]
  have pe : ∀ k, pcomp S k = compN f d [a0, a1, a2, a3, a4, a5, a6] [b0, b1, b2, b3, b4, b5, b6] m (upN w (hxN k c)) (upN h (hyN k c)) := fun k => by subst hS; rfl
  have p0 := pcomp_in S 0
  have p1 := pcomp_in S 1
  have p2 := pcomp_in S 2
  replace o1 : videoR w h c b = true := by subst hS; exact o1
  replace o3 : lapsR lx ly sx sy = true := by subst hS; exact o3
  replace o4 : inB pel 0 3 = true := by subst hS; exact o4
  obtain ⟨v1, v2, v3, v4⟩ := videoR_in o1
  have f1 := fcover_in v1 (lapsR_in o3).1
  have f2 := fcover_in v2 (lapsR_in o3).2
  have mm : IntKind.wrap .i64 (fcover w sx * fcover h sy) = fcover w sx * fcover h sy := by
    have : fcover w sx * fcover h sy ≤ 128 * 128 := Int.mul_le_mul (by omega) (by omega) (by omega) (by omega)
    have : 0 ≤ fcover w sx * fcover h sy := Int.mul_nonneg (by omega) (by omega)
    rw [wrap_id (by omega) (by omega)]
  have m1 := motionN_in (fcover w sx * fcover h sy)
  rw [hP]
  clear hP hok okS o2
  refine CallsF.call [] [1] (rsq_spec w h c b 1 [0] lx ly sx sy pel o1 (.inl ⟨rfl, rfl⟩) o3 o4) rfl rfl rfl rfl rfl (.inr rfl) ?_
  conv => whnf
  refine CallsF.call [] [] (motion_spec _) rfl rfl rfl rfl rfl (.inl rfl) ?_
  conv => whnf
  refine LoopA.unroll 4 [1, 3, 6, 32] [0, 2] [1] [0, 1] [] (by rfl) ?_
  conv => whnf
  refine CallsF.call [] [] (rcomp_spec w h c b 0 1 [0] lx ly sx sy pel true o1 (by omega)) rfl rfl rfl rfl rfl (.inl rfl) ?_
  conv => whnf
  refine CallsF.call [] [] (comp_spec f d _ _ m _ _ ha hb) rfl rfl rfl rfl rfl (.inl rfl) ?_
  conv => whnf
  refine ⟨rfl, ?_⟩
  conv => whnf
  refine CallsF.call [] [] (rcomp_spec w h c b 1 1 [0] lx ly sx sy pel true o1 (by omega)) rfl rfl rfl rfl rfl (.inl rfl) ?_
  conv => whnf
  refine CallsF.call [] [] (comp_spec f d _ _ m _ _ ha hb) rfl rfl rfl rfl rfl (.inl rfl) ?_
  conv => whnf
  refine ⟨rfl, ?_⟩
  conv => whnf
  refine CallsF.call [] [] (rcomp_spec w h c b 2 1 [0] lx ly sx sy pel true o1 (by omega)) rfl rfl rfl rfl rfl (.inl rfl) ?_
  conv => whnf
  refine CallsF.call [] [] (comp_spec f d _ _ m _ _ ha hb) rfl rfl rfl rfl rfl (.inl rfl) ?_
  conv => whnf
  refine ⟨rfl, ?_⟩
  conv => whnf
  have m2 : IntKind.wrap .i64 (373 + motionN (fcover w sx * fcover h sy)) = 373 + motionN (fcover w sx * fcover h sy) := wrap_id (by omega) (by omega)
  refine ⟨[], [], rfl, congrArg iv ?_, rfl⟩
  show IntKind.wrap .i64 (IntKind.wrap .i64 (IntKind.wrap .i64 (IntKind.wrap .i64 (373 + motionN (IntKind.wrap .i64 (fcover w sx * fcover h sy))) + compN f d _ _ m _ _) + compN f d _ _ m _ _) + compN f d _ _ m _ _) = _
  rw [mm, m2, ← pe 0, ← pe 1, ← pe 2]
  rw [wrap_id (n := 373 + motionN (fcover w sx * fcover h sy) + pcomp S 0) (by omega) (by omega), wrap_id (n := 373 + motionN (fcover w sx * fcover h sy) + pcomp S 0 + pcomp S 1) (by omega) (by omega), wrap_id (by omega) (by omega)]

set_option maxRecDepth 10000 in
theorem picture36_spec (s : Sett) (ha : s.a.length = 7) (hb : s.bs.length = 7) (hx : s.lx ≤ 9223372036854775807) (hy : s.ly ≤ 9223372036854775807) : CallsF Try.prog 39 [s.av] [] (iv (picN s)) [] := by
  obtain ⟨w, h, c, b, f, d, a, bs, m, lx, ly, sx, sy, pel, r, l, p, gp, gb, gl, ll, q, tg⟩ := s
  simp only at ha hb hx hy
  obtain ⟨a0, a1, a2, a3, a4, a5, a6, rfl⟩ := len7 ha
  obtain ⟨b0, b1, b2, b3, b4, b5, b6, rfl⟩ := len7 hb
  refine e39 ?_
  conv => whnf
  refine CallsF.call [] [] (right34_spec ⟨w, h, c, b, f, d, [a0, a1, a2, a3, a4, a5, a6], [b0, b1, b2, b3, b4, b5, b6], m, lx, ly, sx, sy, pel, r, l, p, gp, gb, gl, ll, q, tg⟩ ha hb hx hy) rfl rfl rfl rfl rfl (.inl rfl) ?_
  conv => whnf
  by_cases hok : Sett.ok ⟨w, h, c, b, f, d, [a0, a1, a2, a3, a4, a5, a6], [b0, b1, b2, b3, b4, b5, b6], m, lx, ly, sx, sy, pel, r, l, p, gp, gb, gl, ll, q, tg⟩ = true
  rotate_left
  · have hok : Sett.ok ⟨w, h, c, b, f, d, [a0, a1, a2, a3, a4, a5, a6], [b0, b1, b2, b3, b4, b5, b6], m, lx, ly, sx, sy, pel, r, l, p, gp, gb, gl, ll, q, tg⟩ = false := by simpa using hok
    rw [hok]
    conv => whnf
    exact ⟨[], [], rfl, congrArg iv (by rw [picN, hok]; rfl), rfl⟩
  rw [hok]
  conv => whnf
  obtain ⟨S, hS⟩ : ∃ S : Sett, S = ⟨w, h, c, b, f, d, [a0, a1, a2, a3, a4, a5, a6], [b0, b1, b2, b3, b4, b5, b6], m, lx, ly, sx, sy, pel, r, l, p, gp, gb, gl, ll, q, tg⟩ := ⟨_, rfl⟩
  have okS : S.ok = true := by rw [hS]; exact hok
  obtain ⟨o1, o2, o3, o4⟩ := ok_in okS
  have hP : picN ⟨w, h, c, b, f, d, [a0, a1, a2, a3, a4, a5, a6], [b0, b1, b2, b3, b4, b5, b6], m, lx, ly, sx, sy, pel, r, l, p, gp, gb, gl, ll, q, tg⟩ = ((373 + motionN (fcover w sx * fcover h sy) + pcomp S 0) + pcomp S 1) + pcomp S 2 := by subst hS; rw [picN, if_pos hok]
  have pe : ∀ k, pcomp S k = compN f d [a0, a1, a2, a3, a4, a5, a6] [b0, b1, b2, b3, b4, b5, b6] m (upN w (hxN k c)) (upN h (hyN k c)) := fun k => by subst hS; rfl
  have p0 := pcomp_in S 0
  have p1 := pcomp_in S 1
  have p2 := pcomp_in S 2
  replace o1 : videoR w h c b = true := by subst hS; exact o1
  replace o3 : lapsR lx ly sx sy = true := by subst hS; exact o3
  replace o4 : inB pel 0 3 = true := by subst hS; exact o4
  obtain ⟨v1, v2, v3, v4⟩ := videoR_in o1
  have f1 := fcover_in v1 (lapsR_in o3).1
  have f2 := fcover_in v2 (lapsR_in o3).2
  have mm : IntKind.wrap .i64 (fcover w sx * fcover h sy) = fcover w sx * fcover h sy := by
    have : fcover w sx * fcover h sy ≤ 128 * 128 := Int.mul_le_mul (by omega) (by omega) (by omega) (by omega)
    have : 0 ≤ fcover w sx * fcover h sy := Int.mul_nonneg (by omega) (by omega)
    rw [wrap_id (by omega) (by omega)]
  have m1 := motionN_in (fcover w sx * fcover h sy)
  rw [hP]
  clear hP hok okS o2
  refine CallsF.call [] [] (head31_spec 1 (.inl rfl) lx ly sx sy pel r l p) rfl rfl rfl rfl rfl (.inl rfl) ?_
  conv => whnf
  refine ⟨⟨_, rfl⟩, ?_⟩
  conv => whnf
  refine CallsF.call [] [] (sq24_spec w h c b [0] lx ly sx sy pel o1 (.inl rfl) hx hy o3 o4) rfl rfl rfl rfl rfl (.inl rfl) ?_
  conv => whnf
  refine CallsF.call [] [] (motion36_spec _) rfl rfl rfl rfl rfl (.inl rfl) ?_
  conv => whnf
  refine LoopA.unroll 4 [1, 5, 6] [0] [] [0] [] (by rfl) ?_
  conv => whnf
  refine CallsF.call [] [] (comp24z_spec w h c b 0 o1 (by omega)) rfl rfl rfl rfl rfl (.inl rfl) ?_
  conv => whnf
  refine CallsF.call [] [] (comp36_spec f d _ _ m _ _ ha hb) rfl rfl rfl rfl rfl (.inl rfl) ?_
  conv => whnf
  refine ⟨rfl, ?_⟩
  conv => whnf
  refine CallsF.call [] [] (comp24z_spec w h c b 1 o1 (by omega)) rfl rfl rfl rfl rfl (.inl rfl) ?_
  conv => whnf
  refine CallsF.call [] [] (comp36_spec f d _ _ m _ _ ha hb) rfl rfl rfl rfl rfl (.inl rfl) ?_
  conv => whnf
  refine ⟨rfl, ?_⟩
  conv => whnf
  refine CallsF.call [] [] (comp24z_spec w h c b 2 o1 (by omega)) rfl rfl rfl rfl rfl (.inl rfl) ?_
  conv => whnf
  refine CallsF.call [] [] (comp36_spec f d _ _ m _ _ ha hb) rfl rfl rfl rfl rfl (.inl rfl) ?_
  conv => whnf
  refine ⟨rfl, ?_⟩
  conv => whnf
  have m2 : IntKind.wrap .i64 (373 + motionN (fcover w sx * fcover h sy)) = 373 + motionN (fcover w sx * fcover h sy) := wrap_id (by omega) (by omega)
  refine ⟨[], [], rfl, congrArg iv ?_, rfl⟩
  show IntKind.wrap .i64 (IntKind.wrap .i64 (IntKind.wrap .i64 (IntKind.wrap .i64 (373 + motionN (IntKind.wrap .i64 (fcover w sx * fcover h sy))) + compN f d _ _ m _ _) + compN f d _ _ m _ _) + compN f d _ _ m _ _) = _
  rw [mm, m2, ← pe 0, ← pe 1, ← pe 2]
  rw [wrap_id (n := 373 + motionN (fcover w sx * fcover h sy) + pcomp S 0) (by omega) (by omega), wrap_id (n := 373 + motionN (fcover w sx * fcover h sy) + pcomp S 0 + pcomp S 1) (by omega) (by omega), wrap_id (by omega) (by omega)]

end Go.Proofs.TryN

