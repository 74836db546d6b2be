/- Layer 36: the statements' own functions. -/
import Derived.Test.YthigehjpkpbmcaaAL29
import Derived.Test.YthigehjpkpbmcaaF36
import Derived.Test.YthigehjpkpbmcaaN36Q
namespace Go.Proofs.TryN
open Go Go.AL Go.Proofs

def ones : List Int := [1, 1, 1, 1, 1, 1, 1]
def zeros : List Int := [0, 0, 0, 0, 0, 0, 0]

set_option maxRecDepth 10000 in
theorem one_spec (f d : Int) : CallsF Try.prog 42 [iv f, iv d] [] (sh f d ones ones false) [] := by
  refine e42 ?_
  conv => whnf
  refine LoopA.unroll 8 [4, 5, 10] [0, 1] [] [0, 1] [] (by rfl) ?_
  conv => whnf
  iterate 7
    refine ⟨rfl, ?_⟩
    conv => whnf
  exact ⟨[], [], rfl, rfl, rfl⟩

def usualS : Sett := ⟨8, 8, 0, 8, 3, 0, [1, 0, 0, 0, 0, 0, 0], [1, 0, 0, 0, 0, 0, 0], false, 8, 8, 4, 4, 0, 1, 2, 2, 0, 0, false, false, 0, 0⟩
def zeroS : Sett := ⟨0, 0, 0, 0, 0, 0, zeros, zeros, false, 0, 0, 0, 0, 0, 0, 0, 0, 0, 0, false, false, 0, 0⟩

set_option maxRecDepth 10000 in
theorem usual_spec : CallsF Try.prog 51 [vid 8 8 0 8, iv 3, iv 0] [] usualS.av [] := by
  refine e51 ?_
  conv => whnf
  refine CallsF.call [] [] (one_spec 3 0) rfl rfl rfl rfl rfl (.inl rfl) ?_
  conv => whnf
  refine LoopA.unroll 7 [3, 6, 7, 8] [0, 1, 2] [] [0, 1, 2] [] (by rfl) ?_
  conv => whnf
  iterate 6
    refine ⟨rfl, ?_⟩
    conv => whnf
  exact ⟨[], [], rfl, rfl, rfl⟩

theorem f_a : coderN 8 = 13 := by kernel_rfl
theorem f_b : bandN 3 0 [1, 0, 0, 0, 0, 0, 0] [1, 0, 0, 0, 0, 0, 0] false 0 2 2 = 329 := by kernel_rfl
theorem f_c : motionN 0 = 12 := by kernel_rfl
theorem f_p : ∃ v, picN usualS = v ∧ 373 < v ∧ v ≤ 2 ^ 43 := ⟨_, rfl, of_decide_eq_true (by kernel_rfl), (picN_in _).2⟩
theorem f_f : filmN usualS 2 = 60 + 2 * picN usualS := by kernel_rfl
theorem f_z : filmN zeroS 2 = 0 := by kernel_rfl

set_option maxRecDepth 10000 in
theorem first36_spec : CallsF Try.prog 29 [] [] (.bool true) [] := by
  obtain ⟨v, hv, v1, v2⟩ := f_p
  have hf := f_f
  rw [hv] at hf
  refine e29 ?_
  conv => whnf
  refine CallsF.call [] [] usual_spec rfl rfl rfl rfl rfl (.inl rfl) ?_
  conv => whnf
  refine CallsF.call [] [] (coder_spec 8) rfl rfl rfl rfl rfl (.inl rfl) ?_
  conv => whnf
  rw [f_a]
  conv => whnf
  refine CallsF.call [] [] (band_spec 3 0 [1, 0, 0, 0, 0, 0, 0] [1, 0, 0, 0, 0, 0, 0] false 0 2 2 rfl rfl) rfl rfl rfl rfl rfl (.inl rfl) ?_
  conv => whnf
  rw [f_b]
  conv => whnf
  refine CallsF.call [] [] (motion_spec 0) rfl rfl rfl rfl rfl (.inl rfl) ?_
  conv => whnf
  rw [f_c]
  conv => whnf
  refine CallsF.call [] [] (picture_spec usualS rfl rfl) rfl rfl rfl rfl rfl (.inl rfl) ?_
  conv => whnf
  rw [hv, decide_eq_true v1]
  conv => whnf
  refine CallsF.call [] [] (film_spec usualS 2 rfl rfl) rfl rfl rfl rfl rfl (.inl rfl) ?_
  conv => whnf
  refine ⟨⟨_, rfl⟩, ?_⟩
  conv => whnf
  refine CallsF.call [] [] (picture_spec usualS rfl rfl) rfl rfl rfl rfl rfl (.inl rfl) ?_
  conv => whnf
  rw [hv, hf, wrap_id (n := 2 * v) (by omega) (by omega), wrap_id (n := 60 + 2 * v) (by omega) (by omega), beq_self_eq_true]
  conv => whnf
  refine CallsF.call [] [] (film_spec zeroS 2 rfl rfl) rfl rfl rfl rfl rfl (.inl rfl) ?_
  conv => whnf
  rw [f_z]
  exact ⟨[], [], rfl, rfl, rfl⟩

set_option maxRecDepth 10000 in
theorem BoundFilms_spec (s : Sett) (n : Int) (ha : s.a.length = 7) (hb : s.bs.length = 7) (hx : s.lx ≤ 9223372036854775807) (hy : s.ly ≤ 9223372036854775807) :
    CallsA Try.prog 8 [s.av, iv n] [] (fun r _ => r = .bool true) := by
  obtain ⟨w, h, c, b, f, d, a, bs, m, lx, ly, sx, sy, pel, r, l, p, gp, gb, gl, ll, q, tg⟩ := s
  simp only at ha hb hx hy
  obtain ⟨a0, a1, a2, a3, a4, a5, a6, rfl⟩ := len7 ha
  obtain ⟨b0, b1, b2, b3, b4, b5, b6, rfl⟩ := len7 hb
  obtain ⟨S, hS⟩ : ∃ S : Sett, S = ⟨w, h, c, b, f, d, [a0, a1, a2, a3, a4, a5, a6], [b0, b1, b2, b3, b4, b5, b6], m, lx, ly, sx, sy, pel, r, l, p, gp, gb, gl, ll, q, tg⟩ := ⟨_, rfl⟩
  have k1 := picture_spec ⟨w, h, c, b, f, d, [a0, a1, a2, a3, a4, a5, a6], [b0, b1, b2, b3, b4, b5, b6], m, lx, ly, sx, sy, pel, r, l, p, gp, gb, gl, ll, q, tg⟩ ha hb
  have k2 := picture36_spec ⟨w, h, c, b, f, d, [a0, a1, a2, a3, a4, a5, a6], [b0, b1, b2, b3, b4, b5, b6], m, lx, ly, sx, sy, pel, r, l, p, gp, gb, gl, ll, q, tg⟩ ha hb hx hy
  have k3 := film_spec ⟨w, h, c, b, f, d, [a0, a1, a2, a3, a4, a5, a6], [b0, b1, b2, b3, b4, b5, b6], m, lx, ly, sx, sy, pel, r, l, p, gp, gb, gl, ll, q, tg⟩ n ha hb
  have k4 := film36_spec ⟨w, h, c, b, f, d, [a0, a1, a2, a3, a4, a5, a6], [b0, b1, b2, b3, b4, b5, b6], m, lx, ly, sx, sy, pel, r, l, p, gp, gb, gl, ll, q, tg⟩ n ha hb hx hy
  generalize picN _ = P at k1 k2
  generalize filmN _ n = F at k3 k4
  refine e8 ?_
  conv => whnf
  refine CallsF.call [] [] first36_spec rfl rfl rfl rfl rfl (.inl rfl) ?_
  conv => whnf
  refine CallsF.call [] [] k1 rfl rfl rfl rfl rfl (.inl rfl) ?_
  conv => whnf
  refine ⟨⟨_, rfl⟩, ?_⟩
  conv => whnf
  refine CallsF.call [] [] k2 rfl rfl rfl rfl rfl (.inl rfl) ?_
  conv => whnf
  rw [beq_self_eq_true]
  conv => whnf
  refine CallsF.call [] [] k3 rfl rfl rfl rfl rfl (.inl rfl) ?_
  conv => whnf
  refine ⟨⟨_, rfl⟩, ?_⟩
  conv => whnf
  refine CallsF.call [] [] k4 rfl rfl rfl rfl rfl (.inl rfl) ?_
  conv => whnf
  rw [beq_self_eq_true]
  exact ⟨[], [], rfl, rfl⟩
end Go.Proofs.TryN

