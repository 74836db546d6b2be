/- Layer 36: films. -/
import Derived.Test.YthigehjpkpbmcaaAL29
import Derived.Test.YthigehjpkpbmcaaF36
import Derived.Test.YthigehjpkpbmcaaN36P
namespace Go.Proofs.TryN
open Go Go.AL Go.Proofs

def clampN (n : Int) : Int := if n < 0 then 0 else if 1000 < n then 1000 else n
def filmN (s : Sett) (n : Int) : Int := if s.ok = true then 60 + clampN n * picN s else 0

theorem clampN_in (n : Int) : 0 ≤ clampN n ∧ clampN n ≤ 1000 := by unfold clampN; split <;> (try split) <;> omega

set_option maxRecDepth 10000 in
theorem film_spec (s : Sett) (n : Int) (ha : s.a.length = 7) (hb : s.bs.length = 7) : CallsF Try.prog 40 [s.av, iv n] [] (iv (filmN s n)) [] := by
  obtain ⟨w, h, c, b, f, d, a, bs, m, lx, ly, sx, sy, pel, r, l, p, gp, gb, gl, ll, q, tg⟩ := s
  simp only at ha hb
  obtain ⟨a0, a1, a2, a3, a4, a5, a6, rfl⟩ := len7 ha
  obtain ⟨b0, b1, b2, b3, b4, b5, b6, rfl⟩ := len7 hb
  refine e40 ?_
  conv => whnf
  refine CallsF.call [] [] (validate_spec ⟨w, h, c, b, f, d, [a0, a1, a2, a3, a4, a5, a6], [b0, b1, b2, b3, b4, b5, b6], m, lx, ly, sx, sy, pel, r, l, p, gp, gb, gl, ll, q, tg⟩ ha hb) rfl rfl rfl rfl rfl (.inl rfl) ?_
  conv => whnf
  by_cases hok : Sett.ok ⟨w, h, c, b, f, d, [a0, a1, a2, a3, a4, a5, a6], [b0, b1, b2, b3, b4, b5, b6], m, lx, ly, sx, sy, pel, r, l, p, gp, gb, gl, ll, q, tg⟩ = true
  rotate_left
  · have hok : Sett.ok ⟨w, h, c, b, f, d, [a0, a1, a2, a3, a4, a5, a6], [b0, b1, b2, b3, b4, b5, b6], m, lx, ly, sx, sy, pel, r, l, p, gp, gb, gl, ll, q, tg⟩ = false := by simpa using hok
    rw [hok]
    conv => whnf
    exact ⟨[], [], rfl, congrArg iv (by rw [filmN, hok]; rfl), rfl⟩
  have hF : filmN ⟨w, h, c, b, f, d, [a0, a1, a2, a3, a4, a5, a6], [b0, b1, b2, b3, b4, b5, b6], m, lx, ly, sx, sy, pel, r, l, p, gp, gb, gl, ll, q, tg⟩ n = 60 + clampN n * picN ⟨w, h, c, b, f, d, [a0, a1, a2, a3, a4, a5, a6], [b0, b1, b2, b3, b4, b5, b6], m, lx, ly, sx, sy, pel, r, l, p, gp, gb, gl, ll, q, tg⟩ := by rw [filmN, if_pos hok]
  rw [hok, hF]
  conv => whnf
  refine CallsF.call [] [] (picture_spec ⟨w, h, c, b, f, d, [a0, a1, a2, a3, a4, a5, a6], [b0, b1, b2, b3, b4, b5, b6], m, lx, ly, sx, sy, pel, r, l, p, gp, gb, gl, ll, q, tg⟩ ha hb) rfl rfl rfl rfl rfl (.inl rfl) ?_
  conv => whnf
  have hp := picN_in ⟨w, h, c, b, f, d, [a0, a1, a2, a3, a4, a5, a6], [b0, b1, b2, b3, b4, b5, b6], m, lx, ly, sx, sy, pel, r, l, p, gp, gb, gl, ll, q, tg⟩
  have hc := clampN_in n
  have hm : (if (1000 : Int) < (if (0 : Int) > n then 0 else n) then 1000 else (if (0 : Int) > n then 0 else n)) = clampN n := by unfold clampN; split <;> split <;> (try split) <;> omega
  refine ⟨[], [], rfl, congrArg iv ?_, rfl⟩
  show IntKind.wrap .i64 (60 + IntKind.wrap .i64 (_ * picN _)) = _
  rw [hm]
  generalize picN ⟨w, h, c, b, f, d, [a0, a1, a2, a3, a4, a5, a6], [b0, b1, b2, b3, b4, b5, b6], m, lx, ly, sx, sy, pel, r, l, p, gp, gb, gl, ll, q, tg⟩ = P at *
  have h1 : clampN n * P ≤ 1000 * 2 ^ 43 := Int.mul_le_mul (by omega) (by omega) (by omega) (by omega)
  have h2 : 0 ≤ clampN n * P := Int.mul_nonneg (by omega) (by omega)
  rw [wrap_id (n := clampN n * P) (by omega) (by omega), wrap_id (by omega) (by omega)]

set_option maxRecDepth 10000 in
theorem film36_spec (s : Sett) (n : Int) (ha : s.a.length = 7) (hb : s.bs.length = 7) (hx : s.lx ≤ 9223372036854775807) (hy : s.ly ≤ 9223372036854775807) : CallsF Try.prog 41 [s.av, iv n] [] (iv (filmN s n)) [] := by
  obtain ⟨w, h, c, b, f, d, a, bs, m, lx, ly, sx, sy, pel, r, l, p, gp, gb, gl, ll, q, tg⟩ := s
  simp only at ha hb hx hy
  obtain ⟨a0, a1, a2, a3, a4, a5, a6, rfl⟩ := len7 ha
  obtain ⟨b0, b1, b2, b3, b4, b5, b6, rfl⟩ := len7 hb
  refine e41 ?_
  conv => whnf
  refine CallsF.call [] [] (right34_spec ⟨w, h, c, b, f, d, [a0, a1, a2, a3, a4, a5, a6], [b0, b1, b2, b3, b4, b5, b6], m, lx, ly, sx, sy, pel, r, l, p, gp, gb, gl, ll, q, tg⟩ ha hb hx hy) rfl rfl rfl rfl rfl (.inl rfl) ?_
  conv => whnf
  by_cases hok : Sett.ok ⟨w, h, c, b, f, d, [a0, a1, a2, a3, a4, a5, a6], [b0, b1, b2, b3, b4, b5, b6], m, lx, ly, sx, sy, pel, r, l, p, gp, gb, gl, ll, q, tg⟩ = true
  rotate_left
  · have hok : Sett.ok ⟨w, h, c, b, f, d, [a0, a1, a2, a3, a4, a5, a6], [b0, b1, b2, b3, b4, b5, b6], m, lx, ly, sx, sy, pel, r, l, p, gp, gb, gl, ll, q, tg⟩ = false := by simpa using hok
    rw [hok]
    conv => whnf
    exact ⟨[], [], rfl, congrArg iv (by rw [filmN, hok]; rfl), rfl⟩
  have hF : filmN ⟨w, h, c, b, f, d, [a0, a1, a2, a3, a4, a5, a6], [b0, b1, b2, b3, b4, b5, b6], m, lx, ly, sx, sy, pel, r, l, p, gp, gb, gl, ll, q, tg⟩ n = 60 + clampN n * picN ⟨w, h, c, b, f, d, [a0, a1, a2, a3, a4, a5, a6], [b0, b1, b2, b3, b4, b5, b6], m, lx, ly, sx, sy, pel, r, l, p, gp, gb, gl, ll, q, tg⟩ := by rw [filmN, if_pos hok]
  rw [hok, hF]
  conv => whnf
  have hp := picN_in ⟨w, h, c, b, f, d, [a0, a1, a2, a3, a4, a5, a6], [b0, b1, b2, b3, b4, b5, b6], m, lx, ly, sx, sy, pel, r, l, p, gp, gb, gl, ll, q, tg⟩
  have hps := picture36_spec ⟨w, h, c, b, f, d, [a0, a1, a2, a3, a4, a5, a6], [b0, b1, b2, b3, b4, b5, b6], m, lx, ly, sx, sy, pel, r, l, p, gp, gb, gl, ll, q, tg⟩ ha hb hx hy
  generalize picN ⟨w, h, c, b, f, d, [a0, a1, a2, a3, a4, a5, a6], [b0, b1, b2, b3, b4, b5, b6], m, lx, ly, sx, sy, pel, r, l, p, gp, gb, gl, ll, q, tg⟩ = P at *
  have hc := clampN_in n
  refine LoopA.inv (fun k st => ∃ i : Nat, ((k + i : Nat) : Int) = clampN n ∧ st = ⟨[(1, iv n), (2, .bp 0 0), (5, iv (60 + i * P)), (6, iv i)], [some (.box [iv w, iv h, iv c, iv b, iv f, iv d, iv a0, iv a1, iv a2, iv a3, iv a4, iv a5, iv a6, iv b0, iv b1, iv b2, iv b3, iv b4, iv b5, iv b6, .bool m, iv lx, iv ly, iv sx, iv sy, iv pel, iv r, iv l, iv p, iv gp, iv gb, .bool gl, .bool ll, iv q, iv tg])], 1, 0⟩) (clampN n).toNat [1, 2, 5, 6] [0] [] (by rfl) ?_ ?_
  · conv => whnf
    exact ⟨0, by omega, by rw [Int.natCast_zero, Int.zero_mul]; rfl⟩
  rintro k st ⟨i, hk, rfl⟩
  have done : ¬(i : Int) < clampN n → (i : Int) = clampN n := fun h => by omega
  have hi : (i : Int) ≤ 1000 := by omega
  have fin : (i : Int) = clampN n → iv (60 + (i : Int) * P) = iv (60 + clampN n * P) := fun h => by rw [h]
  conv => whnf
  refine ifB_of (fun h1 => ?_) (fun h1 => ?_)
  · have h1 := of_decide_eq_true h1
    conv => whnf
    refine ifB_of (fun h2 => ?_) (fun h2 => ?_)
    · have h2 := of_decide_eq_true h2
      have hlt : (i : Int) < clampN n := by unfold clampN at hk ⊢; split <;> (try split) <;> omega
      have b1 : (i : Int) * P ≤ 1000 * 2 ^ 43 := Int.mul_le_mul (by omega) (by omega) (by omega) (by omega)
      have b2 : 0 ≤ (i : Int) * P := Int.mul_nonneg (by omega) (by omega)
      have e : IntKind.wrap .i64 (60 + (i : Int) * P + P) = 60 + ((i + 1 : Nat) : Int) * P := by
        rw [wrap_id (by omega) (by omega)]; push_cast; rw [Int.add_mul, Int.one_mul]; omega
      conv => whnf
      refine CallsF.call [] [] hps rfl rfl rfl rfl rfl (.inl rfl) ?_
      conv => whnf
      refine ⟨k - 1, [1, 2, 5, 6], [0], [], by omega, rfl, ?_⟩
      conv => whnf
      rw [inc_nat (by omega), e]
      exact ⟨i + 1, by omega, rfl⟩
    · have h2 := of_decide_eq_false h2
      conv => whnf
      exact ⟨[], [], rfl, fin (done (by unfold clampN; split <;> (try split) <;> omega)), rfl⟩
  · have h1 := of_decide_eq_false h1
    conv => whnf
    exact ⟨[], [], rfl, fin (done (by unfold clampN; split <;> (try split) <;> omega)), rfl⟩
end Go.Proofs.TryN

