/- Law 17: GuessAll. -/
import Derived.Test.YticofpkggbdnpaaN17R
namespace Go.Proofs.TryN
open Go Go.AL Go.Proofs

set_option maxRecDepth 10000 in
theorem GuessAll_spec (f : Fld) : CallsA Try.prog 4 [f.av] [] (fun r _ => r = .bool true) := by
  obtain ⟨rows, hr⟩ : ∃ rows, f.bs.map Blk.row = rows := ⟨_, rfl⟩
  have hlen : rows.length = f.bs.length := by rw [← hr, List.length_map]
  have hfv : f.av = .agg [iv f.a, iv f.d, .ri .i64 f.sp, .ro 9 rows] := by rw [← hr]; rfl
  have s1 := right16_spec f
  have s2 := fun x y => mode_spec f x y
  have s3 := fun x y => rmode_spec f x y
  have s4 := fun x y => global_spec f x y
  have s5 := fun x y => rglobal_spec f x y
  have s6 := fun r x y => vec_spec f r x y
  have s7 := fun r x y => rvec_spec f r x y
  have s8 := fun p x y => dc_spec f p x y
  have s9 := fun p x y => rdc_spec f p x y
  have s10 := fun i => split_spec f i
  have s11 := fun i => rsplit_spec f i
  rw [hfv] at s1 ⊢
  simp only [hfv] at s2 s3 s4 s5 s6 s7 s8 s9 s10 s11
  refine e4 ?_
  conv => whnf
  refine CallsF.call [] [] first17_spec rfl rfl rfl rfl rfl (.inl rfl) ?_
  conv => whnf
  refine ifB_of (fun h1 => ?_) (fun h1 => ?_)
  · conv => whnf
    exact ⟨[], [], rfl, rfl⟩
  have h1 := of_decide_eq_false h1
  conv => whnf
  refine CallsF.call [] [] s1 rfl rfl rfl rfl rfl (.inl rfl) ?_
  conv => whnf
  cases hok : f.ok
  · conv => whnf
    exact ⟨[], [], rfl, rfl⟩
  obtain ⟨k1, k2, k3, k4, _, _⟩ := Fld.ok_in hok
  have w1 : IntKind.wrap .i64 (4 * f.a) = 4 * f.a := wrap_id (by omega) (by omega)
  conv => whnf
  refine LoopA.inv (fun n st => ∃ i : Nat, n + i = f.bs.length ∧ st = ⟨[(1, .bp 0 0), (20, iv (rows.length : Nat)), (21, iv i)], [some (.box [iv f.a, iv f.d, .ri .i64 f.sp, .ro 9 rows])], 1, 0⟩) f.bs.length [1, 20, 21] [0] [] (by rfl) ?_ ?_
  · conv => whnf
    exact ⟨0, rfl, rfl⟩
  rintro n st ⟨i, hn, rfl⟩
  conv => whnf
  refine ifB_of (fun h2 => ?_) (fun h2 => ?_)
  · have h2 : i < f.bs.length := by have := of_decide_eq_true h2; omega
    obtain ⟨x, hx⟩ : ∃ x, ((i : Nat) : Int).tmod (IntKind.wrap .i64 (4 * f.a)) = x := ⟨_, rfl⟩
    obtain ⟨y, hy⟩ : ∃ y, IntKind.wrap .i64 (((i : Nat) : Int).tdiv (IntKind.wrap .i64 (4 * f.a))) = y := ⟨_, rfl⟩
    obtain ⟨r, hrr⟩ : ∃ r, ((i : Nat) : Int).tmod 2 = r := ⟨_, rfl⟩
    obtain ⟨p, hp⟩ : ∃ p, ((i : Nat) : Int).tmod 3 = p := ⟨_, rfl⟩
    have v1 := s6 r x y
    have v2 := s7 r x y
    obtain ⟨va, vb, hv⟩ := vecN_agg r (nearL f x y)
    rw [hv] at v1 v2
    conv => whnf
    refine need_of ((by rw [w1]; exact decide_eq_true (by omega))) ?_
    conv => whnf
    refine need_of ((by rw [w1]; exact decide_eq_true (by omega))) ?_
    conv => whnf
    rw [hx, hy]
    refine CallsF.call [] [] (s2 x y) rfl rfl rfl rfl rfl (.inl rfl) ?_
    conv => whnf
    refine ⟨⟨_, rfl⟩, ?_⟩
    conv => whnf
    refine CallsF.call [] [] (s3 x y) rfl rfl rfl rfl rfl (.inl rfl) ?_
    conv => whnf
    rw [bne_self_eq_false]
    conv => whnf
    refine CallsF.call [] [] (s4 x y) rfl rfl rfl rfl rfl (.inl rfl) ?_
    conv => whnf
    refine ⟨⟨_, rfl⟩, ?_⟩
    conv => whnf
    refine CallsF.call [] [] (s5 x y) rfl rfl rfl rfl rfl (.inl rfl) ?_
    conv => whnf
    rw [beq_self_eq_true]
    conv => whnf
    rw [hrr]
    refine CallsF.call [] [] v1 rfl rfl rfl rfl rfl (.inl rfl) ?_
    conv => whnf
    refine ⟨⟨_, rfl⟩, ?_⟩
    conv => whnf
    refine CallsF.call [] [] v2 rfl rfl rfl rfl rfl (.inl rfl) ?_
    conv => whnf
    rw [vneq]
    conv => whnf
    rw [hp]
    refine CallsF.call [] [] (s8 p x y) rfl rfl rfl rfl rfl (.inl rfl) ?_
    conv => whnf
    refine ⟨⟨_, rfl⟩, ?_⟩
    conv => whnf
    refine CallsF.call [] [] (s9 p x y) rfl rfl rfl rfl rfl (.inl rfl) ?_
    conv => whnf
    rw [bne_self_eq_false]
    conv => whnf
    refine ⟨(f.bs.length - (i + 1)), [1, 20, 21], [0], [], by omega, rfl, ?_⟩
    conv => whnf
    exact ⟨i + 1, by omega, by rw [inc_nat (by omega)]⟩
  conv => whnf
  refine LoopA.inv (fun n st => ∃ i : Nat, n + i = f.sp.length ∧ st = ⟨[(1, .bp 0 0), (87, iv (f.sp.length : Nat)), (88, iv i)], [some (.box [iv f.a, iv f.d, .ri .i64 f.sp, .ro 9 rows])], 1, 0⟩) f.sp.length [1, 87, 88] [0] [] (by rfl) ?_ ?_
  · conv => whnf
    exact ⟨0, rfl, rfl⟩
  rintro n st ⟨i, hn, rfl⟩
  conv => whnf
  refine ifB_of (fun h3 => ?_) (fun h3 => ?_)
  · have h3 : i < f.sp.length := by have := of_decide_eq_true h3; omega
    conv => whnf
    refine CallsF.call [] [] (s10 i) rfl rfl rfl rfl rfl (.inl rfl) ?_
    conv => whnf
    refine ⟨⟨_, rfl⟩, ?_⟩
    conv => whnf
    refine CallsF.call [] [] (s11 i) rfl rfl rfl rfl rfl (.inl rfl) ?_
    conv => whnf
    rw [bne_self_eq_false]
    conv => whnf
    refine ⟨(f.sp.length - (i + 1)), [1, 87, 88], [0], [], by omega, rfl, ?_⟩
    conv => whnf
    exact ⟨i + 1, by omega, by rw [inc_nat (by omega)]⟩
  conv => whnf
  exact ⟨[], [], rfl, rfl⟩
end Go.Proofs.TryN

