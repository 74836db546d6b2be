/- Layer 40: what is asked ahead of everything else. -/
import Derived.Test.YtipafgbcdmgmbaaDoorN40F
import Derived.Test.YtipafgbcdmgmbaaDoorN40L
namespace Go.Proofs.TrydN
open Go Go.AL Go.Proofs

theorem itoa0 : CallsF Tryd.prog 27 [iv 0] [] (.str ⟨#[48]⟩) [] := by
  have h := itoa_spec 0 (by decide)
  rwa [show (Lib.decDigits 0).toArray = #[48] by simp [Lib.decDigits]] at h

theorem join10 : CallsF Tryd.prog 28 [.ro 1 [[.str ⟨#[99, 111, 117, 110, 116]⟩], [.str ⟨#[48]⟩], [.str ⟨#[100, 105, 102, 102, 101, 114]⟩], [.str ⟨#[48]⟩], [.str ⟨#[119, 111, 114, 115, 116]⟩], [.str ⟨#[48]⟩], [.str ⟨#[115, 117, 109]⟩], [.str ⟨#[48]⟩], [.str ⟨#[115, 113, 117, 97, 114, 101, 115]⟩], [.str ⟨#[48]⟩]], .str ⟨#[32]⟩] [] (.str ⟨#[99, 111, 117, 110, 116, 32, 48, 32, 100, 105, 102, 102, 101, 114, 32, 48, 32, 119, 111, 114, 115, 116, 32, 48, 32, 115, 117, 109, 32, 48, 32, 115, 113, 117, 97, 114, 101, 115, 32, 48]⟩) [] :=
  joins_spec ⟨#[99, 111, 117, 110, 116]⟩ [⟨#[48]⟩, ⟨#[100, 105, 102, 102, 101, 114]⟩, ⟨#[48]⟩, ⟨#[119, 111, 114, 115, 116]⟩, ⟨#[48]⟩, ⟨#[115, 117, 109]⟩, ⟨#[48]⟩, ⟨#[115, 113, 117, 97, 114, 101, 115]⟩, ⟨#[48]⟩] ⟨#[32]⟩ (by decide) (by decide)

/-- What the list holds. -/
def txtR : List (List AV) := [[.str ⟨#[99, 111, 117, 110, 116]⟩], [.str ⟨#[48]⟩], [.str ⟨#[100, 105, 102, 102, 101, 114]⟩], [.str ⟨#[48]⟩], [.str ⟨#[119, 111, 114, 115, 116]⟩], [.str ⟨#[48]⟩], [.str ⟨#[115, 117, 109]⟩], [.str ⟨#[48]⟩], [.str ⟨#[115, 113, 117, 97, 114, 101, 115]⟩], [.str ⟨#[48]⟩]]

set_option maxHeartbeats 4000000 in
set_option maxRecDepth 10000 in
theorem text0_spec : CallsF Tryd.prog 12 [G.zero.av] [] (.str ⟨#[99, 111, 117, 110, 116, 32, 48, 32, 100, 105, 102, 102, 101, 114, 32, 48, 32, 119, 111, 114, 115, 116, 32, 48, 32, 115, 117, 109, 32, 48, 32, 115, 113, 117, 97, 114, 101, 115, 32, 48]⟩) [] := by
  have k := itoa0
  have j := join10
  refine e12 ?_
  conv => whnf
  refine LoopA.inv (fun n st => ∃ i : Nat, n + i = 5 ∧ ((i = 0 ∧ st = ⟨[(3, .snil), (16, .agg [iv 0, iv 0, iv 0, iv 0, iv 0]), (17, iv i)], [], 0, 0⟩) ∨ (0 < i ∧ st = ⟨[(3, .sl 0 0 (2 * i)), (16, .agg [iv 0, iv 0, iv 0, iv 0, iv 0]), (17, iv i)], [some (.arr 1 (txtR.take (2 * i)))], 1, 0⟩))) 5 [3, 16, 17] [] [] (by rfl) ?_ ?_
  · conv => whnf
    exact ⟨0, rfl, .inl ⟨rfl, rfl⟩⟩
  rintro n st ⟨i, hn, ⟨rfl, rfl⟩ | ⟨hi, rfl⟩⟩
  · conv => whnf
    refine CallsF.call [] [] k rfl rfl rfl rfl rfl (.inl rfl) ?_
    conv => whnf
    refine ⟨4, [3, 16, 17], [1], [], by omega, rfl, ?_⟩
    conv => whnf
    exact ⟨1, by omega, .inr ⟨by omega, rfl⟩⟩
  rcases (by omega : i = 1 ∨ i = 2 ∨ i = 3 ∨ i = 4 ∨ i = 5) with rfl | rfl | rfl | rfl | rfl
  · conv => whnf
    refine CallsF.call [] [] k rfl rfl rfl rfl rfl (.inl rfl) ?_
    conv => whnf
    refine ⟨3, [3, 16, 17], [2], [], by omega, rfl, ?_⟩
    conv => whnf
    exact ⟨2, by omega, .inr ⟨by omega, rfl⟩⟩
  · conv => whnf
    refine CallsF.call [] [] k rfl rfl rfl rfl rfl (.inl rfl) ?_
    conv => whnf
    refine ⟨2, [3, 16, 17], [2], [], by omega, rfl, ?_⟩
    conv => whnf
    exact ⟨3, by omega, .inr ⟨by omega, rfl⟩⟩
  · conv => whnf
    refine CallsF.call [] [] k rfl rfl rfl rfl rfl (.inl rfl) ?_
    conv => whnf
    refine ⟨1, [3, 16, 17], [2], [], by omega, rfl, ?_⟩
    conv => whnf
    exact ⟨4, by omega, .inr ⟨by omega, rfl⟩⟩
  · conv => whnf
    refine CallsF.call [] [] k rfl rfl rfl rfl rfl (.inl rfl) ?_
    conv => whnf
    refine ⟨0, [3, 16, 17], [2], [], by omega, rfl, ?_⟩
    conv => whnf
    exact ⟨5, by omega, .inr ⟨by omega, rfl⟩⟩
  · conv => whnf
    refine CallsF.call [] [0] j rfl rfl rfl rfl rfl (.inr rfl) ?_
    conv => whnf
    exact ⟨[], [], rfl, rfl, rfl⟩

theorem level_spec : CallsF Tryd.prog 8 [G.av ⟨3, 3, 2, 6, 12⟩, iv 2] [] (iv 0) [] := by
  refine e8 ?_
  conv => whnf
  refine CallsF.call [] [] (clamp_spec 2 65535 (by decide)) rfl rfl rfl rfl rfl (.inl rfl) ?_
  conv => whnf
  refine CallsF.call [] [] (clamp_spec 3 1073741824 (by decide)) rfl rfl rfl rfl rfl (.inl rfl) ?_
  conv => whnf
  refine ⟨.inl ⟨_, rfl⟩, ?_⟩
  conv => whnf
  refine CallsF.call [] [] (clamp_spec 12 1073741824 (by decide)) rfl rfl rfl rfl rfl (.inl rfl) ?_
  conv => whnf
  refine LoopA.steps 2 [5, 6, 7] [] [] (by rfl) ?_
  conv => whnf
  refine pt_of [5, 6, 7] [] [] (by rfl) ?_
  conv => whnf
  exact ⟨[], [], rfl, rfl, rfl⟩

theorem rate_spec : CallsF Tryd.prog 10 [iv 3, iv 8] [] (iv 3000) [] := by
  refine e10 ?_
  conv => whnf
  refine CallsF.call [] [] (clamp_spec 8 1099511627776 (by decide)) rfl rfl rfl rfl rfl (.inl rfl) ?_
  conv => whnf
  refine CallsF.call [] [] (clamp_spec 3 1099511627776 (by decide)) rfl rfl rfl rfl rfl (.inl rfl) ?_
  conv => whnf
  exact ⟨[], [], rfl, rfl, rfl⟩

theorem first_g : gF ⟨1, 1, [4]⟩ ⟨1, 1, [4 + 1]⟩ ⟨1, 1, [4 + 2]⟩ ⟨1, 1, [6]⟩ ⟨1, 1, [6 + 1]⟩ ⟨1, 1, [6 + 2]⟩ = ⟨3, 3, 2, 6, 12⟩ := by decide
theorem first_h : histL 3 1 [0, 5, 9] 2 9 = [1, 2] := by decide
theorem ok1 (n : Int) (h1 : -1000 ≤ n) (h2 : n ≤ 1000) : Pl.ok ⟨1, 1, [n]⟩ := by
  intro m hm
  simp only [List.mem_singleton] at hm
  subst hm
  unfold okI; omega

set_option maxHeartbeats 4000000 in
set_option maxRecDepth 10000 in
theorem first_spec : CallsF Tryd.prog 7 [] [] (.bool true) [] := by
  have f := frames_spec ⟨1, 1, [4]⟩ ⟨1, 1, [4 + 1]⟩ ⟨1, 1, [4 + 2]⟩ ⟨1, 1, [6]⟩ ⟨1, 1, [6 + 1]⟩ ⟨1, 1, [6 + 2]⟩ (ok1 _ (by decide) (by decide)) (ok1 _ (by decide) (by decide)) (ok1 _ (by decide) (by decide)) (ok1 _ (by decide) (by decide)) (ok1 _ (by decide) (by decide)) (ok1 _ (by decide) (by decide))
  rw [first_g] at f
  have g := hist_spec 3 1 [0, 5, 9] 2 9
  rw [first_h] at g
  have t0 := text0_spec
  have l0 := level_spec
  have r0 := rate_spec
  refine e7 ?_
  conv => whnf
  refine CallsF.call [] [] (one_spec 4 (by decide)) rfl rfl rfl rfl rfl (.inl rfl) ?_
  conv => whnf
  refine CallsF.call [] [] (one_spec 6 (by decide)) rfl rfl rfl rfl rfl (.inl rfl) ?_
  conv => whnf
  refine CallsF.call [] [] f rfl rfl rfl rfl rfl (.inl rfl) ?_
  conv => whnf
  refine CallsA.frz [1] ?_
  conv => whnf
  refine CallsF.call [] [] g rfl rfl rfl rfl rfl (.inl rfl) ?_
  conv => whnf
  refine CallsF.call [] [] l0 rfl rfl rfl rfl rfl (.inl rfl) ?_
  conv => whnf
  refine CallsF.call [] [] r0 rfl rfl rfl rfl rfl (.inl rfl) ?_
  conv => whnf
  refine CallsF.call [] [] t0 rfl rfl rfl rfl rfl (.inl rfl) ?_
  conv => whnf
  refine CallsF.call [] [] (join_spec ⟨3, 3, 2, 6, 12⟩ ⟨3, 3, 2, 6, 12⟩) rfl rfl rfl rfl rfl (.inl rfl) ?_
  conv => whnf
  exact ⟨[], [], rfl, rfl, rfl⟩

end Go.Proofs.TrydN

