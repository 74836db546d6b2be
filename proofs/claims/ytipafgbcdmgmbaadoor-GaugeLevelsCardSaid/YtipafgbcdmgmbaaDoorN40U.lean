/- Layer 40: the text of any gauge, by what strconv.Itoa answers. -/
import Derived.Test.YtipafgbcdmgmbaaDoorN40T
namespace Go.Proofs.TrydN
open Go Go.AL Go.Proofs

def txtB (b0 b1 b2 b3 b4 : ByteArray) : List (List AV) := [[.str ⟨#[99, 111, 117, 110, 116]⟩], [.str b0], [.str ⟨#[100, 105, 102, 102, 101, 114]⟩], [.str b1], [.str ⟨#[119, 111, 114, 115, 116]⟩], [.str b2], [.str ⟨#[115, 117, 109]⟩], [.str b3], [.str ⟨#[115, 113, 117, 97, 114, 101, 115]⟩], [.str b4]]
def jnB (b0 b1 b2 b3 b4 : ByteArray) : ByteArray := ⟨(Lib.join (([⟨#[99, 111, 117, 110, 116]⟩, b0, ⟨#[100, 105, 102, 102, 101, 114]⟩, b1, ⟨#[119, 111, 114, 115, 116]⟩, b2, ⟨#[115, 117, 109]⟩, b3, ⟨#[115, 113, 117, 97, 114, 101, 115]⟩, b4] : List ByteArray).map (·.data.toList)) [32]).toArray⟩

set_option maxHeartbeats 4000000 in
set_option maxRecDepth 10000 in
theorem text_spec (g : G) (hI : ∀ n, okI n → CallsF Tryd.prog 27 [iv n] [] (.str (iB n)) []) (h0 : okI g.c) (h1 : okI g.d) (h2 : okI g.w) (h3 : okI g.s) (h4 : okI g.q)
    (hlen : (jnB (iB g.c) (iB g.d) (iB g.w) (iB g.s) (iB g.q)).size ≤ 140737488355328) : CallsF Tryd.prog 12 [g.av] [] (.str (jnB (iB g.c) (iB g.d) (iB g.w) (iB g.s) (iB g.q))) [] := by
  have k0 := hI g.c h0
  have k1 := hI g.d h1
  have k2 := hI g.w h2
  have k3 := hI g.s h3
  have k4 := hI g.q h4
  generalize iB g.c = b0 at *
  generalize iB g.d = b1 at *
  generalize iB g.w = b2 at *
  generalize iB g.s = b3 at *
  generalize iB g.q = b4 at *
  have j : CallsF Tryd.prog 28 [.ro 1 (txtB b0 b1 b2 b3 b4), .str ⟨#[32]⟩] [] (.str (jnB b0 b1 b2 b3 b4)) [] :=
    joins_spec ⟨#[99, 111, 117, 110, 116]⟩ [b0, ⟨#[100, 105, 102, 102, 101, 114]⟩, b1, ⟨#[119, 111, 114, 115, 116]⟩, b2, ⟨#[115, 117, 109]⟩, b3, ⟨#[115, 113, 117, 97, 114, 101, 115]⟩, b4] ⟨#[32]⟩ (by simp) (by simpa only [jnB, ByteArray.size, List.size_toArray] using hlen)
  refine e12 ?_
  conv => whnf
  refine LoopA.inv (fun n st => ∃ i : Nat, n + i = 5 ∧ ((i = 0 ∧ st = ⟨[(3, .snil), (16, .agg [iv g.c, iv g.d, iv g.w, iv g.s, iv g.q]), (17, iv i)], [], 0, 0⟩) ∨ (0 < i ∧ st = ⟨[(3, .sl 0 0 (2 * i)), (16, .agg [iv g.c, iv g.d, iv g.w, iv g.s, iv g.q]), (17, iv i)], [some (.arr 1 ((txtB b0 b1 b2 b3 b4).take (2 * i)))], 1, 0⟩))) 5 [3, 16, 17] [] [] (by rfl) ?_ ?_
  · conv => whnf
    exact ⟨0, rfl, .inl ⟨rfl, rfl⟩⟩
  rintro n st ⟨i, hn, ⟨rfl, rfl⟩ | ⟨hi, rfl⟩⟩
  · conv => whnf
    refine CallsF.call [] [] k0 rfl rfl rfl rfl rfl (.inl rfl) ?_
    conv => whnf
    refine ⟨4, [3, 16, 17], [1], [], by omega, rfl, ?_⟩
    conv => whnf
    exact ⟨1, by omega, .inr ⟨by omega, rfl⟩⟩
  rcases (by omega : i = 1 ∨ i = 2 ∨ i = 3 ∨ i = 4 ∨ i = 5) with rfl | rfl | rfl | rfl | rfl
  · conv => whnf
    refine CallsF.call [] [] k1 rfl rfl rfl rfl rfl (.inl rfl) ?_
    conv => whnf
    refine ⟨3, [3, 16, 17], [2], [], by omega, rfl, ?_⟩
    conv => whnf
    exact ⟨2, by omega, .inr ⟨by omega, rfl⟩⟩
  · conv => whnf
    refine CallsF.call [] [] k2 rfl rfl rfl rfl rfl (.inl rfl) ?_
    conv => whnf
    refine ⟨2, [3, 16, 17], [2], [], by omega, rfl, ?_⟩
    conv => whnf
    exact ⟨3, by omega, .inr ⟨by omega, rfl⟩⟩
  · conv => whnf
    refine CallsF.call [] [] k3 rfl rfl rfl rfl rfl (.inl rfl) ?_
    conv => whnf
    refine ⟨1, [3, 16, 17], [2], [], by omega, rfl, ?_⟩
    conv => whnf
    exact ⟨4, by omega, .inr ⟨by omega, rfl⟩⟩
  · conv => whnf
    refine CallsF.call [] [] k4 rfl rfl rfl rfl rfl (.inl rfl) ?_
    conv => whnf
    refine ⟨0, [3, 16, 17], [2], [], by omega, rfl, ?_⟩
    conv => whnf
    exact ⟨5, by omega, .inr ⟨by omega, rfl⟩⟩
  · conv => whnf
    refine CallsF.call [] [0] j rfl rfl rfl rfl rfl (.inr rfl) ?_
    conv => whnf
    exact ⟨[], [], rfl, rfl, rfl⟩

end Go.Proofs.TrydN

