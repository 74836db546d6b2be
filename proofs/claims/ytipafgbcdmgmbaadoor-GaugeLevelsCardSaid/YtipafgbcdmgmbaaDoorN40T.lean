/- Layer 40: the document's text of a gauge. -/
import Derived.Test.YtipafgbcdmgmbaaDoorN40N
namespace Go.Proofs.TrydN
open Go Go.AL Go.Proofs

def iB (n : Int) : ByteArray := ⟨(Lib.itoa n).toArray⟩
theorem decD_len : ∀ (k u : Nat), u < 10 ^ (k + 1) → (Lib.decDigits u).length ≤ k + 1
  | 0, u, h => by rw [decD_lt (by omega)]; simp
  | k + 1, u, h => by
    by_cases hu : u < 10
    · rw [decD_lt hu]; simp
    · have h2 := decD_len k (u / 10) (by rw [Nat.pow_succ] at h; omega)
      rw [decD_ge hu, List.length_append, List.length_singleton]; omega
theorem iB_size {n : Int} (h : okI n) : (iB n).size ≤ 21 := by
  unfold okI at h
  have hs : (iB n).size = (Lib.itoa n).length := List.size_toArray
  rw [hs, Lib.itoa]
  split
  · have := decD_len 19 n.natAbs (by omega)
    rw [List.length_cons]; omega
  · have := decD_len 19 n.toNat (by omega)
    omega

/-- The text of a gauge. -/
def tB (g : G) : ByteArray := (((((((((⟨#[99, 111, 117, 110, 116, 32]⟩ : ByteArray) ++ iB g.c) ++ (⟨#[32, 100, 105, 102, 102, 101, 114, 32]⟩ : ByteArray)) ++ iB g.d) ++ (⟨#[32, 119, 111, 114, 115, 116, 32]⟩ : ByteArray)) ++ iB g.w) ++ (⟨#[32, 115, 117, 109, 32]⟩ : ByteArray)) ++ iB g.s) ++ (⟨#[32, 115, 113, 117, 97, 114, 101, 115, 32]⟩ : ByteArray)) ++ iB g.q

set_option maxHeartbeats 4000000 in
set_option maxRecDepth 10000 in
theorem rtext_spec (g : G) (h0 : okI g.c) (h1 : okI g.d) (h2 : okI g.w) (h3 : okI g.s) (h4 : okI g.q) : CallsF Tryd.prog 13 [g.av] [] (.str (tB g)) [] := by
  have s0 := iB_size h0
  have s1 := iB_size h1
  have s2 := iB_size h2
  have s3 := iB_size h3
  have s4 := iB_size h4
  have k0 : CallsF Tryd.prog 29 [iv g.c] [] (.str (iB g.c)) [] := num_spec g.c h0
  have k1 : CallsF Tryd.prog 29 [iv g.d] [] (.str (iB g.d)) [] := num_spec g.d h1
  have k2 : CallsF Tryd.prog 29 [iv g.w] [] (.str (iB g.w)) [] := num_spec g.w h2
  have k3 : CallsF Tryd.prog 29 [iv g.s] [] (.str (iB g.s)) [] := num_spec g.s h3
  have k4 : CallsF Tryd.prog 29 [iv g.q] [] (.str (iB g.q)) [] := num_spec g.q h4
  unfold tB
  generalize iB g.c = b0 at *
  generalize iB g.d = b1 at *
  generalize iB g.w = b2 at *
  generalize iB g.s = b3 at *
  generalize iB g.q = b4 at *
  have z0 : (⟨#[99, 111, 117, 110, 116, 32]⟩ : ByteArray).size = 6 := rfl
  have z1 : (⟨#[32, 100, 105, 102, 102, 101, 114, 32]⟩ : ByteArray).size = 8 := rfl
  have z2 : (⟨#[32, 119, 111, 114, 115, 116, 32]⟩ : ByteArray).size = 7 := rfl
  have z3 : (⟨#[32, 115, 117, 109, 32]⟩ : ByteArray).size = 5 := rfl
  have z4 : (⟨#[32, 115, 113, 117, 97, 114, 101, 115, 32]⟩ : ByteArray).size = 9 := rfl
  refine e13 ?_
  conv => whnf
  refine CallsF.call [] [] k0 rfl rfl rfl rfl rfl (.inl rfl) ?_
  conv => whnf
  refine ⟨.inl ⟨_, rfl⟩, ?_⟩
  conv => whnf
  refine need_of ((decide_eq_true (by simp only [ByteArray.size_append, z0, z1, z2, z3, z4]; omega))) ?_
  conv => whnf
  refine need_of ((decide_eq_true (by simp only [ByteArray.size_append, z0, z1, z2, z3, z4]; omega))) ?_
  conv => whnf
  refine CallsF.call [] [] k1 rfl rfl rfl rfl rfl (.inl rfl) ?_
  conv => whnf
  refine ⟨.inl ⟨_, rfl⟩, ?_⟩
  conv => whnf
  refine need_of ((decide_eq_true (by simp only [ByteArray.size_append, z0, z1, z2, z3, z4]; omega))) ?_
  conv => whnf
  refine need_of ((decide_eq_true (by simp only [ByteArray.size_append, z0, z1, z2, z3, z4]; omega))) ?_
  conv => whnf
  refine CallsF.call [] [] k2 rfl rfl rfl rfl rfl (.inl rfl) ?_
  conv => whnf
  refine ⟨.inl ⟨_, rfl⟩, ?_⟩
  conv => whnf
  refine need_of ((decide_eq_true (by simp only [ByteArray.size_append, z0, z1, z2, z3, z4]; omega))) ?_
  conv => whnf
  refine need_of ((decide_eq_true (by simp only [ByteArray.size_append, z0, z1, z2, z3, z4]; omega))) ?_
  conv => whnf
  refine CallsF.call [] [] k3 rfl rfl rfl rfl rfl (.inl rfl) ?_
  conv => whnf
  refine ⟨.inl ⟨_, rfl⟩, ?_⟩
  conv => whnf
  refine need_of ((decide_eq_true (by simp only [ByteArray.size_append, z0, z1, z2, z3, z4]; omega))) ?_
  conv => whnf
  refine need_of ((decide_eq_true (by simp only [ByteArray.size_append, z0, z1, z2, z3, z4]; omega))) ?_
  conv => whnf
  refine CallsF.call [] [] k4 rfl rfl rfl rfl rfl (.inl rfl) ?_
  conv => whnf
  refine need_of ((decide_eq_true (by simp only [ByteArray.size_append, z0, z1, z2, z3, z4]; omega))) ?_
  conv => whnf
  exact ⟨[], [], rfl, rfl, rfl⟩

end Go.Proofs.TrydN

