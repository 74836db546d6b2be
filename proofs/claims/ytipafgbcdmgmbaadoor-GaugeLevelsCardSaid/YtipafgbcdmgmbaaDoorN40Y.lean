/- Layer 40: the law of levels: levels, rates and texts of any gauge. -/
import Derived.Test.YtipafgbcdmgmbaaDoorN40X
namespace Go.Proofs.TrydN
open Go Go.AL Go.Proofs

theorem str_self (s : ByteArray) : (s == s) = true := by
  show (s.data == s.data) = true
  exact beq_self_eq_true _
theorem take_all (l : List Int) : (l.drop 0).take l.length = l := by rw [List.drop_zero, List.take_length]

set_option maxHeartbeats 4000000 in
set_option maxRecDepth 10000 in
theorem levels_spec (g : G) (peak b c : Int) (h0 : okI g.c) (h1 : okI g.d) (h2 : okI g.w) (h3 : okI g.s) (h4 : okI g.q) : CallsF Tryd.prog 3 [g.av, iv peak, .agg [iv b, iv c]] [] (.bool true) [] := by
  have k0 := levelA_spec g peak
  have k1 := rlevelA_spec g peak
  have k2 := rateA_spec b c
  have k3 := rrateA_spec b c
  have hz : (tB g).size ≤ 140737488355328 := by
    have s0 := iB_size h0
    have s1 := iB_size h1
    have s2 := iB_size h2
    have s3 := iB_size h3
    have s4 := iB_size h4
    have z0 : (⟨#[99, 111, 117, 110, 116, 32]⟩ : ByteArray).size = 6 := rfl
    have z1 : (⟨#[32, 100, 105, 102, 102, 101, 114, 32]⟩ : ByteArray).size = 8 := rfl
    have z2 : (⟨#[32, 119, 111, 114, 115, 116, 32]⟩ : ByteArray).size = 7 := rfl
    have z3 : (⟨#[32, 115, 117, 109, 32]⟩ : ByteArray).size = 5 := rfl
    have z4 : (⟨#[32, 115, 113, 117, 97, 114, 101, 115, 32]⟩ : ByteArray).size = 9 := rfl
    unfold tB
    simp only [ByteArray.size_append, z0, z1, z2, z3, z4]
    omega
  have k4 := text_spec g itoaAny_spec h0 h1 h2 h3 h4 (by rw [jn_eq]; exact hz)
  rw [jn_eq] at k4
  have k5 := rtext_spec g h0 h1 h2 h3 h4
  generalize tB g = t at *
  generalize levelI g.c g.q peak = lv at *
  generalize rateI b c = rt at *
  obtain ⟨g0, g1, g2, g3, g4⟩ := g
  clear h0 h1 h2 h3 h4 hz
  replace k0 : CallsF Tryd.prog 8 [.agg [iv g0, iv g1, iv g2, iv g3, iv g4], iv peak] [] (iv lv) [] := k0
  replace k1 : CallsF Tryd.prog 9 [.agg [iv g0, iv g1, iv g2, iv g3, iv g4], iv peak] [] (iv lv) [] := k1
  replace k4 : CallsF Tryd.prog 12 [.agg [iv g0, iv g1, iv g2, iv g3, iv g4]] [] (.str t) [] := k4
  replace k5 : CallsF Tryd.prog 13 [.agg [iv g0, iv g1, iv g2, iv g3, iv g4]] [] (.str t) [] := k5
  refine e3 ?_
  conv => whnf
  refine CallsF.call [] [] first_spec rfl rfl rfl rfl rfl (.inl rfl) ?_
  conv => whnf
  refine CallsF.call [] [] k0 rfl rfl rfl rfl rfl (.inl rfl) ?_
  conv => whnf
  refine ⟨.inl ⟨_, rfl⟩, ?_⟩
  conv => whnf
  refine CallsF.call [] [] k1 rfl rfl rfl rfl rfl (.inl rfl) ?_
  conv => whnf
  rw [beq_self_eq_true]
  conv => whnf
  refine CallsF.call [] [] k2 rfl rfl rfl rfl rfl (.inl rfl) ?_
  conv => whnf
  refine ⟨.inl ⟨_, rfl⟩, ?_⟩
  conv => whnf
  refine CallsF.call [] [] k3 rfl rfl rfl rfl rfl (.inl rfl) ?_
  conv => whnf
  rw [beq_self_eq_true]
  conv => whnf
  refine CallsF.call [] [] k4 rfl rfl rfl rfl rfl (.inl rfl) ?_
  conv => whnf
  refine ⟨.inl ⟨_, rfl⟩, ?_⟩
  conv => whnf
  refine CallsF.call [] [] k5 rfl rfl rfl rfl rfl (.inl rfl) ?_
  conv => whnf
  exact ⟨[], [], rfl, congrArg AV.bool (str_self t), rfl⟩

end Go.Proofs.TrydN

