/- Law 17: what is answered ahead of everything else. -/
import Derived.Test.YticofpkggbdnpaaN17P
namespace Go.Proofs.TryN
open Go Go.AL Go.Proofs

def firstF : Fld := ⟨2, 1, [2, 1], ⟨1, false, 5, -3, 0, 0, 0, 0, 0⟩ :: ⟨0, false, 0, 0, 0, 0, 7, 8, 9⟩ :: List.replicate 30 Blk.zero⟩

theorem f_split : splitN firstF 1 = 2 := by kernel_rfl
theorem f_mode : modeN (nearL firstF 1 0) = 1 := by kernel_rfl
theorem f_vec : vecN 0 (nearL firstF 1 0) = .agg [iv 5, iv (-3)] := by kernel_rfl
theorem f_dc : dcN 1 (nearL firstF 2 0) = 8 := by kernel_rfl
theorem f_glob : mostB Blk.g (nearL firstF 1 1) = false := by kernel_rfl
theorem f_mode0 : modeN (nearL firstF 0 0) = 0 := by kernel_rfl

set_option maxRecDepth 10000 in
theorem first17_spec : CallsF Try.prog 6 [] [] (.bool true) [] := by
  refine e6 ?_
  conv => whnf
  refine CallsF.call [] [0, 1] (split_spec firstF 1) rfl rfl rfl rfl rfl (.inr rfl) ?_
  conv => whnf
  rw [f_split]
  conv => whnf
  refine CallsF.call [] [0, 1] (mode_spec firstF 1 0) rfl rfl rfl rfl rfl (.inr rfl) ?_
  conv => whnf
  rw [f_mode]
  conv => whnf
  refine CallsF.call [] [0, 1] (vec_spec firstF 0 1 0) rfl rfl rfl rfl rfl (.inr rfl) ?_
  conv => whnf
  refine CallsF.call [] [0, 1] (dc_spec firstF 1 2 0) rfl rfl rfl rfl rfl (.inr rfl) ?_
  conv => whnf
  rw [f_dc]
  conv => whnf
  refine CallsF.call [] [0, 1] (global_spec firstF 1 1) rfl rfl rfl rfl rfl (.inr rfl) ?_
  conv => whnf
  rw [f_glob]
  conv => whnf
  refine CallsF.call [] [0, 1] (mode_spec firstF 0 0) rfl rfl rfl rfl rfl (.inr rfl) ?_
  conv => whnf
  rw [f_mode0]
  exact ⟨[], [], rfl, rfl, rfl⟩
end Go.Proofs.TryN

