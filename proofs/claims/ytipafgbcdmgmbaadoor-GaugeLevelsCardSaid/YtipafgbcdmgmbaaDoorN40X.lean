/- The library's strconv.Itoa at any number, laid at this program. -/
import Derived.Test.YtipafgbcdmgmbaaDoorN40W
namespace Go.Proofs.TrydN
open Go Go.AL Go.Proofs Go.Shelf

theorem lays171M : Go.Proofs.LaysM.n171 Tryd.prog lays171_ren := { lays171 with
  i0 := by kernel_rfl
  i2 := by kernel_rfl
  i3 := by kernel_rfl
  i4 := by kernel_rfl
  i5 := by kernel_rfl
  i9 := by kernel_rfl
  i20 := by kernel_rfl
  i37 := by kernel_rfl
  i46 := by kernel_rfl
  i51 := by kernel_rfl
  i53 := by kernel_rfl
  i171 := by kernel_rfl
  i173 := by kernel_rfl
  i212 := by kernel_rfl
  i232 := by kernel_rfl
  i233 := by kernel_rfl
  m17 := by kernel_rfl
  m18 := by kernel_rfl
  m19 := by kernel_rfl }
theorem itoaAny_spec (n : Int) (h : okI n) : CallsF Tryd.prog 27 [iv n] [] (.str (iB n)) [] :=
  CallsF.itoaAny lays171M (by kernel_rfl) n (by unfold okI at h; omega) (by unfold okI at h; omega) []

end Go.Proofs.TrydN

