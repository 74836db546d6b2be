/- Layer 40: both texts are the same. -/
import Derived.Test.YtipafgbcdmgmbaaDoorN40U
namespace Go.Proofs.TrydN
open Go Go.AL Go.Proofs

theorem jn_eq (g : G) : jnB (iB g.c) (iB g.d) (iB g.w) (iB g.s) (iB g.q) = tB g := by
  unfold tB
  generalize iB g.c = b0
  generalize iB g.d = b1
  generalize iB g.w = b2
  generalize iB g.s = b3
  generalize iB g.q = b4
  apply ByteArray.ext
  apply Array.toList_inj.1
  simp only [jnB, ByteArray.data_append, Array.toList_append, List.map, Lib.join]
  simp

end Go.Proofs.TrydN

