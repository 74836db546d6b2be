/- Small words for contracts. Seat-independent. -/
import Derived.Test.YtamgmfinkgdkjaaDoorAL28
namespace Go.AL

theorem wrap_id {n : Int} (h1 : -9223372036854775808 ≤ n) (h2 : n ≤ 9223372036854775807) : IntKind.wrap .i64 n = n := by
  rw [IntKind.wrap_i64]; omega

theorem wrap_u64 {n : Int} (h1 : 0 ≤ n) (h2 : n < 2 ^ 64) : IntKind.wrap .u64 n = n := by
  simp [IntKind.wrap, IntKind.bits, IntKind.signed]; omega

theorem wrap_u64_nn (n : Int) : 0 ≤ IntKind.wrap .u64 n ∧ IntKind.wrap .u64 n < 2 ^ 64 := by
  simp [IntKind.wrap, IntKind.bits, IntKind.signed]; omega

/-- A whole number. -/
abbrev iv (n : Int) : AV := .int .i64 n

/-- A plane, as it is handed over. -/
def pl (w h : Int) (v : List Int) : AV := .agg [.int .i64 w, .int .i64 h, .ri .i64 v]

theorem getD_at {v : List Int} {i : Nat} (h : i < v.length) : v.getD i 0 = v[i] := by simp [List.getD, h]

end Go.AL
