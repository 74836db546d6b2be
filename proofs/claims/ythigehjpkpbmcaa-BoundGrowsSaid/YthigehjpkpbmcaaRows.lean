/-
  No cell of these rows narrows 'for every input' (looked for: loops, veiled, ifaces, maps, wideKeys, modest, calm, conditions, laid).
  DERIVED. THE GIVEN ROWS OF THIS SEAT. 7 by the template 'for every input the law returns true; each argument reads behind the call as it read before'; 0 by the template 'total and deterministic' (their statements: YthigehjpkpbmcaaTotals.lean).
  GIVEN WITH THE SEED: the statements are not yours to turn. If you find one false, say at which input.
  Laid BY PROGRAM, IN A SANDBOX (cutbox-rows.mjs): the forced cells as the released guide's own fill.sh prints them over the translation f7a4f9ccab206929… (all of the seat's roots in one cut). By AI agents, Wed Nov 11 2026. No macro, syntax, notation, axiom, sorry.
-/
import Derived.Test.YthigehjpkpbmcaaChecked
import GoSem.Claim
import GoSem.ClaimJoined
import GoSem.ClaimMapViews
import Derived.JoinedTies
import Derived.KernelRfl
namespace Go.Proofs.Ythigehjpkpbmcaa
/- THE CELL 'sum', in the pinned program and in every row, IS THE sha256 OF THE DUMP (.gsa) THAT YthigehjpkpbmcaaProg.lean LOADS. Nothing in Lean hashes anything: it is a label: what it is worth is what the hold of that sum in a sandbox is worth. -/
noncomputable def Try.pinned : Pinned := { name := "ythigehjpkpbmcaa", sum := "f7a4f9ccab206929d79f2f6680c94922ac87cbb2935ccf81891068d607b75389", checked := Try.checked }
namespace Rows
def none {H : Type} : Left H := { results := [], args := [] }

/-- 'shinglelaw13.NearAhead': WHATEVER THE INPUT: true; the input reads as it did. -/
def nearAheadSpec : ChangeSpec := { name := "nearAhead", fn := fun _ => fun
  | [d1, d2, d3] => { results := [.lit (.bool true)], args := [d1, d2, d3] }
  | _ => none }
def nearAheadRow : OpenClaim := { program := "ythigehjpkpbmcaa", sum := "f7a4f9ccab206929d79f2f6680c94922ac87cbb2935ccf81891068d607b75389", func := "shingle/shinglelaw13.NearAhead", spec := "nearAhead", apart := false }
def NearAheadSaid : Prop := nearAheadRow.holds Try.pinned (OpenSpec.ofChange nearAheadSpec)

/-- ITS FALSE NEIGHBOUR: 'it returns false'. Refute it at one input. -/
def nearAheadWrong : ChangeSpec := { name := "nearAhead", fn := fun _ => fun
  | [d1, d2, d3] => { results := [.lit (.bool false)], args := [d1, d2, d3] }
  | _ => none }
def NearAheadWrongFalsely : Prop := nearAheadRow.holds Try.pinned (OpenSpec.ofChange nearAheadWrong)

/-- 'shinglelaw13.NearSets': WHATEVER THE INPUT: true; the input reads as it did. -/
def nearSetsSpec : ChangeSpec := { name := "nearSets", fn := fun _ => fun
  | [d1, d2, d3] => { results := [.lit (.bool true)], args := [d1, d2, d3] }
  | _ => none }
def nearSetsRow : OpenClaim := { program := "ythigehjpkpbmcaa", sum := "f7a4f9ccab206929d79f2f6680c94922ac87cbb2935ccf81891068d607b75389", func := "shingle/shinglelaw13.NearSets", spec := "nearSets", apart := false }
def NearSetsSaid : Prop := nearSetsRow.holds Try.pinned (OpenSpec.ofChange nearSetsSpec)

/-- ITS FALSE NEIGHBOUR: 'it returns false'. Refute it at one input. -/
def nearSetsWrong : ChangeSpec := { name := "nearSets", fn := fun _ => fun
  | [d1, d2, d3] => { results := [.lit (.bool false)], args := [d1, d2, d3] }
  | _ => none }
def NearSetsWrongFalsely : Prop := nearSetsRow.holds Try.pinned (OpenSpec.ofChange nearSetsWrong)

/-- 'shinglelaw26.OrderRuns': WHATEVER THE INPUT: true; the input reads as it did. -/
def orderRunsSpec : ChangeSpec := { name := "orderRuns", fn := fun _ => fun
  | [d1, d2] => { results := [.lit (.bool true)], args := [d1, d2] }
  | _ => none }
def orderRunsRow : OpenClaim := { program := "ythigehjpkpbmcaa", sum := "f7a4f9ccab206929d79f2f6680c94922ac87cbb2935ccf81891068d607b75389", func := "shingle/shinglelaw26.OrderRuns", spec := "orderRuns", inPlace := ["slices.overlaps[shingle/order.item]"], unfollowed := true, recurses := true, apart := false }
def OrderRunsSaid : Prop := orderRunsRow.holds Try.pinned (OpenSpec.ofChange orderRunsSpec)

/-- ITS FALSE NEIGHBOUR: 'it returns false'. Refute it at one input. -/
def orderRunsWrong : ChangeSpec := { name := "orderRuns", fn := fun _ => fun
  | [d1, d2] => { results := [.lit (.bool false)], args := [d1, d2] }
  | _ => none }
def OrderRunsWrongFalsely : Prop := orderRunsRow.holds Try.pinned (OpenSpec.ofChange orderRunsWrong)

/-- 'shinglelaw26.OrderPlay': WHATEVER THE INPUT: true; the input reads as it did. -/
def orderPlaySpec : ChangeSpec := { name := "orderPlay", fn := fun _ => fun
  | [d] => { results := [.lit (.bool true)], args := [d] }
  | _ => none }
def orderPlayRow : OpenClaim := { program := "ythigehjpkpbmcaa", sum := "f7a4f9ccab206929d79f2f6680c94922ac87cbb2935ccf81891068d607b75389", func := "shingle/shinglelaw26.OrderPlay", spec := "orderPlay", inPlace := ["slices.overlaps[shingle/order.item]"], unfollowed := true, recurses := true, apart := false }
def OrderPlaySaid : Prop := orderPlayRow.holds Try.pinned (OpenSpec.ofChange orderPlaySpec)

/-- ITS FALSE NEIGHBOUR: 'it returns false'. Refute it at one input. -/
def orderPlayWrong : ChangeSpec := { name := "orderPlay", fn := fun _ => fun
  | [d] => { results := [.lit (.bool false)], args := [d] }
  | _ => none }
def OrderPlayWrongFalsely : Prop := orderPlayRow.holds Try.pinned (OpenSpec.ofChange orderPlayWrong)

/-- 'shinglelaw36.BoundTells': WHATEVER THE INPUT: true; the input reads as it did. -/
def boundTellsSpec : ChangeSpec := { name := "boundTells", fn := fun _ => fun
  | [d1, d2, d3] => { results := [.lit (.bool true)], args := [d1, d2, d3] }
  | _ => none }
def boundTellsRow : OpenClaim := { program := "ythigehjpkpbmcaa", sum := "f7a4f9ccab206929d79f2f6680c94922ac87cbb2935ccf81891068d607b75389", func := "shingle/shinglelaw36.BoundTells", spec := "boundTells", unfollowed := true, recurses := true, apart := false }
def BoundTellsSaid : Prop := boundTellsRow.holds Try.pinned (OpenSpec.ofChange boundTellsSpec)

/-- ITS FALSE NEIGHBOUR: 'it returns false'. Refute it at one input. -/
def boundTellsWrong : ChangeSpec := { name := "boundTells", fn := fun _ => fun
  | [d1, d2, d3] => { results := [.lit (.bool false)], args := [d1, d2, d3] }
  | _ => none }
def BoundTellsWrongFalsely : Prop := boundTellsRow.holds Try.pinned (OpenSpec.ofChange boundTellsWrong)

/-- 'shinglelaw36.BoundFilms': WHATEVER THE INPUT: true; the input reads as it did. -/
def boundFilmsSpec : ChangeSpec := { name := "boundFilms", fn := fun _ => fun
  | [d1, d2] => { results := [.lit (.bool true)], args := [d1, d2] }
  | _ => none }
def boundFilmsRow : OpenClaim := { program := "ythigehjpkpbmcaa", sum := "f7a4f9ccab206929d79f2f6680c94922ac87cbb2935ccf81891068d607b75389", func := "shingle/shinglelaw36.BoundFilms", spec := "boundFilms", unfollowed := true, recurses := true, apart := false }
def BoundFilmsSaid : Prop := boundFilmsRow.holds Try.pinned (OpenSpec.ofChange boundFilmsSpec)

/-- ITS FALSE NEIGHBOUR: 'it returns false'. Refute it at one input. -/
def boundFilmsWrong : ChangeSpec := { name := "boundFilms", fn := fun _ => fun
  | [d1, d2] => { results := [.lit (.bool false)], args := [d1, d2] }
  | _ => none }
def BoundFilmsWrongFalsely : Prop := boundFilmsRow.holds Try.pinned (OpenSpec.ofChange boundFilmsWrong)

/-- 'shinglelaw36.BoundGrows': WHATEVER THE INPUT: true; the input reads as it did. -/
def boundGrowsSpec : ChangeSpec := { name := "boundGrows", fn := fun _ => fun
  | [d1, d2, d3] => { results := [.lit (.bool true)], args := [d1, d2, d3] }
  | _ => none }
def boundGrowsRow : OpenClaim := { program := "ythigehjpkpbmcaa", sum := "f7a4f9ccab206929d79f2f6680c94922ac87cbb2935ccf81891068d607b75389", func := "shingle/shinglelaw36.BoundGrows", spec := "boundGrows", unfollowed := true, recurses := true, apart := false }
def BoundGrowsSaid : Prop := boundGrowsRow.holds Try.pinned (OpenSpec.ofChange boundGrowsSpec)

/-- ITS FALSE NEIGHBOUR: 'it returns false'. Refute it at one input. -/
def boundGrowsWrong : ChangeSpec := { name := "boundGrows", fn := fun _ => fun
  | [d1, d2, d3] => { results := [.lit (.bool false)], args := [d1, d2, d3] }
  | _ => none }
def BoundGrowsWrongFalsely : Prop := boundGrowsRow.holds Try.pinned (OpenSpec.ofChange boundGrowsWrong)

/- THE SECOND FORM. 'bulk': how many values and letters a reading holds, each counted each time it is reached (what is shared counts as often as it is met; a slice's spare places count too). A statement '..UptoSaid' is the law's where the arguments, and the package variables that the reading takes, are together of bulk at most 1048576: NARROWER than '..Said'. Prove '..Said' where nothing that the law and all that it calls make is longer than what came in: it says more and counts as full. Else prove '..UptoSaid'. A law counts once. -/
mutual
def uptoBulk {H : Type} : DataW H → Nat
  | .lit (.string bytes) => bytes.length + 1
  | .lit _ => 1
  | .nil => 1
  | .ptr d => uptoBulk d + 1
  | .slice elems spare => uptoBulkAll elems + uptoBulkAll spare + 1
  | .agg parts => uptoBulkAll parts + 1
  | .iface _ d => uptoBulk d + 1
  | .map entries => uptoBulkEntries entries + 1
  | .held _ => 1
def uptoBulkAll {H : Type} : List (DataW H) → Nat
  | [] => 0
  | d :: r => uptoBulk d + uptoBulkAll r
def uptoBulkEntries {H : Type} : List (Lit × DataW H) → Nat
  | [] => 0
  | x :: r => uptoBulkEntry x + uptoBulkEntries r
def uptoBulkEntry {H : Type} : Lit × DataW H → Nat
  | (.string bytes, d) => bytes.length + uptoBulk d + 1
  | (_, d) => uptoBulk d + 1
 end
def uptoSmall : (H : Type) → List (DataW H) → Bool := fun _ ds => decide (uptoBulkAll ds ≤ 1048576)
def OpenSpec.upto (s : _root_.Go.ChangeSpec) : _root_.Go.OpenSpec := { _root_.Go.OpenSpec.ofChange s with cond := some uptoSmall }

/-- 'shinglelaw13.NearAhead', WHERE WHAT IT READS IS OF BULK AT MOST 1048576: true; the input reads as it did. -/
def nearAheadUptoRow : OpenClaim := { program := "ythigehjpkpbmcaa", sum := "f7a4f9ccab206929d79f2f6680c94922ac87cbb2935ccf81891068d607b75389", func := "shingle/shinglelaw13.NearAhead", spec := "nearAhead", apart := false, narrowed := true }
def NearAheadUptoSaid : Prop := nearAheadUptoRow.holds Try.pinned (OpenSpec.upto nearAheadSpec)

/-- 'shinglelaw13.NearSets', WHERE WHAT IT READS IS OF BULK AT MOST 1048576: true; the input reads as it did. -/
def nearSetsUptoRow : OpenClaim := { program := "ythigehjpkpbmcaa", sum := "f7a4f9ccab206929d79f2f6680c94922ac87cbb2935ccf81891068d607b75389", func := "shingle/shinglelaw13.NearSets", spec := "nearSets", apart := false, narrowed := true }
def NearSetsUptoSaid : Prop := nearSetsUptoRow.holds Try.pinned (OpenSpec.upto nearSetsSpec)

/-- 'shinglelaw26.OrderRuns', WHERE WHAT IT READS IS OF BULK AT MOST 1048576: true; the input reads as it did. -/
def orderRunsUptoRow : OpenClaim := { program := "ythigehjpkpbmcaa", sum := "f7a4f9ccab206929d79f2f6680c94922ac87cbb2935ccf81891068d607b75389", func := "shingle/shinglelaw26.OrderRuns", spec := "orderRuns", inPlace := ["slices.overlaps[shingle/order.item]"], unfollowed := true, recurses := true, apart := false, narrowed := true }
def OrderRunsUptoSaid : Prop := orderRunsUptoRow.holds Try.pinned (OpenSpec.upto orderRunsSpec)

/-- 'shinglelaw26.OrderPlay', WHERE WHAT IT READS IS OF BULK AT MOST 1048576: true; the input reads as it did. -/
def orderPlayUptoRow : OpenClaim := { program := "ythigehjpkpbmcaa", sum := "f7a4f9ccab206929d79f2f6680c94922ac87cbb2935ccf81891068d607b75389", func := "shingle/shinglelaw26.OrderPlay", spec := "orderPlay", inPlace := ["slices.overlaps[shingle/order.item]"], unfollowed := true, recurses := true, apart := false, narrowed := true }
def OrderPlayUptoSaid : Prop := orderPlayUptoRow.holds Try.pinned (OpenSpec.upto orderPlaySpec)

/-- 'shinglelaw36.BoundTells', WHERE WHAT IT READS IS OF BULK AT MOST 1048576: true; the input reads as it did. -/
def boundTellsUptoRow : OpenClaim := { program := "ythigehjpkpbmcaa", sum := "f7a4f9ccab206929d79f2f6680c94922ac87cbb2935ccf81891068d607b75389", func := "shingle/shinglelaw36.BoundTells", spec := "boundTells", unfollowed := true, recurses := true, apart := false, narrowed := true }
def BoundTellsUptoSaid : Prop := boundTellsUptoRow.holds Try.pinned (OpenSpec.upto boundTellsSpec)

/-- 'shinglelaw36.BoundFilms', WHERE WHAT IT READS IS OF BULK AT MOST 1048576: true; the input reads as it did. -/
def boundFilmsUptoRow : OpenClaim := { program := "ythigehjpkpbmcaa", sum := "f7a4f9ccab206929d79f2f6680c94922ac87cbb2935ccf81891068d607b75389", func := "shingle/shinglelaw36.BoundFilms", spec := "boundFilms", unfollowed := true, recurses := true, apart := false, narrowed := true }
def BoundFilmsUptoSaid : Prop := boundFilmsUptoRow.holds Try.pinned (OpenSpec.upto boundFilmsSpec)

/-- 'shinglelaw36.BoundGrows', WHERE WHAT IT READS IS OF BULK AT MOST 1048576: true; the input reads as it did. -/
def boundGrowsUptoRow : OpenClaim := { program := "ythigehjpkpbmcaa", sum := "f7a4f9ccab206929d79f2f6680c94922ac87cbb2935ccf81891068d607b75389", func := "shingle/shinglelaw36.BoundGrows", spec := "boundGrows", unfollowed := true, recurses := true, apart := false, narrowed := true }
def BoundGrowsUptoSaid : Prop := boundGrowsUptoRow.holds Try.pinned (OpenSpec.upto boundGrowsSpec)

end Rows
end Go.Proofs.Ythigehjpkpbmcaa
