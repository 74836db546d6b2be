/-
  NARROWER THAN 'FOR EVERY INPUT', by the rows' own cells (each row's printed sentence says how): ArithPuts: laid · ArithGets: laid · ArithBack: laid · ArithTail: laid · BinsPuts: laid · BinsCosts: laid · BinsGets: laid · BinsBack: laid.
  DERIVED. THE GIVEN ROWS OF THIS SEAT. 8 by the template 'for every input the law returns true; each argument reads behind the call as it read before'; 0 by the template 'total and deterministic' (their statements: YtamgmfinkgdkjaaDoorTotals.lean).
  GIVEN WITH THE SEED: the statements are not yours to turn. If you find one false, say at which input.
  Laid BY PROGRAM, IN A SANDBOX (cutbox-rows.mjs): the forced cells as the released guide's own fill.sh prints them over the translation b93a89edb323a714… (all of the seat's roots in one cut). By AI agents, Wed Nov 11 2026. No macro, syntax, notation, axiom, sorry.
-/
import Derived.Test.YtamgmfinkgdkjaaDoorChecked
import GoSem.PinnedTables
import GoSem.Claim
import GoSem.ClaimJoined
import GoSem.ClaimMapViews
import Derived.JoinedTies
import Derived.KernelRfl
namespace Go.Proofs.YtamgmfinkgdkjaaDoor
/- THE CELL 'sum', in the pinned program and in every row, IS THE sha256 OF THE DUMP (.gsa) THAT YtamgmfinkgdkjaaDoorProg.lean LOADS. Nothing in Lean hashes anything: it is a label: what it is worth is what the hold of that sum in a sandbox is worth. -/
noncomputable def Tryd.pinned : Pinned := { name := "ytamgmfinkgdkjaadoor", sum := "b93a89edb323a714880070c68b1d4d35db97d9a9984061ea9cfcc962c2d68b23", checked := Tryd.checked }
namespace Rows
def none {H : Type} : Left H := { results := [], args := [] }

/- WHAT THE LISTED PACKAGE-LEVEL VARIABLES READ AS WHEN THE CALL BEGINS. Each datum BY PROGRAM (the guide's laid-datum.mjs) off the statement by which the dump's own 'gosem.cut.vars' lays the variable. In a bare row this is a premise. The card (YtamgmfinkgdkjaaDoorCards.lean) ties it to the program's text. -/
def laid_unicode_utf8_acceptRanges {H : Type} : DataW H := .agg [.agg [.lit (.int .u8 128), .lit (.int .u8 191)], .agg [.lit (.int .u8 160), .lit (.int .u8 191)], .agg [.lit (.int .u8 128), .lit (.int .u8 159)], .agg [.lit (.int .u8 144), .lit (.int .u8 191)], .agg [.lit (.int .u8 128), .lit (.int .u8 143)], .agg [.lit (.int .u8 0), .lit (.int .u8 0)], .agg [.lit (.int .u8 0), .lit (.int .u8 0)], .agg [.lit (.int .u8 0), .lit (.int .u8 0)], .agg [.lit (.int .u8 0), .lit (.int .u8 0)], .agg [.lit (.int .u8 0), .lit (.int .u8 0)], .agg [.lit (.int .u8 0), .lit (.int .u8 0)], .agg [.lit (.int .u8 0), .lit (.int .u8 0)], .agg [.lit (.int .u8 0), .lit (.int .u8 0)], .agg [.lit (.int .u8 0), .lit (.int .u8 0)], .agg [.lit (.int .u8 0), .lit (.int .u8 0)], .agg [.lit (.int .u8 0), .lit (.int .u8 0)]]
/-- One of Go's own tables, pinned by name: the form's constant. -/
def laid_unicode_utf8_first : DataW Unit := Go.Pinned.utf8First

/-- 'shinglelaw05.ArithPuts': WHATEVER THE INPUT: true; the input reads as it did. -/
def arithPutsSpec : ChangeSpec := { name := "arithPuts", fn := fun _ => fun
  | [d1, d2] => { results := [.lit (.bool true)], args := [d1, d2] }
  | _ => none }
def arithPutsRow : OpenClaim := { program := "ytamgmfinkgdkjaadoor", sum := "b93a89edb323a714880070c68b1d4d35db97d9a9984061ea9cfcc962c2d68b23", func := "shingle/shinglelaw05.ArithPuts", spec := "arithPuts", named := ["unicode/utf8.first", "unicode/utf8.acceptRanges"], apart := false, laid := [("unicode/utf8.acceptRanges", laid_unicode_utf8_acceptRanges), ("unicode/utf8.first", laid_unicode_utf8_first)] }
def ArithPutsSaid : Prop := arithPutsRow.holds Tryd.pinned (OpenSpec.ofChange arithPutsSpec)

/-- ITS FALSE NEIGHBOUR: 'it returns false'. Refute it at one input. -/
def arithPutsWrong : ChangeSpec := { name := "arithPuts", fn := fun _ => fun
  | [d1, d2] => { results := [.lit (.bool false)], args := [d1, d2] }
  | _ => none }
def ArithPutsWrongFalsely : Prop := arithPutsRow.holds Tryd.pinned (OpenSpec.ofChange arithPutsWrong)

/-- 'shinglelaw05.ArithGets': WHATEVER THE INPUT: true; the input reads as it did. -/
def arithGetsSpec : ChangeSpec := { name := "arithGets", fn := fun _ => fun
  | [d1, d2, d3] => { results := [.lit (.bool true)], args := [d1, d2, d3] }
  | _ => none }
def arithGetsRow : OpenClaim := { program := "ytamgmfinkgdkjaadoor", sum := "b93a89edb323a714880070c68b1d4d35db97d9a9984061ea9cfcc962c2d68b23", func := "shingle/shinglelaw05.ArithGets", spec := "arithGets", named := ["unicode/utf8.first", "unicode/utf8.acceptRanges"], apart := false, laid := [("unicode/utf8.acceptRanges", laid_unicode_utf8_acceptRanges), ("unicode/utf8.first", laid_unicode_utf8_first)] }
def ArithGetsSaid : Prop := arithGetsRow.holds Tryd.pinned (OpenSpec.ofChange arithGetsSpec)

/-- ITS FALSE NEIGHBOUR: 'it returns false'. Refute it at one input. -/
def arithGetsWrong : ChangeSpec := { name := "arithGets", fn := fun _ => fun
  | [d1, d2, d3] => { results := [.lit (.bool false)], args := [d1, d2, d3] }
  | _ => none }
def ArithGetsWrongFalsely : Prop := arithGetsRow.holds Tryd.pinned (OpenSpec.ofChange arithGetsWrong)

/-- 'shinglelaw05.ArithBack': WHATEVER THE INPUT: true; the input reads as it did. -/
def arithBackSpec : ChangeSpec := { name := "arithBack", fn := fun _ => fun
  | [d1, d2] => { results := [.lit (.bool true)], args := [d1, d2] }
  | _ => none }
def arithBackRow : OpenClaim := { program := "ytamgmfinkgdkjaadoor", sum := "b93a89edb323a714880070c68b1d4d35db97d9a9984061ea9cfcc962c2d68b23", func := "shingle/shinglelaw05.ArithBack", spec := "arithBack", named := ["unicode/utf8.first", "unicode/utf8.acceptRanges"], apart := false, laid := [("unicode/utf8.acceptRanges", laid_unicode_utf8_acceptRanges), ("unicode/utf8.first", laid_unicode_utf8_first)] }
def ArithBackSaid : Prop := arithBackRow.holds Tryd.pinned (OpenSpec.ofChange arithBackSpec)

/-- ITS FALSE NEIGHBOUR: 'it returns false'. Refute it at one input. -/
def arithBackWrong : ChangeSpec := { name := "arithBack", fn := fun _ => fun
  | [d1, d2] => { results := [.lit (.bool false)], args := [d1, d2] }
  | _ => none }
def ArithBackWrongFalsely : Prop := arithBackRow.holds Tryd.pinned (OpenSpec.ofChange arithBackWrong)

/-- 'shinglelaw05.ArithTail': WHATEVER THE INPUT: true; the input reads as it did. -/
def arithTailSpec : ChangeSpec := { name := "arithTail", fn := fun _ => fun
  | [d1, d2] => { results := [.lit (.bool true)], args := [d1, d2] }
  | _ => none }
def arithTailRow : OpenClaim := { program := "ytamgmfinkgdkjaadoor", sum := "b93a89edb323a714880070c68b1d4d35db97d9a9984061ea9cfcc962c2d68b23", func := "shingle/shinglelaw05.ArithTail", spec := "arithTail", named := ["unicode/utf8.first", "unicode/utf8.acceptRanges"], apart := false, laid := [("unicode/utf8.acceptRanges", laid_unicode_utf8_acceptRanges), ("unicode/utf8.first", laid_unicode_utf8_first)] }
def ArithTailSaid : Prop := arithTailRow.holds Tryd.pinned (OpenSpec.ofChange arithTailSpec)

/-- ITS FALSE NEIGHBOUR: 'it returns false'. Refute it at one input. -/
def arithTailWrong : ChangeSpec := { name := "arithTail", fn := fun _ => fun
  | [d1, d2] => { results := [.lit (.bool false)], args := [d1, d2] }
  | _ => none }
def ArithTailWrongFalsely : Prop := arithTailRow.holds Tryd.pinned (OpenSpec.ofChange arithTailWrong)

/-- 'shinglelaw06.BinsPuts': WHATEVER THE INPUT: true; the input reads as it did. -/
def binsPutsSpec : ChangeSpec := { name := "binsPuts", fn := fun _ => fun
  | [d1, d2, d3] => { results := [.lit (.bool true)], args := [d1, d2, d3] }
  | _ => none }
def binsPutsRow : OpenClaim := { program := "ytamgmfinkgdkjaadoor", sum := "b93a89edb323a714880070c68b1d4d35db97d9a9984061ea9cfcc962c2d68b23", func := "shingle/shinglelaw06.BinsPuts", spec := "binsPuts", unfollowed := true, recurses := true, named := ["unicode/utf8.first", "unicode/utf8.acceptRanges"], apart := false, laid := [("unicode/utf8.acceptRanges", laid_unicode_utf8_acceptRanges), ("unicode/utf8.first", laid_unicode_utf8_first)] }
def BinsPutsSaid : Prop := binsPutsRow.holds Tryd.pinned (OpenSpec.ofChange binsPutsSpec)

/-- ITS FALSE NEIGHBOUR: 'it returns false'. Refute it at one input. -/
def binsPutsWrong : ChangeSpec := { name := "binsPuts", fn := fun _ => fun
  | [d1, d2, d3] => { results := [.lit (.bool false)], args := [d1, d2, d3] }
  | _ => none }
def BinsPutsWrongFalsely : Prop := binsPutsRow.holds Tryd.pinned (OpenSpec.ofChange binsPutsWrong)

/-- 'shinglelaw06.BinsCosts': WHATEVER THE INPUT: true; the input reads as it did. -/
def binsCostsSpec : ChangeSpec := { name := "binsCosts", fn := fun _ => fun
  | [d] => { results := [.lit (.bool true)], args := [d] }
  | _ => none }
def binsCostsRow : OpenClaim := { program := "ytamgmfinkgdkjaadoor", sum := "b93a89edb323a714880070c68b1d4d35db97d9a9984061ea9cfcc962c2d68b23", func := "shingle/shinglelaw06.BinsCosts", spec := "binsCosts", unfollowed := true, recurses := true, named := ["unicode/utf8.first", "unicode/utf8.acceptRanges"], apart := false, laid := [("unicode/utf8.acceptRanges", laid_unicode_utf8_acceptRanges), ("unicode/utf8.first", laid_unicode_utf8_first)] }
def BinsCostsSaid : Prop := binsCostsRow.holds Tryd.pinned (OpenSpec.ofChange binsCostsSpec)

/-- ITS FALSE NEIGHBOUR: 'it returns false'. Refute it at one input. -/
def binsCostsWrong : ChangeSpec := { name := "binsCosts", fn := fun _ => fun
  | [d] => { results := [.lit (.bool false)], args := [d] }
  | _ => none }
def BinsCostsWrongFalsely : Prop := binsCostsRow.holds Tryd.pinned (OpenSpec.ofChange binsCostsWrong)

/-- 'shinglelaw06.BinsGets': WHATEVER THE INPUT: true; the input reads as it did. -/
def binsGetsSpec : ChangeSpec := { name := "binsGets", fn := fun _ => fun
  | [d1, d2, d3] => { results := [.lit (.bool true)], args := [d1, d2, d3] }
  | _ => none }
def binsGetsRow : OpenClaim := { program := "ytamgmfinkgdkjaadoor", sum := "b93a89edb323a714880070c68b1d4d35db97d9a9984061ea9cfcc962c2d68b23", func := "shingle/shinglelaw06.BinsGets", spec := "binsGets", unfollowed := true, recurses := true, named := ["unicode/utf8.first", "unicode/utf8.acceptRanges"], apart := false, laid := [("unicode/utf8.acceptRanges", laid_unicode_utf8_acceptRanges), ("unicode/utf8.first", laid_unicode_utf8_first)] }
def BinsGetsSaid : Prop := binsGetsRow.holds Tryd.pinned (OpenSpec.ofChange binsGetsSpec)

/-- ITS FALSE NEIGHBOUR: 'it returns false'. Refute it at one input. -/
def binsGetsWrong : ChangeSpec := { name := "binsGets", fn := fun _ => fun
  | [d1, d2, d3] => { results := [.lit (.bool false)], args := [d1, d2, d3] }
  | _ => none }
def BinsGetsWrongFalsely : Prop := binsGetsRow.holds Tryd.pinned (OpenSpec.ofChange binsGetsWrong)

/-- 'shinglelaw06.BinsBack': WHATEVER THE INPUT: true; the input reads as it did. -/
def binsBackSpec : ChangeSpec := { name := "binsBack", fn := fun _ => fun
  | [d1, d2] => { results := [.lit (.bool true)], args := [d1, d2] }
  | _ => none }
def binsBackRow : OpenClaim := { program := "ytamgmfinkgdkjaadoor", sum := "b93a89edb323a714880070c68b1d4d35db97d9a9984061ea9cfcc962c2d68b23", func := "shingle/shinglelaw06.BinsBack", spec := "binsBack", unfollowed := true, recurses := true, named := ["unicode/utf8.first", "unicode/utf8.acceptRanges"], apart := false, laid := [("unicode/utf8.acceptRanges", laid_unicode_utf8_acceptRanges), ("unicode/utf8.first", laid_unicode_utf8_first)] }
def BinsBackSaid : Prop := binsBackRow.holds Tryd.pinned (OpenSpec.ofChange binsBackSpec)

/-- ITS FALSE NEIGHBOUR: 'it returns false'. Refute it at one input. -/
def binsBackWrong : ChangeSpec := { name := "binsBack", fn := fun _ => fun
  | [d1, d2] => { results := [.lit (.bool false)], args := [d1, d2] }
  | _ => none }
def BinsBackWrongFalsely : Prop := binsBackRow.holds Tryd.pinned (OpenSpec.ofChange binsBackWrong)

/- THE SECOND FORM. 'bulk': how many values and letters a reading holds, each counted each time it is reached (what is shared counts as often as it is met; a slice's spare places count too). A statement '..UptoSaid' is the law's where the arguments, and the package variables that the reading takes, are together of bulk at most 1048576: NARROWER than '..Said'. Prove '..Said' where nothing that the law and all that it calls make is longer than what came in: it says more and counts as full. Else prove '..UptoSaid'. A law counts once. -/
mutual
def uptoBulk {H : Type} : DataW H → Nat
  | .lit (.string bytes) => bytes.length + 1
  | .lit _ => 1
  | .nil => 1
  | .ptr d => uptoBulk d + 1
  | .slice elems spare => uptoBulkAll elems + uptoBulkAll spare + 1
  | .agg parts => uptoBulkAll parts + 1
  | .iface _ d => uptoBulk d + 1
  | .map entries => uptoBulkEntries entries + 1
  | .held _ => 1
def uptoBulkAll {H : Type} : List (DataW H) → Nat
  | [] => 0
  | d :: r => uptoBulk d + uptoBulkAll r
def uptoBulkEntries {H : Type} : List (Lit × DataW H) → Nat
  | [] => 0
  | x :: r => uptoBulkEntry x + uptoBulkEntries r
def uptoBulkEntry {H : Type} : Lit × DataW H → Nat
  | (.string bytes, d) => bytes.length + uptoBulk d + 1
  | (_, d) => uptoBulk d + 1
 end
def uptoSmall : (H : Type) → List (DataW H) → Bool := fun _ ds => decide (uptoBulkAll ds ≤ 1048576)
def OpenSpec.upto (s : _root_.Go.ChangeSpec) : _root_.Go.OpenSpec := { _root_.Go.OpenSpec.ofChange s with cond := some uptoSmall }

/-- 'shinglelaw05.ArithPuts', WHERE WHAT IT READS IS OF BULK AT MOST 1048576: true; the input reads as it did. -/
def arithPutsUptoRow : OpenClaim := { program := "ytamgmfinkgdkjaadoor", sum := "b93a89edb323a714880070c68b1d4d35db97d9a9984061ea9cfcc962c2d68b23", func := "shingle/shinglelaw05.ArithPuts", spec := "arithPuts", named := ["unicode/utf8.first", "unicode/utf8.acceptRanges"], apart := false, laid := [("unicode/utf8.acceptRanges", laid_unicode_utf8_acceptRanges), ("unicode/utf8.first", laid_unicode_utf8_first)], narrowed := true }
def ArithPutsUptoSaid : Prop := arithPutsUptoRow.holds Tryd.pinned (OpenSpec.upto arithPutsSpec)

/-- 'shinglelaw05.ArithGets', WHERE WHAT IT READS IS OF BULK AT MOST 1048576: true; the input reads as it did. -/
def arithGetsUptoRow : OpenClaim := { program := "ytamgmfinkgdkjaadoor", sum := "b93a89edb323a714880070c68b1d4d35db97d9a9984061ea9cfcc962c2d68b23", func := "shingle/shinglelaw05.ArithGets", spec := "arithGets", named := ["unicode/utf8.first", "unicode/utf8.acceptRanges"], apart := false, laid := [("unicode/utf8.acceptRanges", laid_unicode_utf8_acceptRanges), ("unicode/utf8.first", laid_unicode_utf8_first)], narrowed := true }
def ArithGetsUptoSaid : Prop := arithGetsUptoRow.holds Tryd.pinned (OpenSpec.upto arithGetsSpec)

/-- 'shinglelaw05.ArithBack', WHERE WHAT IT READS IS OF BULK AT MOST 1048576: true; the input reads as it did. -/
def arithBackUptoRow : OpenClaim := { program := "ytamgmfinkgdkjaadoor", sum := "b93a89edb323a714880070c68b1d4d35db97d9a9984061ea9cfcc962c2d68b23", func := "shingle/shinglelaw05.ArithBack", spec := "arithBack", named := ["unicode/utf8.first", "unicode/utf8.acceptRanges"], apart := false, laid := [("unicode/utf8.acceptRanges", laid_unicode_utf8_acceptRanges), ("unicode/utf8.first", laid_unicode_utf8_first)], narrowed := true }
def ArithBackUptoSaid : Prop := arithBackUptoRow.holds Tryd.pinned (OpenSpec.upto arithBackSpec)

/-- 'shinglelaw05.ArithTail', WHERE WHAT IT READS IS OF BULK AT MOST 1048576: true; the input reads as it did. -/
def arithTailUptoRow : OpenClaim := { program := "ytamgmfinkgdkjaadoor", sum := "b93a89edb323a714880070c68b1d4d35db97d9a9984061ea9cfcc962c2d68b23", func := "shingle/shinglelaw05.ArithTail", spec := "arithTail", named := ["unicode/utf8.first", "unicode/utf8.acceptRanges"], apart := false, laid := [("unicode/utf8.acceptRanges", laid_unicode_utf8_acceptRanges), ("unicode/utf8.first", laid_unicode_utf8_first)], narrowed := true }
def ArithTailUptoSaid : Prop := arithTailUptoRow.holds Tryd.pinned (OpenSpec.upto arithTailSpec)

/-- 'shinglelaw06.BinsPuts', WHERE WHAT IT READS IS OF BULK AT MOST 1048576: true; the input reads as it did. -/
def binsPutsUptoRow : OpenClaim := { program := "ytamgmfinkgdkjaadoor", sum := "b93a89edb323a714880070c68b1d4d35db97d9a9984061ea9cfcc962c2d68b23", func := "shingle/shinglelaw06.BinsPuts", spec := "binsPuts", unfollowed := true, recurses := true, named := ["unicode/utf8.first", "unicode/utf8.acceptRanges"], apart := false, laid := [("unicode/utf8.acceptRanges", laid_unicode_utf8_acceptRanges), ("unicode/utf8.first", laid_unicode_utf8_first)], narrowed := true }
def BinsPutsUptoSaid : Prop := binsPutsUptoRow.holds Tryd.pinned (OpenSpec.upto binsPutsSpec)

/-- 'shinglelaw06.BinsCosts', WHERE WHAT IT READS IS OF BULK AT MOST 1048576: true; the input reads as it did. -/
def binsCostsUptoRow : OpenClaim := { program := "ytamgmfinkgdkjaadoor", sum := "b93a89edb323a714880070c68b1d4d35db97d9a9984061ea9cfcc962c2d68b23", func := "shingle/shinglelaw06.BinsCosts", spec := "binsCosts", unfollowed := true, recurses := true, named := ["unicode/utf8.first", "unicode/utf8.acceptRanges"], apart := false, laid := [("unicode/utf8.acceptRanges", laid_unicode_utf8_acceptRanges), ("unicode/utf8.first", laid_unicode_utf8_first)], narrowed := true }
def BinsCostsUptoSaid : Prop := binsCostsUptoRow.holds Tryd.pinned (OpenSpec.upto binsCostsSpec)

/-- 'shinglelaw06.BinsGets', WHERE WHAT IT READS IS OF BULK AT MOST 1048576: true; the input reads as it did. -/
def binsGetsUptoRow : OpenClaim := { program := "ytamgmfinkgdkjaadoor", sum := "b93a89edb323a714880070c68b1d4d35db97d9a9984061ea9cfcc962c2d68b23", func := "shingle/shinglelaw06.BinsGets", spec := "binsGets", unfollowed := true, recurses := true, named := ["unicode/utf8.first", "unicode/utf8.acceptRanges"], apart := false, laid := [("unicode/utf8.acceptRanges", laid_unicode_utf8_acceptRanges), ("unicode/utf8.first", laid_unicode_utf8_first)], narrowed := true }
def BinsGetsUptoSaid : Prop := binsGetsUptoRow.holds Tryd.pinned (OpenSpec.upto binsGetsSpec)

/-- 'shinglelaw06.BinsBack', WHERE WHAT IT READS IS OF BULK AT MOST 1048576: true; the input reads as it did. -/
def binsBackUptoRow : OpenClaim := { program := "ytamgmfinkgdkjaadoor", sum := "b93a89edb323a714880070c68b1d4d35db97d9a9984061ea9cfcc962c2d68b23", func := "shingle/shinglelaw06.BinsBack", spec := "binsBack", unfollowed := true, recurses := true, named := ["unicode/utf8.first", "unicode/utf8.acceptRanges"], apart := false, laid := [("unicode/utf8.acceptRanges", laid_unicode_utf8_acceptRanges), ("unicode/utf8.first", laid_unicode_utf8_first)], narrowed := true }
def BinsBackUptoSaid : Prop := binsBackUptoRow.holds Tryd.pinned (OpenSpec.upto binsBackSpec)

end Rows
end Go.Proofs.YtamgmfinkgdkjaaDoor
