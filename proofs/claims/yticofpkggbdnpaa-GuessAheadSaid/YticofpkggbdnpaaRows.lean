/-
  No cell of these rows narrows 'for every input' (looked for: loops, veiled, ifaces, maps, wideKeys, modest, calm, conditions, laid).
  DERIVED. THE GIVEN ROWS OF THIS SEAT. 3 by the template 'for every input the law returns true; each argument reads behind the call as it read before'; 0 by the template 'total and deterministic' (their statements: YticofpkggbdnpaaTotals.lean).
  GIVEN WITH THE SEED: the statements are not yours to turn. If you find one false, say at which input.
  Laid BY PROGRAM, IN A SANDBOX (cutbox-rows.mjs): the forced cells as the released guide's own fill.sh prints them over the translation 6d973f5182f20b19… (all of the seat's roots in one cut). By AI agents, Wed Nov 11 2026. No macro, syntax, notation, axiom, sorry.
-/
import Derived.Test.YticofpkggbdnpaaChecked
import GoSem.Claim
import GoSem.ClaimJoined
import GoSem.ClaimMapViews
import Derived.JoinedTies
import Derived.KernelRfl
namespace Go.Proofs.Yticofpkggbdnpaa
/- THE CELL 'sum', in the pinned program and in every row, IS THE sha256 OF THE DUMP (.gsa) THAT YticofpkggbdnpaaProg.lean LOADS. Nothing in Lean hashes anything: it is a label: what it is worth is what the hold of that sum in a sandbox is worth. -/
noncomputable def Try.pinned : Pinned := { name := "yticofpkggbdnpaa", sum := "6d973f5182f20b195c43830e10ab9c7c21aba88da65b37f8b12028517d552dcd", checked := Try.checked }
namespace Rows
def none {H : Type} : Left H := { results := [], args := [] }

/-- 'shinglelaw17.GuessTells': WHATEVER THE INPUT: true; the input reads as it did. -/
def guessTellsSpec : ChangeSpec := { name := "guessTells", fn := fun _ => fun
  | [d1, d2, d3] => { results := [.lit (.bool true)], args := [d1, d2, d3] }
  | _ => none }
def guessTellsRow : OpenClaim := { program := "yticofpkggbdnpaa", sum := "6d973f5182f20b195c43830e10ab9c7c21aba88da65b37f8b12028517d552dcd", func := "shingle/shinglelaw17.GuessTells", spec := "guessTells", unfollowed := true, recurses := true, apart := false }
def GuessTellsSaid : Prop := guessTellsRow.holds Try.pinned (OpenSpec.ofChange guessTellsSpec)

/-- ITS FALSE NEIGHBOUR: 'it returns false'. Refute it at one input. -/
def guessTellsWrong : ChangeSpec := { name := "guessTells", fn := fun _ => fun
  | [d1, d2, d3] => { results := [.lit (.bool false)], args := [d1, d2, d3] }
  | _ => none }
def GuessTellsWrongFalsely : Prop := guessTellsRow.holds Try.pinned (OpenSpec.ofChange guessTellsWrong)

/-- 'shinglelaw17.GuessAll': WHATEVER THE INPUT: true; the input reads as it did. -/
def guessAllSpec : ChangeSpec := { name := "guessAll", fn := fun _ => fun
  | [d] => { results := [.lit (.bool true)], args := [d] }
  | _ => none }
def guessAllRow : OpenClaim := { program := "yticofpkggbdnpaa", sum := "6d973f5182f20b195c43830e10ab9c7c21aba88da65b37f8b12028517d552dcd", func := "shingle/shinglelaw17.GuessAll", spec := "guessAll", unfollowed := true, recurses := true, apart := false }
def GuessAllSaid : Prop := guessAllRow.holds Try.pinned (OpenSpec.ofChange guessAllSpec)

/-- ITS FALSE NEIGHBOUR: 'it returns false'. Refute it at one input. -/
def guessAllWrong : ChangeSpec := { name := "guessAll", fn := fun _ => fun
  | [d] => { results := [.lit (.bool false)], args := [d] }
  | _ => none }
def GuessAllWrongFalsely : Prop := guessAllRow.holds Try.pinned (OpenSpec.ofChange guessAllWrong)

/-- 'shinglelaw17.GuessAhead': WHATEVER THE INPUT: true; the input reads as it did. -/
def guessAheadSpec : ChangeSpec := { name := "guessAhead", fn := fun _ => fun
  | [d1, d2, d3] => { results := [.lit (.bool true)], args := [d1, d2, d3] }
  | _ => none }
def guessAheadRow : OpenClaim := { program := "yticofpkggbdnpaa", sum := "6d973f5182f20b195c43830e10ab9c7c21aba88da65b37f8b12028517d552dcd", func := "shingle/shinglelaw17.GuessAhead", spec := "guessAhead", unfollowed := true, recurses := true, apart := false }
def GuessAheadSaid : Prop := guessAheadRow.holds Try.pinned (OpenSpec.ofChange guessAheadSpec)

/-- ITS FALSE NEIGHBOUR: 'it returns false'. Refute it at one input. -/
def guessAheadWrong : ChangeSpec := { name := "guessAhead", fn := fun _ => fun
  | [d1, d2, d3] => { results := [.lit (.bool false)], args := [d1, d2, d3] }
  | _ => none }
def GuessAheadWrongFalsely : Prop := guessAheadRow.holds Try.pinned (OpenSpec.ofChange guessAheadWrong)

/- THE SECOND FORM. 'bulk': how many values and letters a reading holds, each counted each time it is reached (what is shared counts as often as it is met; a slice's spare places count too). A statement '..UptoSaid' is the law's where the arguments, and the package variables that the reading takes, are together of bulk at most 1048576: NARROWER than '..Said'. Prove '..Said' where nothing that the law and all that it calls make is longer than what came in: it says more and counts as full. Else prove '..UptoSaid'. A law counts once. -/
mutual
def uptoBulk {H : Type} : DataW H → Nat
  | .lit (.string bytes) => bytes.length + 1
  | .lit _ => 1
  | .nil => 1
  | .ptr d => uptoBulk d + 1
  | .slice elems spare => uptoBulkAll elems + uptoBulkAll spare + 1
  | .agg parts => uptoBulkAll parts + 1
  | .iface _ d => uptoBulk d + 1
  | .map entries => uptoBulkEntries entries + 1
  | .held _ => 1
def uptoBulkAll {H : Type} : List (DataW H) → Nat
  | [] => 0
  | d :: r => uptoBulk d + uptoBulkAll r
def uptoBulkEntries {H : Type} : List (Lit × DataW H) → Nat
  | [] => 0
  | x :: r => uptoBulkEntry x + uptoBulkEntries r
def uptoBulkEntry {H : Type} : Lit × DataW H → Nat
  | (.string bytes, d) => bytes.length + uptoBulk d + 1
  | (_, d) => uptoBulk d + 1
 end
def uptoSmall : (H : Type) → List (DataW H) → Bool := fun _ ds => decide (uptoBulkAll ds ≤ 1048576)
def OpenSpec.upto (s : _root_.Go.ChangeSpec) : _root_.Go.OpenSpec := { _root_.Go.OpenSpec.ofChange s with cond := some uptoSmall }

/-- 'shinglelaw17.GuessTells', WHERE WHAT IT READS IS OF BULK AT MOST 1048576: true; the input reads as it did. -/
def guessTellsUptoRow : OpenClaim := { program := "yticofpkggbdnpaa", sum := "6d973f5182f20b195c43830e10ab9c7c21aba88da65b37f8b12028517d552dcd", func := "shingle/shinglelaw17.GuessTells", spec := "guessTells", unfollowed := true, recurses := true, apart := false, narrowed := true }
def GuessTellsUptoSaid : Prop := guessTellsUptoRow.holds Try.pinned (OpenSpec.upto guessTellsSpec)

/-- 'shinglelaw17.GuessAll', WHERE WHAT IT READS IS OF BULK AT MOST 1048576: true; the input reads as it did. -/
def guessAllUptoRow : OpenClaim := { program := "yticofpkggbdnpaa", sum := "6d973f5182f20b195c43830e10ab9c7c21aba88da65b37f8b12028517d552dcd", func := "shingle/shinglelaw17.GuessAll", spec := "guessAll", unfollowed := true, recurses := true, apart := false, narrowed := true }
def GuessAllUptoSaid : Prop := guessAllUptoRow.holds Try.pinned (OpenSpec.upto guessAllSpec)

/-- 'shinglelaw17.GuessAhead', WHERE WHAT IT READS IS OF BULK AT MOST 1048576: true; the input reads as it did. -/
def guessAheadUptoRow : OpenClaim := { program := "yticofpkggbdnpaa", sum := "6d973f5182f20b195c43830e10ab9c7c21aba88da65b37f8b12028517d552dcd", func := "shingle/shinglelaw17.GuessAhead", spec := "guessAhead", unfollowed := true, recurses := true, apart := false, narrowed := true }
def GuessAheadUptoSaid : Prop := guessAheadUptoRow.holds Try.pinned (OpenSpec.upto guessAheadSpec)

end Rows
end Go.Proofs.Yticofpkggbdnpaa
