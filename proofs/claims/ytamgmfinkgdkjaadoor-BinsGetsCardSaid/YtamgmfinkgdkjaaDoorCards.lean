/-
  DERIVED. GIVEN WITH THE SEED: THE CARDS: each row of YtamgmfinkgdkjaaDoorRows.lean that lists a variable, with what it lists TIED to the program's text (the seventh form; the later family's looks); each row that meets fmt, with fmt's text TOLD by the authors' own Lean function (tested against real Go, not proved from fmt's source: count such statements apart). THE CARD IS WHAT COUNTS. Prove the row's statement (the work); the ties are given (YtamgmfinkgdkjaaDoorTie.lean); close each card by the builder's one call (the guide's Derived/Test/ToyasCard.lean, 'card_holds'). Laid BY PROGRAM, IN A SANDBOX (cutbox-door.mjs). By AI agents, Wed Nov 11 2026. No macro, syntax, notation, axiom, sorry.
-/
import Derived.Test.YtamgmfinkgdkjaaDoorRows
import GoSem.ClaimSeven
namespace Go.Proofs.YtamgmfinkgdkjaaDoor
namespace Rows

/-- THE TIED CARD OF 'shinglelaw05.ArithPuts'. -/
def arithPutsCard : Claim7 := { stood := { row := arithPutsRow, standIns := [], harness := (true, "3e4cc5d7d1e682d6625152fe6f31f36396e4407575ada61f4218b482381a2c88"), looks := false }, kinds := [], alts := [], laidByText := true, laidKinds := [.data, .pinned], laidTests := true, laidLooks := .later }
def ArithPutsCardSaid : Prop := Claim7.holds Tryd.pinned (.plain (OpenSpec.ofChange arithPutsSpec)) arithPutsCard

/-- THE TIED CARD OF 'shinglelaw05.ArithGets'. -/
def arithGetsCard : Claim7 := { stood := { row := arithGetsRow, standIns := [], harness := (true, "3e4cc5d7d1e682d6625152fe6f31f36396e4407575ada61f4218b482381a2c88"), looks := false }, kinds := [], alts := [], laidByText := true, laidKinds := [.data, .pinned], laidTests := true, laidLooks := .later }
def ArithGetsCardSaid : Prop := Claim7.holds Tryd.pinned (.plain (OpenSpec.ofChange arithGetsSpec)) arithGetsCard

/-- THE TIED CARD OF 'shinglelaw05.ArithBack'. -/
def arithBackCard : Claim7 := { stood := { row := arithBackRow, standIns := [], harness := (true, "3e4cc5d7d1e682d6625152fe6f31f36396e4407575ada61f4218b482381a2c88"), looks := false }, kinds := [], alts := [], laidByText := true, laidKinds := [.data, .pinned], laidTests := true, laidLooks := .later }
def ArithBackCardSaid : Prop := Claim7.holds Tryd.pinned (.plain (OpenSpec.ofChange arithBackSpec)) arithBackCard

/-- THE TIED CARD OF 'shinglelaw05.ArithTail'. -/
def arithTailCard : Claim7 := { stood := { row := arithTailRow, standIns := [], harness := (true, "3e4cc5d7d1e682d6625152fe6f31f36396e4407575ada61f4218b482381a2c88"), looks := false }, kinds := [], alts := [], laidByText := true, laidKinds := [.data, .pinned], laidTests := true, laidLooks := .later }
def ArithTailCardSaid : Prop := Claim7.holds Tryd.pinned (.plain (OpenSpec.ofChange arithTailSpec)) arithTailCard

/-- THE TIED CARD OF 'shinglelaw06.BinsPuts'. -/
def binsPutsCard : Claim7 := { stood := { row := binsPutsRow, standIns := [], harness := (true, "3e4cc5d7d1e682d6625152fe6f31f36396e4407575ada61f4218b482381a2c88"), looks := false }, kinds := [], alts := [], laidByText := true, laidKinds := [.data, .pinned], laidTests := true, laidLooks := .later }
def BinsPutsCardSaid : Prop := Claim7.holds Tryd.pinned (.plain (OpenSpec.ofChange binsPutsSpec)) binsPutsCard

/-- THE TIED CARD OF 'shinglelaw06.BinsCosts'. -/
def binsCostsCard : Claim7 := { stood := { row := binsCostsRow, standIns := [], harness := (true, "3e4cc5d7d1e682d6625152fe6f31f36396e4407575ada61f4218b482381a2c88"), looks := false }, kinds := [], alts := [], laidByText := true, laidKinds := [.data, .pinned], laidTests := true, laidLooks := .later }
def BinsCostsCardSaid : Prop := Claim7.holds Tryd.pinned (.plain (OpenSpec.ofChange binsCostsSpec)) binsCostsCard

/-- THE TIED CARD OF 'shinglelaw06.BinsGets'. -/
def binsGetsCard : Claim7 := { stood := { row := binsGetsRow, standIns := [], harness := (true, "3e4cc5d7d1e682d6625152fe6f31f36396e4407575ada61f4218b482381a2c88"), looks := false }, kinds := [], alts := [], laidByText := true, laidKinds := [.data, .pinned], laidTests := true, laidLooks := .later }
def BinsGetsCardSaid : Prop := Claim7.holds Tryd.pinned (.plain (OpenSpec.ofChange binsGetsSpec)) binsGetsCard

/-- THE TIED CARD OF 'shinglelaw06.BinsBack'. -/
def binsBackCard : Claim7 := { stood := { row := binsBackRow, standIns := [], harness := (true, "3e4cc5d7d1e682d6625152fe6f31f36396e4407575ada61f4218b482381a2c88"), looks := false }, kinds := [], alts := [], laidByText := true, laidKinds := [.data, .pinned], laidTests := true, laidLooks := .later }
def BinsBackCardSaid : Prop := Claim7.holds Tryd.pinned (.plain (OpenSpec.ofChange binsBackSpec)) binsBackCard

/-- THE SECOND FORM's CARD OF 'shinglelaw05.ArithPuts'. -/
def arithPutsUptoCard : Claim7 := { stood := { row := arithPutsUptoRow, standIns := [], harness := (true, "3e4cc5d7d1e682d6625152fe6f31f36396e4407575ada61f4218b482381a2c88"), looks := false }, kinds := [], alts := [], laidByText := true, laidKinds := [.data, .pinned], laidTests := true, laidLooks := .later }
def ArithPutsUptoCardSaid : Prop := Claim7.holds Tryd.pinned (.plain (OpenSpec.upto arithPutsSpec)) arithPutsUptoCard

/-- THE SECOND FORM's CARD OF 'shinglelaw05.ArithGets'. -/
def arithGetsUptoCard : Claim7 := { stood := { row := arithGetsUptoRow, standIns := [], harness := (true, "3e4cc5d7d1e682d6625152fe6f31f36396e4407575ada61f4218b482381a2c88"), looks := false }, kinds := [], alts := [], laidByText := true, laidKinds := [.data, .pinned], laidTests := true, laidLooks := .later }
def ArithGetsUptoCardSaid : Prop := Claim7.holds Tryd.pinned (.plain (OpenSpec.upto arithGetsSpec)) arithGetsUptoCard

/-- THE SECOND FORM's CARD OF 'shinglelaw05.ArithBack'. -/
def arithBackUptoCard : Claim7 := { stood := { row := arithBackUptoRow, standIns := [], harness := (true, "3e4cc5d7d1e682d6625152fe6f31f36396e4407575ada61f4218b482381a2c88"), looks := false }, kinds := [], alts := [], laidByText := true, laidKinds := [.data, .pinned], laidTests := true, laidLooks := .later }
def ArithBackUptoCardSaid : Prop := Claim7.holds Tryd.pinned (.plain (OpenSpec.upto arithBackSpec)) arithBackUptoCard

/-- THE SECOND FORM's CARD OF 'shinglelaw05.ArithTail'. -/
def arithTailUptoCard : Claim7 := { stood := { row := arithTailUptoRow, standIns := [], harness := (true, "3e4cc5d7d1e682d6625152fe6f31f36396e4407575ada61f4218b482381a2c88"), looks := false }, kinds := [], alts := [], laidByText := true, laidKinds := [.data, .pinned], laidTests := true, laidLooks := .later }
def ArithTailUptoCardSaid : Prop := Claim7.holds Tryd.pinned (.plain (OpenSpec.upto arithTailSpec)) arithTailUptoCard

/-- THE SECOND FORM's CARD OF 'shinglelaw06.BinsPuts'. -/
def binsPutsUptoCard : Claim7 := { stood := { row := binsPutsUptoRow, standIns := [], harness := (true, "3e4cc5d7d1e682d6625152fe6f31f36396e4407575ada61f4218b482381a2c88"), looks := false }, kinds := [], alts := [], laidByText := true, laidKinds := [.data, .pinned], laidTests := true, laidLooks := .later }
def BinsPutsUptoCardSaid : Prop := Claim7.holds Tryd.pinned (.plain (OpenSpec.upto binsPutsSpec)) binsPutsUptoCard

/-- THE SECOND FORM's CARD OF 'shinglelaw06.BinsCosts'. -/
def binsCostsUptoCard : Claim7 := { stood := { row := binsCostsUptoRow, standIns := [], harness := (true, "3e4cc5d7d1e682d6625152fe6f31f36396e4407575ada61f4218b482381a2c88"), looks := false }, kinds := [], alts := [], laidByText := true, laidKinds := [.data, .pinned], laidTests := true, laidLooks := .later }
def BinsCostsUptoCardSaid : Prop := Claim7.holds Tryd.pinned (.plain (OpenSpec.upto binsCostsSpec)) binsCostsUptoCard

/-- THE SECOND FORM's CARD OF 'shinglelaw06.BinsGets'. -/
def binsGetsUptoCard : Claim7 := { stood := { row := binsGetsUptoRow, standIns := [], harness := (true, "3e4cc5d7d1e682d6625152fe6f31f36396e4407575ada61f4218b482381a2c88"), looks := false }, kinds := [], alts := [], laidByText := true, laidKinds := [.data, .pinned], laidTests := true, laidLooks := .later }
def BinsGetsUptoCardSaid : Prop := Claim7.holds Tryd.pinned (.plain (OpenSpec.upto binsGetsSpec)) binsGetsUptoCard

/-- THE SECOND FORM's CARD OF 'shinglelaw06.BinsBack'. -/
def binsBackUptoCard : Claim7 := { stood := { row := binsBackUptoRow, standIns := [], harness := (true, "3e4cc5d7d1e682d6625152fe6f31f36396e4407575ada61f4218b482381a2c88"), looks := false }, kinds := [], alts := [], laidByText := true, laidKinds := [.data, .pinned], laidTests := true, laidLooks := .later }
def BinsBackUptoCardSaid : Prop := Claim7.holds Tryd.pinned (.plain (OpenSpec.upto binsBackSpec)) binsBackUptoCard
end Rows
end Go.Proofs.YtamgmfinkgdkjaaDoor
