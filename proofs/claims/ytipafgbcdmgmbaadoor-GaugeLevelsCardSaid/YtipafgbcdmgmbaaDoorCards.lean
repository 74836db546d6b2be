/-
  DERIVED. GIVEN WITH THE SEED: THE CARDS: each row of YtipafgbcdmgmbaaDoorRows.lean that lists a variable, with what it lists TIED to the program's text (the seventh form; the later family's looks); each row that meets fmt, with fmt's text TOLD by the authors' own Lean function (tested against real Go, not proved from fmt's source: count such statements apart). THE CARD IS WHAT COUNTS. Prove the row's statement (the work); the ties are given (YtipafgbcdmgmbaaDoorTie.lean); close each card by the builder's one call (the guide's Derived/Test/ToyasCard.lean, 'card_holds'). Laid BY PROGRAM, IN A SANDBOX (cutbox-door.mjs). By AI agents, Wed Nov 11 2026. No macro, syntax, notation, axiom, sorry.
-/
import Derived.Test.YtipafgbcdmgmbaaDoorRows
import GoSem.ClaimSeven
namespace Go.Proofs.YtipafgbcdmgmbaaDoor
namespace Rows

/-- THE TIED CARD OF 'shinglelaw40.GaugeLevels'. -/
def gaugeLevelsCard : Claim7 := { stood := { row := gaugeLevelsRow, standIns := [], harness := (true, "a770e75a86bd556b6619f8da9bc5e1ee3c0ec93a99155b636b369219251acf30"), looks := false }, kinds := [], alts := [], laidByText := true, laidKinds := [.data, .data, .data], laidTests := true, laidLooks := .later }
def GaugeLevelsCardSaid : Prop := Claim7.holds Tryd.pinned (.plain (OpenSpec.ofChange gaugeLevelsSpec)) gaugeLevelsCard

/-- THE TIED CARD OF 'shinglelaw40.GaugeCounts'. -/
def gaugeCountsCard : Claim7 := { stood := { row := gaugeCountsRow, standIns := [], harness := (true, "a770e75a86bd556b6619f8da9bc5e1ee3c0ec93a99155b636b369219251acf30"), looks := false }, kinds := [], alts := [], laidByText := true, laidKinds := [.data, .data, .data], laidTests := true, laidLooks := .later }
def GaugeCountsCardSaid : Prop := Claim7.holds Tryd.pinned (.plain (OpenSpec.ofChange gaugeCountsSpec)) gaugeCountsCard

/-- THE TIED CARD OF 'shinglelaw40.GaugeHolds'. -/
def gaugeHoldsCard : Claim7 := { stood := { row := gaugeHoldsRow, standIns := [], harness := (true, "a770e75a86bd556b6619f8da9bc5e1ee3c0ec93a99155b636b369219251acf30"), looks := false }, kinds := [], alts := [], laidByText := true, laidKinds := [.data, .data, .data], laidTests := true, laidLooks := .later }
def GaugeHoldsCardSaid : Prop := Claim7.holds Tryd.pinned (.plain (OpenSpec.ofChange gaugeHoldsSpec)) gaugeHoldsCard

/-- THE TIED CARD OF 'shinglelaw40.GaugeTells'. -/
def gaugeTellsCard : Claim7 := { stood := { row := gaugeTellsRow, standIns := [], harness := (true, "a770e75a86bd556b6619f8da9bc5e1ee3c0ec93a99155b636b369219251acf30"), looks := false }, kinds := [], alts := [], laidByText := true, laidKinds := [.data, .data, .data], laidTests := true, laidLooks := .later }
def GaugeTellsCardSaid : Prop := Claim7.holds Tryd.pinned (.plain (OpenSpec.ofChange gaugeTellsSpec)) gaugeTellsCard

/-- THE SECOND FORM's CARD OF 'shinglelaw40.GaugeLevels'. -/
def gaugeLevelsUptoCard : Claim7 := { stood := { row := gaugeLevelsUptoRow, standIns := [], harness := (true, "a770e75a86bd556b6619f8da9bc5e1ee3c0ec93a99155b636b369219251acf30"), looks := false }, kinds := [], alts := [], laidByText := true, laidKinds := [.data, .data, .data], laidTests := true, laidLooks := .later }
def GaugeLevelsUptoCardSaid : Prop := Claim7.holds Tryd.pinned (.plain (OpenSpec.upto gaugeLevelsSpec)) gaugeLevelsUptoCard

/-- THE SECOND FORM's CARD OF 'shinglelaw40.GaugeCounts'. -/
def gaugeCountsUptoCard : Claim7 := { stood := { row := gaugeCountsUptoRow, standIns := [], harness := (true, "a770e75a86bd556b6619f8da9bc5e1ee3c0ec93a99155b636b369219251acf30"), looks := false }, kinds := [], alts := [], laidByText := true, laidKinds := [.data, .data, .data], laidTests := true, laidLooks := .later }
def GaugeCountsUptoCardSaid : Prop := Claim7.holds Tryd.pinned (.plain (OpenSpec.upto gaugeCountsSpec)) gaugeCountsUptoCard

/-- THE SECOND FORM's CARD OF 'shinglelaw40.GaugeHolds'. -/
def gaugeHoldsUptoCard : Claim7 := { stood := { row := gaugeHoldsUptoRow, standIns := [], harness := (true, "a770e75a86bd556b6619f8da9bc5e1ee3c0ec93a99155b636b369219251acf30"), looks := false }, kinds := [], alts := [], laidByText := true, laidKinds := [.data, .data, .data], laidTests := true, laidLooks := .later }
def GaugeHoldsUptoCardSaid : Prop := Claim7.holds Tryd.pinned (.plain (OpenSpec.upto gaugeHoldsSpec)) gaugeHoldsUptoCard

/-- THE SECOND FORM's CARD OF 'shinglelaw40.GaugeTells'. -/
def gaugeTellsUptoCard : Claim7 := { stood := { row := gaugeTellsUptoRow, standIns := [], harness := (true, "a770e75a86bd556b6619f8da9bc5e1ee3c0ec93a99155b636b369219251acf30"), looks := false }, kinds := [], alts := [], laidByText := true, laidKinds := [.data, .data, .data], laidTests := true, laidLooks := .later }
def GaugeTellsUptoCardSaid : Prop := Claim7.holds Tryd.pinned (.plain (OpenSpec.upto gaugeTellsSpec)) gaugeTellsUptoCard
end Rows
end Go.Proofs.YtipafgbcdmgmbaaDoor
