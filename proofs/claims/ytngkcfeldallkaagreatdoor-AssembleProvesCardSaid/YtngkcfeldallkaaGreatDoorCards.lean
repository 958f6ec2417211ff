/-
  DERIVED. GIVEN WITH THE SEED: THE CARDS: each row of YtngkcfeldallkaaGreatDoorRows.lean that lists a variable, with what it lists TIED to the program's text (the seventh form; the later family's looks); each row that meets fmt, with fmt's text TOLD by the authors' own Lean function (tested against real Go, not proved from fmt's source: count such statements apart). THE CARD IS WHAT COUNTS. Prove the row's statement (the work); the ties are given (YtngkcfeldallkaaGreatDoorTie.lean); close each card by the builder's one call (the guide's Derived/Test/ToyasCard.lean, 'card_holds'). Laid BY PROGRAM, IN A SANDBOX (cutbox-door.mjs). By AI agents, Wed Nov 11 2026. No macro, syntax, notation, axiom, sorry.
-/
import Derived.Test.YtngkcfeldallkaaGreatDoorRows
import GoSem.ClaimSeven
namespace Go.Proofs.YtngkcfeldallkaaGreatDoor
namespace Rows

/-- THE TIED CARD OF 'metrolablaw49.AssembleChecks'. -/
def assembleChecksCard : Claim7 := { stood := { row := assembleChecksRow, standIns := [], harness := (true, "57408edd11eb365f8a7e6f46534c18e7d6c214504f732c982d8a9eea01de238c"), looks := true }, kinds := [], alts := [], laidByText := true, laidKinds := [.data, .data, .data, .data, .data, .sentinel, .sentinel, .pinned], laidTests := true, laidLooks := .later }
def AssembleChecksCardSaid : Prop := Claim7.holds Tryz.pinned (.plain (OpenSpec.ofChange assembleChecksSpec)) assembleChecksCard

/-- THE TIED CARD OF 'metrolablaw49.AssemblePlaces'. -/
def assemblePlacesCard : Claim7 := { stood := { row := assemblePlacesRow, standIns := [], harness := (true, "57408edd11eb365f8a7e6f46534c18e7d6c214504f732c982d8a9eea01de238c"), looks := true }, kinds := [], alts := [], laidByText := true, laidKinds := [.data, .data, .data, .data, .data, .sentinel, .sentinel, .pinned], laidTests := true, laidLooks := .later }
def AssemblePlacesCardSaid : Prop := Claim7.holds Tryz.pinned (.plain (OpenSpec.ofChange assemblePlacesSpec)) assemblePlacesCard

/-- THE TIED CARD OF 'metrolablaw49.AssembleShifts'. -/
def assembleShiftsCard : Claim7 := { stood := { row := assembleShiftsRow, standIns := [], harness := (true, "57408edd11eb365f8a7e6f46534c18e7d6c214504f732c982d8a9eea01de238c"), looks := true }, kinds := [], alts := [], laidByText := true, laidKinds := [.data, .data, .data, .data, .data, .sentinel, .sentinel, .pinned], laidTests := true, laidLooks := .later }
def AssembleShiftsCardSaid : Prop := Claim7.holds Tryz.pinned (.plain (OpenSpec.ofChange assembleShiftsSpec)) assembleShiftsCard

/-- THE TIED CARD OF 'metrolablaw49.AssembleMoves'. -/
def assembleMovesCard : Claim7 := { stood := { row := assembleMovesRow, standIns := [], harness := (true, "57408edd11eb365f8a7e6f46534c18e7d6c214504f732c982d8a9eea01de238c"), looks := true }, kinds := [], alts := [], laidByText := true, laidKinds := [.data, .data, .data, .data, .data, .sentinel, .sentinel, .pinned], laidTests := true, laidLooks := .later }
def AssembleMovesCardSaid : Prop := Claim7.holds Tryz.pinned (.plain (OpenSpec.ofChange assembleMovesSpec)) assembleMovesCard

/-- THE TIED CARD OF 'metrolablaw49.AssembleProves'. -/
def assembleProvesCard : Claim7 := { stood := { row := assembleProvesRow, standIns := [], harness := (true, "57408edd11eb365f8a7e6f46534c18e7d6c214504f732c982d8a9eea01de238c"), looks := true }, kinds := [], alts := [], laidByText := true, laidKinds := [.data, .data, .data, .data, .data, .sentinel, .sentinel, .pinned], laidTests := true, laidLooks := .later }
def AssembleProvesCardSaid : Prop := Claim7.holds Tryz.pinned (.plain (OpenSpec.ofChange assembleProvesSpec)) assembleProvesCard

/-- THE TIED CARD OF 'metrolablaw49.AssembleHeights'. -/
def assembleHeightsCard : Claim7 := { stood := { row := assembleHeightsRow, standIns := [], harness := (true, "57408edd11eb365f8a7e6f46534c18e7d6c214504f732c982d8a9eea01de238c"), looks := true }, kinds := [], alts := [], laidByText := true, laidKinds := [.data, .data, .data, .data, .data, .sentinel, .sentinel, .pinned], laidTests := true, laidLooks := .later }
def AssembleHeightsCardSaid : Prop := Claim7.holds Tryz.pinned (.plain (OpenSpec.ofChange assembleHeightsSpec)) assembleHeightsCard

/-- THE TIED CARD OF 'metrolablaw49.AssembleAttains'. -/
def assembleAttainsCard : Claim7 := { stood := { row := assembleAttainsRow, standIns := [], harness := (true, "57408edd11eb365f8a7e6f46534c18e7d6c214504f732c982d8a9eea01de238c"), looks := true }, kinds := [], alts := [], laidByText := true, laidKinds := [.data, .data, .data, .data, .data, .sentinel, .sentinel, .pinned], laidTests := true, laidLooks := .later }
def AssembleAttainsCardSaid : Prop := Claim7.holds Tryz.pinned (.plain (OpenSpec.ofChange assembleAttainsSpec)) assembleAttainsCard

/-- THE TIED CARD OF 'metrolablaw49.AssembleAccepted'. -/
def assembleAcceptedCard : Claim7 := { stood := { row := assembleAcceptedRow, standIns := [], harness := (true, "57408edd11eb365f8a7e6f46534c18e7d6c214504f732c982d8a9eea01de238c"), looks := true }, kinds := [], alts := [], laidByText := true, laidKinds := [.data, .data, .data, .data, .data, .sentinel, .sentinel, .pinned], laidTests := true, laidLooks := .later }
def AssembleAcceptedCardSaid : Prop := Claim7.holds Tryz.pinned (.plain (OpenSpec.ofChange assembleAcceptedSpec)) assembleAcceptedCard

/-- THE SECOND FORM's CARD OF 'metrolablaw49.AssembleChecks'. -/
def assembleChecksUptoCard : Claim7 := { stood := { row := assembleChecksUptoRow, standIns := [], harness := (true, "57408edd11eb365f8a7e6f46534c18e7d6c214504f732c982d8a9eea01de238c"), looks := true }, kinds := [], alts := [], laidByText := true, laidKinds := [.data, .data, .data, .data, .data, .sentinel, .sentinel, .pinned], laidTests := true, laidLooks := .later }
def AssembleChecksUptoCardSaid : Prop := Claim7.holds Tryz.pinned (.plain (OpenSpec.upto assembleChecksSpec)) assembleChecksUptoCard

/-- THE SECOND FORM's CARD OF 'metrolablaw49.AssemblePlaces'. -/
def assemblePlacesUptoCard : Claim7 := { stood := { row := assemblePlacesUptoRow, standIns := [], harness := (true, "57408edd11eb365f8a7e6f46534c18e7d6c214504f732c982d8a9eea01de238c"), looks := true }, kinds := [], alts := [], laidByText := true, laidKinds := [.data, .data, .data, .data, .data, .sentinel, .sentinel, .pinned], laidTests := true, laidLooks := .later }
def AssemblePlacesUptoCardSaid : Prop := Claim7.holds Tryz.pinned (.plain (OpenSpec.upto assemblePlacesSpec)) assemblePlacesUptoCard

/-- THE SECOND FORM's CARD OF 'metrolablaw49.AssembleShifts'. -/
def assembleShiftsUptoCard : Claim7 := { stood := { row := assembleShiftsUptoRow, standIns := [], harness := (true, "57408edd11eb365f8a7e6f46534c18e7d6c214504f732c982d8a9eea01de238c"), looks := true }, kinds := [], alts := [], laidByText := true, laidKinds := [.data, .data, .data, .data, .data, .sentinel, .sentinel, .pinned], laidTests := true, laidLooks := .later }
def AssembleShiftsUptoCardSaid : Prop := Claim7.holds Tryz.pinned (.plain (OpenSpec.upto assembleShiftsSpec)) assembleShiftsUptoCard

/-- THE SECOND FORM's CARD OF 'metrolablaw49.AssembleMoves'. -/
def assembleMovesUptoCard : Claim7 := { stood := { row := assembleMovesUptoRow, standIns := [], harness := (true, "57408edd11eb365f8a7e6f46534c18e7d6c214504f732c982d8a9eea01de238c"), looks := true }, kinds := [], alts := [], laidByText := true, laidKinds := [.data, .data, .data, .data, .data, .sentinel, .sentinel, .pinned], laidTests := true, laidLooks := .later }
def AssembleMovesUptoCardSaid : Prop := Claim7.holds Tryz.pinned (.plain (OpenSpec.upto assembleMovesSpec)) assembleMovesUptoCard

/-- THE SECOND FORM's CARD OF 'metrolablaw49.AssembleProves'. -/
def assembleProvesUptoCard : Claim7 := { stood := { row := assembleProvesUptoRow, standIns := [], harness := (true, "57408edd11eb365f8a7e6f46534c18e7d6c214504f732c982d8a9eea01de238c"), looks := true }, kinds := [], alts := [], laidByText := true, laidKinds := [.data, .data, .data, .data, .data, .sentinel, .sentinel, .pinned], laidTests := true, laidLooks := .later }
def AssembleProvesUptoCardSaid : Prop := Claim7.holds Tryz.pinned (.plain (OpenSpec.upto assembleProvesSpec)) assembleProvesUptoCard

/-- THE SECOND FORM's CARD OF 'metrolablaw49.AssembleHeights'. -/
def assembleHeightsUptoCard : Claim7 := { stood := { row := assembleHeightsUptoRow, standIns := [], harness := (true, "57408edd11eb365f8a7e6f46534c18e7d6c214504f732c982d8a9eea01de238c"), looks := true }, kinds := [], alts := [], laidByText := true, laidKinds := [.data, .data, .data, .data, .data, .sentinel, .sentinel, .pinned], laidTests := true, laidLooks := .later }
def AssembleHeightsUptoCardSaid : Prop := Claim7.holds Tryz.pinned (.plain (OpenSpec.upto assembleHeightsSpec)) assembleHeightsUptoCard

/-- THE SECOND FORM's CARD OF 'metrolablaw49.AssembleAttains'. -/
def assembleAttainsUptoCard : Claim7 := { stood := { row := assembleAttainsUptoRow, standIns := [], harness := (true, "57408edd11eb365f8a7e6f46534c18e7d6c214504f732c982d8a9eea01de238c"), looks := true }, kinds := [], alts := [], laidByText := true, laidKinds := [.data, .data, .data, .data, .data, .sentinel, .sentinel, .pinned], laidTests := true, laidLooks := .later }
def AssembleAttainsUptoCardSaid : Prop := Claim7.holds Tryz.pinned (.plain (OpenSpec.upto assembleAttainsSpec)) assembleAttainsUptoCard

/-- THE SECOND FORM's CARD OF 'metrolablaw49.AssembleAccepted'. -/
def assembleAcceptedUptoCard : Claim7 := { stood := { row := assembleAcceptedUptoRow, standIns := [], harness := (true, "57408edd11eb365f8a7e6f46534c18e7d6c214504f732c982d8a9eea01de238c"), looks := true }, kinds := [], alts := [], laidByText := true, laidKinds := [.data, .data, .data, .data, .data, .sentinel, .sentinel, .pinned], laidTests := true, laidLooks := .later }
def AssembleAcceptedUptoCardSaid : Prop := Claim7.holds Tryz.pinned (.plain (OpenSpec.upto assembleAcceptedSpec)) assembleAcceptedUptoCard
end Rows
end Go.Proofs.YtngkcfeldallkaaGreatDoor
