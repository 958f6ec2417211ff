/-
  DERIVED. GIVEN WITH THE SEED: THE CARDS: each row of YtjdhkocjkfdebaaGreatDoorRows.lean that lists a variable, with what it lists TIED to the program's text (the seventh form; the later family's looks); each row that meets fmt, with fmt's text TOLD by the authors' own Lean function (tested against real Go, not proved from fmt's source: count such statements apart). THE CARD IS WHAT COUNTS. Prove the row's statement (the work); the ties are given (YtjdhkocjkfdebaaGreatDoorTie.lean); close each card by the builder's one call (the guide's Derived/Test/ToyasCard.lean, 'card_holds'). Laid BY PROGRAM, IN A SANDBOX (cutbox-door.mjs). By AI agents, Wed Nov 11 2026. No macro, syntax, notation, axiom, sorry.
-/
import Derived.Test.YtjdhkocjkfdebaaGreatDoorRows
import GoSem.ClaimSeven
namespace Go.Proofs.YtjdhkocjkfdebaaGreatDoor
namespace Rows

/-- THE TIED CARD OF 'metrolabtop.TopPlatesStack'. -/
def topPlatesStackCard : Claim7 := { stood := { row := topPlatesStackRow, standIns := [], harness := (true, "f980ca9387f11af1d4b2763b05bcbf92984c06da41ceffe85e377c87ce628a3b"), looks := true }, kinds := [], alts := [], laidByText := true, laidKinds := [.data, .data, .data, .data, .data, .sentinel, .sentinel, .pinned], laidTests := true, laidLooks := .later }
def TopPlatesStackCardSaid : Prop := Claim7.holds Tryz.pinned (.plain (OpenSpec.ofChange topPlatesStackSpec)) topPlatesStackCard

/-- THE TIED CARD OF 'metrolablaw39.SizeFaces'. -/
def sizeFacesCard : Claim7 := { stood := { row := sizeFacesRow, standIns := [], harness := (true, "f980ca9387f11af1d4b2763b05bcbf92984c06da41ceffe85e377c87ce628a3b"), looks := true }, kinds := [], alts := [], laidByText := true, laidKinds := [.data, .data, .data, .data, .sentinel, .sentinel, .pinned], laidTests := true, laidLooks := .later }
def SizeFacesCardSaid : Prop := Claim7.holds Tryz.pinned (.plain (OpenSpec.ofChange sizeFacesSpec)) sizeFacesCard

/-- THE TIED CARD OF 'metrolablaw39.SizePins'. -/
def sizePinsCard : Claim7 := { stood := { row := sizePinsRow, standIns := [], harness := (true, "f980ca9387f11af1d4b2763b05bcbf92984c06da41ceffe85e377c87ce628a3b"), looks := true }, kinds := [], alts := [], laidByText := true, laidKinds := [.data, .data, .data, .data, .sentinel, .sentinel, .pinned], laidTests := true, laidLooks := .later }
def SizePinsCardSaid : Prop := Claim7.holds Tryz.pinned (.plain (OpenSpec.ofChange sizePinsSpec)) sizePinsCard

/-- THE TIED CARD OF 'metrolablaw39.SizeKeeps'. -/
def sizeKeepsCard : Claim7 := { stood := { row := sizeKeepsRow, standIns := [], harness := (true, "f980ca9387f11af1d4b2763b05bcbf92984c06da41ceffe85e377c87ce628a3b"), looks := true }, kinds := [], alts := [], laidByText := true, laidKinds := [.data, .data, .data, .data, .sentinel, .sentinel, .pinned], laidTests := true, laidLooks := .later }
def SizeKeepsCardSaid : Prop := Claim7.holds Tryz.pinned (.plain (OpenSpec.ofChange sizeKeepsSpec)) sizeKeepsCard

/-- THE TIED CARD OF 'metrolablaw39.SizeLocals'. -/
def sizeLocalsCard : Claim7 := { stood := { row := sizeLocalsRow, standIns := [], harness := (true, "f980ca9387f11af1d4b2763b05bcbf92984c06da41ceffe85e377c87ce628a3b"), looks := true }, kinds := [], alts := [], laidByText := true, laidKinds := [.data, .data, .data, .data, .sentinel, .sentinel, .pinned], laidTests := true, laidLooks := .later }
def SizeLocalsCardSaid : Prop := Claim7.holds Tryz.pinned (.plain (OpenSpec.ofChange sizeLocalsSpec)) sizeLocalsCard

/-- THE TIED CARD OF 'metrolablaw39.SizeEnvelopes'. -/
def sizeEnvelopesCard : Claim7 := { stood := { row := sizeEnvelopesRow, standIns := [], harness := (true, "f980ca9387f11af1d4b2763b05bcbf92984c06da41ceffe85e377c87ce628a3b"), looks := true }, kinds := [], alts := [], laidByText := true, laidKinds := [.data, .data, .data, .data, .sentinel, .sentinel, .pinned], laidTests := true, laidLooks := .later }
def SizeEnvelopesCardSaid : Prop := Claim7.holds Tryz.pinned (.plain (OpenSpec.ofChange sizeEnvelopesSpec)) sizeEnvelopesCard

/-- THE TIED CARD OF 'metrolablaw39.SizeMates'. -/
def sizeMatesCard : Claim7 := { stood := { row := sizeMatesRow, standIns := [], harness := (true, "f980ca9387f11af1d4b2763b05bcbf92984c06da41ceffe85e377c87ce628a3b"), looks := true }, kinds := [], alts := [], laidByText := true, laidKinds := [.data, .data, .data, .data, .sentinel, .sentinel, .pinned], laidTests := true, laidLooks := .later }
def SizeMatesCardSaid : Prop := Claim7.holds Tryz.pinned (.plain (OpenSpec.ofChange sizeMatesSpec)) sizeMatesCard

/-- THE TIED CARD OF 'metrolablaw39.SizePasses'. -/
def sizePassesCard : Claim7 := { stood := { row := sizePassesRow, standIns := [], harness := (true, "f980ca9387f11af1d4b2763b05bcbf92984c06da41ceffe85e377c87ce628a3b"), looks := true }, kinds := [], alts := [], laidByText := true, laidKinds := [.data, .data, .data, .data, .sentinel, .sentinel, .pinned], laidTests := true, laidLooks := .later }
def SizePassesCardSaid : Prop := Claim7.holds Tryz.pinned (.plain (OpenSpec.ofChange sizePassesSpec)) sizePassesCard

/-- THE TIED CARD OF 'metrolabtop.TopSizesRound'. -/
def topSizesRoundCard : Claim7 := { stood := { row := topSizesRoundRow, standIns := [], harness := (true, "f980ca9387f11af1d4b2763b05bcbf92984c06da41ceffe85e377c87ce628a3b"), looks := true }, kinds := [], alts := [], laidByText := true, laidKinds := [.data, .data, .data, .data, .sentinel, .sentinel, .pinned], laidTests := true, laidLooks := .later }
def TopSizesRoundCardSaid : Prop := Claim7.holds Tryz.pinned (.plain (OpenSpec.ofChange topSizesRoundSpec)) topSizesRoundCard

/-- THE TIED CARD OF 'metrolabtop.TopSizesPins'. -/
def topSizesPinsCard : Claim7 := { stood := { row := topSizesPinsRow, standIns := [], harness := (true, "f980ca9387f11af1d4b2763b05bcbf92984c06da41ceffe85e377c87ce628a3b"), looks := true }, kinds := [], alts := [], laidByText := true, laidKinds := [.data, .data, .data, .data, .sentinel, .sentinel, .pinned], laidTests := true, laidLooks := .later }
def TopSizesPinsCardSaid : Prop := Claim7.holds Tryz.pinned (.plain (OpenSpec.ofChange topSizesPinsSpec)) topSizesPinsCard

/-- THE SECOND FORM's CARD OF 'metrolabtop.TopPlatesStack'. -/
def topPlatesStackUptoCard : Claim7 := { stood := { row := topPlatesStackUptoRow, standIns := [], harness := (true, "f980ca9387f11af1d4b2763b05bcbf92984c06da41ceffe85e377c87ce628a3b"), looks := true }, kinds := [], alts := [], laidByText := true, laidKinds := [.data, .data, .data, .data, .data, .sentinel, .sentinel, .pinned], laidTests := true, laidLooks := .later }
def TopPlatesStackUptoCardSaid : Prop := Claim7.holds Tryz.pinned (.plain (OpenSpec.upto topPlatesStackSpec)) topPlatesStackUptoCard

/-- THE SECOND FORM's CARD OF 'metrolablaw39.SizeFaces'. -/
def sizeFacesUptoCard : Claim7 := { stood := { row := sizeFacesUptoRow, standIns := [], harness := (true, "f980ca9387f11af1d4b2763b05bcbf92984c06da41ceffe85e377c87ce628a3b"), looks := true }, kinds := [], alts := [], laidByText := true, laidKinds := [.data, .data, .data, .data, .sentinel, .sentinel, .pinned], laidTests := true, laidLooks := .later }
def SizeFacesUptoCardSaid : Prop := Claim7.holds Tryz.pinned (.plain (OpenSpec.upto sizeFacesSpec)) sizeFacesUptoCard

/-- THE SECOND FORM's CARD OF 'metrolablaw39.SizePins'. -/
def sizePinsUptoCard : Claim7 := { stood := { row := sizePinsUptoRow, standIns := [], harness := (true, "f980ca9387f11af1d4b2763b05bcbf92984c06da41ceffe85e377c87ce628a3b"), looks := true }, kinds := [], alts := [], laidByText := true, laidKinds := [.data, .data, .data, .data, .sentinel, .sentinel, .pinned], laidTests := true, laidLooks := .later }
def SizePinsUptoCardSaid : Prop := Claim7.holds Tryz.pinned (.plain (OpenSpec.upto sizePinsSpec)) sizePinsUptoCard

/-- THE SECOND FORM's CARD OF 'metrolablaw39.SizeKeeps'. -/
def sizeKeepsUptoCard : Claim7 := { stood := { row := sizeKeepsUptoRow, standIns := [], harness := (true, "f980ca9387f11af1d4b2763b05bcbf92984c06da41ceffe85e377c87ce628a3b"), looks := true }, kinds := [], alts := [], laidByText := true, laidKinds := [.data, .data, .data, .data, .sentinel, .sentinel, .pinned], laidTests := true, laidLooks := .later }
def SizeKeepsUptoCardSaid : Prop := Claim7.holds Tryz.pinned (.plain (OpenSpec.upto sizeKeepsSpec)) sizeKeepsUptoCard

/-- THE SECOND FORM's CARD OF 'metrolablaw39.SizeLocals'. -/
def sizeLocalsUptoCard : Claim7 := { stood := { row := sizeLocalsUptoRow, standIns := [], harness := (true, "f980ca9387f11af1d4b2763b05bcbf92984c06da41ceffe85e377c87ce628a3b"), looks := true }, kinds := [], alts := [], laidByText := true, laidKinds := [.data, .data, .data, .data, .sentinel, .sentinel, .pinned], laidTests := true, laidLooks := .later }
def SizeLocalsUptoCardSaid : Prop := Claim7.holds Tryz.pinned (.plain (OpenSpec.upto sizeLocalsSpec)) sizeLocalsUptoCard

/-- THE SECOND FORM's CARD OF 'metrolablaw39.SizeEnvelopes'. -/
def sizeEnvelopesUptoCard : Claim7 := { stood := { row := sizeEnvelopesUptoRow, standIns := [], harness := (true, "f980ca9387f11af1d4b2763b05bcbf92984c06da41ceffe85e377c87ce628a3b"), looks := true }, kinds := [], alts := [], laidByText := true, laidKinds := [.data, .data, .data, .data, .sentinel, .sentinel, .pinned], laidTests := true, laidLooks := .later }
def SizeEnvelopesUptoCardSaid : Prop := Claim7.holds Tryz.pinned (.plain (OpenSpec.upto sizeEnvelopesSpec)) sizeEnvelopesUptoCard

/-- THE SECOND FORM's CARD OF 'metrolablaw39.SizeMates'. -/
def sizeMatesUptoCard : Claim7 := { stood := { row := sizeMatesUptoRow, standIns := [], harness := (true, "f980ca9387f11af1d4b2763b05bcbf92984c06da41ceffe85e377c87ce628a3b"), looks := true }, kinds := [], alts := [], laidByText := true, laidKinds := [.data, .data, .data, .data, .sentinel, .sentinel, .pinned], laidTests := true, laidLooks := .later }
def SizeMatesUptoCardSaid : Prop := Claim7.holds Tryz.pinned (.plain (OpenSpec.upto sizeMatesSpec)) sizeMatesUptoCard

/-- THE SECOND FORM's CARD OF 'metrolablaw39.SizePasses'. -/
def sizePassesUptoCard : Claim7 := { stood := { row := sizePassesUptoRow, standIns := [], harness := (true, "f980ca9387f11af1d4b2763b05bcbf92984c06da41ceffe85e377c87ce628a3b"), looks := true }, kinds := [], alts := [], laidByText := true, laidKinds := [.data, .data, .data, .data, .sentinel, .sentinel, .pinned], laidTests := true, laidLooks := .later }
def SizePassesUptoCardSaid : Prop := Claim7.holds Tryz.pinned (.plain (OpenSpec.upto sizePassesSpec)) sizePassesUptoCard

/-- THE SECOND FORM's CARD OF 'metrolabtop.TopSizesRound'. -/
def topSizesRoundUptoCard : Claim7 := { stood := { row := topSizesRoundUptoRow, standIns := [], harness := (true, "f980ca9387f11af1d4b2763b05bcbf92984c06da41ceffe85e377c87ce628a3b"), looks := true }, kinds := [], alts := [], laidByText := true, laidKinds := [.data, .data, .data, .data, .sentinel, .sentinel, .pinned], laidTests := true, laidLooks := .later }
def TopSizesRoundUptoCardSaid : Prop := Claim7.holds Tryz.pinned (.plain (OpenSpec.upto topSizesRoundSpec)) topSizesRoundUptoCard

/-- THE SECOND FORM's CARD OF 'metrolabtop.TopSizesPins'. -/
def topSizesPinsUptoCard : Claim7 := { stood := { row := topSizesPinsUptoRow, standIns := [], harness := (true, "f980ca9387f11af1d4b2763b05bcbf92984c06da41ceffe85e377c87ce628a3b"), looks := true }, kinds := [], alts := [], laidByText := true, laidKinds := [.data, .data, .data, .data, .sentinel, .sentinel, .pinned], laidTests := true, laidLooks := .later }
def TopSizesPinsUptoCardSaid : Prop := Claim7.holds Tryz.pinned (.plain (OpenSpec.upto topSizesPinsSpec)) topSizesPinsUptoCard
end Rows
end Go.Proofs.YtjdhkocjkfdebaaGreatDoor
