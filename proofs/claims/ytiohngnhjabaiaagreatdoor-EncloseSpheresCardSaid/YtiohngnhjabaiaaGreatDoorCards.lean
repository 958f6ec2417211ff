/-
  DERIVED. GIVEN WITH THE SEED: THE CARDS: each row of YtiohngnhjabaiaaGreatDoorRows.lean that lists a variable, with what it lists TIED to the program's text (the seventh form; the later family's looks); each row that meets fmt, with fmt's text TOLD by the authors' own Lean function (tested against real Go, not proved from fmt's source: count such statements apart). THE CARD IS WHAT COUNTS. Prove the row's statement (the work); the ties are given (YtiohngnhjabaiaaGreatDoorTie.lean); close each card by the builder's one call (the guide's Derived/Test/ToyasCard.lean, 'card_holds'). Laid BY PROGRAM, IN A SANDBOX (cutbox-door.mjs). By AI agents, Wed Nov 11 2026. No macro, syntax, notation, axiom, sorry.
-/
import Derived.Test.YtiohngnhjabaiaaGreatDoorRows
import GoSem.ClaimSeven
namespace Go.Proofs.YtiohngnhjabaiaaGreatDoor
namespace Rows

/-- THE TIED CARD OF 'metrolabtop.TopCirclesTriples'. -/
def topCirclesTriplesCard : Claim7 := { stood := { row := topCirclesTriplesRow, standIns := [], harness := (true, "60a28ccc9cd8727f4f1b796edd11c2c9abc6b64846ef4a9f129156bc58a9d707"), looks := true }, kinds := [], alts := [], laidByText := true, laidKinds := [.data, .data, .data, .data, .sentinel, .sentinel, .pinned], laidTests := true, laidLooks := .later }
def TopCirclesTriplesCardSaid : Prop := Claim7.holds Tryz.pinned (.plain (OpenSpec.ofChange topCirclesTriplesSpec)) topCirclesTriplesCard

/-- THE TIED CARD OF 'metrolablaw11.EncloseCircles'. -/
def encloseCirclesCard : Claim7 := { stood := { row := encloseCirclesRow, standIns := [], harness := (true, "60a28ccc9cd8727f4f1b796edd11c2c9abc6b64846ef4a9f129156bc58a9d707"), looks := true }, kinds := [], alts := [], laidByText := true, laidKinds := [.data, .data, .data, .data, .sentinel, .sentinel, .pinned], laidTests := true, laidLooks := .later }
def EncloseCirclesCardSaid : Prop := Claim7.holds Tryz.pinned (.plain (OpenSpec.ofChange encloseCirclesSpec)) encloseCirclesCard

/-- THE TIED CARD OF 'metrolablaw11.EncloseVerifies'. -/
def encloseVerifiesCard : Claim7 := { stood := { row := encloseVerifiesRow, standIns := [], harness := (true, "60a28ccc9cd8727f4f1b796edd11c2c9abc6b64846ef4a9f129156bc58a9d707"), looks := true }, kinds := [], alts := [], laidByText := true, laidKinds := [.data, .data, .data, .data, .sentinel, .sentinel, .pinned], laidTests := true, laidLooks := .later }
def EncloseVerifiesCardSaid : Prop := Claim7.holds Tryz.pinned (.plain (OpenSpec.ofChange encloseVerifiesSpec)) encloseVerifiesCard

/-- THE TIED CARD OF 'metrolablaw11.EncloseLeast'. -/
def encloseLeastCard : Claim7 := { stood := { row := encloseLeastRow, standIns := [], harness := (true, "60a28ccc9cd8727f4f1b796edd11c2c9abc6b64846ef4a9f129156bc58a9d707"), looks := true }, kinds := [], alts := [], laidByText := true, laidKinds := [.data, .data, .data, .data, .sentinel, .sentinel, .pinned], laidTests := true, laidLooks := .later }
def EncloseLeastCardSaid : Prop := Claim7.holds Tryz.pinned (.plain (OpenSpec.ofChange encloseLeastSpec)) encloseLeastCard

/-- THE TIED CARD OF 'metrolablaw11.EncloseProves'. -/
def encloseProvesCard : Claim7 := { stood := { row := encloseProvesRow, standIns := [], harness := (true, "60a28ccc9cd8727f4f1b796edd11c2c9abc6b64846ef4a9f129156bc58a9d707"), looks := true }, kinds := [], alts := [], laidByText := true, laidKinds := [.data, .data, .data, .data, .sentinel, .sentinel, .pinned], laidTests := true, laidLooks := .later }
def EncloseProvesCardSaid : Prop := Claim7.holds Tryz.pinned (.plain (OpenSpec.ofChange encloseProvesSpec)) encloseProvesCard

/-- THE TIED CARD OF 'metrolablaw11.EncloseSpheres'. -/
def encloseSpheresCard : Claim7 := { stood := { row := encloseSpheresRow, standIns := [], harness := (true, "60a28ccc9cd8727f4f1b796edd11c2c9abc6b64846ef4a9f129156bc58a9d707"), looks := true }, kinds := [], alts := [], laidByText := true, laidKinds := [.data, .data, .data, .data, .sentinel, .sentinel, .pinned], laidTests := true, laidLooks := .later }
def EncloseSpheresCardSaid : Prop := Claim7.holds Tryz.pinned (.plain (OpenSpec.ofChange encloseSpheresSpec)) encloseSpheresCard

/-- THE TIED CARD OF 'metrolablaw11.EncloseHolds'. -/
def encloseHoldsCard : Claim7 := { stood := { row := encloseHoldsRow, standIns := [], harness := (true, "60a28ccc9cd8727f4f1b796edd11c2c9abc6b64846ef4a9f129156bc58a9d707"), looks := true }, kinds := [], alts := [], laidByText := true, laidKinds := [.data, .data, .data, .data, .sentinel, .sentinel, .pinned], laidTests := true, laidLooks := .later }
def EncloseHoldsCardSaid : Prop := Claim7.holds Tryz.pinned (.plain (OpenSpec.ofChange encloseHoldsSpec)) encloseHoldsCard

/-- THE TIED CARD OF 'metrolablaw11.EncloseGrows'. -/
def encloseGrowsCard : Claim7 := { stood := { row := encloseGrowsRow, standIns := [], harness := (true, "60a28ccc9cd8727f4f1b796edd11c2c9abc6b64846ef4a9f129156bc58a9d707"), looks := true }, kinds := [], alts := [], laidByText := true, laidKinds := [.data, .data, .data, .data, .sentinel, .sentinel, .pinned], laidTests := true, laidLooks := .later }
def EncloseGrowsCardSaid : Prop := Claim7.holds Tryz.pinned (.plain (OpenSpec.ofChange encloseGrowsSpec)) encloseGrowsCard

/-- THE TIED CARD OF 'metrolablaw12.DiscsEnclose'. -/
def discsEncloseCard : Claim7 := { stood := { row := discsEncloseRow, standIns := [], harness := (true, "60a28ccc9cd8727f4f1b796edd11c2c9abc6b64846ef4a9f129156bc58a9d707"), looks := true }, kinds := [], alts := [], laidByText := true, laidKinds := [.data, .data, .data, .data, .sentinel, .sentinel, .pinned], laidTests := true, laidLooks := .later }
def DiscsEncloseCardSaid : Prop := Claim7.holds Tryz.pinned (.plain (OpenSpec.ofChange discsEncloseSpec)) discsEncloseCard

/-- THE TIED CARD OF 'metrolabtop.TopCirclesCenters'. -/
def topCirclesCentersCard : Claim7 := { stood := { row := topCirclesCentersRow, standIns := [], harness := (true, "60a28ccc9cd8727f4f1b796edd11c2c9abc6b64846ef4a9f129156bc58a9d707"), looks := true }, kinds := [], alts := [], laidByText := true, laidKinds := [.data, .data, .data, .data, .sentinel, .sentinel, .pinned], laidTests := true, laidLooks := .later }
def TopCirclesCentersCardSaid : Prop := Claim7.holds Tryz.pinned (.plain (OpenSpec.ofChange topCirclesCentersSpec)) topCirclesCentersCard

/-- THE TIED CARD OF 'metrolabtop.TopCirclesDiscs'. -/
def topCirclesDiscsCard : Claim7 := { stood := { row := topCirclesDiscsRow, standIns := [], harness := (true, "60a28ccc9cd8727f4f1b796edd11c2c9abc6b64846ef4a9f129156bc58a9d707"), looks := true }, kinds := [], alts := [], laidByText := true, laidKinds := [.data, .data, .data, .data, .sentinel, .sentinel, .pinned], laidTests := true, laidLooks := .later }
def TopCirclesDiscsCardSaid : Prop := Claim7.holds Tryz.pinned (.plain (OpenSpec.ofChange topCirclesDiscsSpec)) topCirclesDiscsCard

/-- THE SECOND FORM's CARD OF 'metrolabtop.TopCirclesTriples'. -/
def topCirclesTriplesUptoCard : Claim7 := { stood := { row := topCirclesTriplesUptoRow, standIns := [], harness := (true, "60a28ccc9cd8727f4f1b796edd11c2c9abc6b64846ef4a9f129156bc58a9d707"), looks := true }, kinds := [], alts := [], laidByText := true, laidKinds := [.data, .data, .data, .data, .sentinel, .sentinel, .pinned], laidTests := true, laidLooks := .later }
def TopCirclesTriplesUptoCardSaid : Prop := Claim7.holds Tryz.pinned (.plain (OpenSpec.upto topCirclesTriplesSpec)) topCirclesTriplesUptoCard

/-- THE SECOND FORM's CARD OF 'metrolablaw11.EncloseCircles'. -/
def encloseCirclesUptoCard : Claim7 := { stood := { row := encloseCirclesUptoRow, standIns := [], harness := (true, "60a28ccc9cd8727f4f1b796edd11c2c9abc6b64846ef4a9f129156bc58a9d707"), looks := true }, kinds := [], alts := [], laidByText := true, laidKinds := [.data, .data, .data, .data, .sentinel, .sentinel, .pinned], laidTests := true, laidLooks := .later }
def EncloseCirclesUptoCardSaid : Prop := Claim7.holds Tryz.pinned (.plain (OpenSpec.upto encloseCirclesSpec)) encloseCirclesUptoCard

/-- THE SECOND FORM's CARD OF 'metrolablaw11.EncloseVerifies'. -/
def encloseVerifiesUptoCard : Claim7 := { stood := { row := encloseVerifiesUptoRow, standIns := [], harness := (true, "60a28ccc9cd8727f4f1b796edd11c2c9abc6b64846ef4a9f129156bc58a9d707"), looks := true }, kinds := [], alts := [], laidByText := true, laidKinds := [.data, .data, .data, .data, .sentinel, .sentinel, .pinned], laidTests := true, laidLooks := .later }
def EncloseVerifiesUptoCardSaid : Prop := Claim7.holds Tryz.pinned (.plain (OpenSpec.upto encloseVerifiesSpec)) encloseVerifiesUptoCard

/-- THE SECOND FORM's CARD OF 'metrolablaw11.EncloseLeast'. -/
def encloseLeastUptoCard : Claim7 := { stood := { row := encloseLeastUptoRow, standIns := [], harness := (true, "60a28ccc9cd8727f4f1b796edd11c2c9abc6b64846ef4a9f129156bc58a9d707"), looks := true }, kinds := [], alts := [], laidByText := true, laidKinds := [.data, .data, .data, .data, .sentinel, .sentinel, .pinned], laidTests := true, laidLooks := .later }
def EncloseLeastUptoCardSaid : Prop := Claim7.holds Tryz.pinned (.plain (OpenSpec.upto encloseLeastSpec)) encloseLeastUptoCard

/-- THE SECOND FORM's CARD OF 'metrolablaw11.EncloseProves'. -/
def encloseProvesUptoCard : Claim7 := { stood := { row := encloseProvesUptoRow, standIns := [], harness := (true, "60a28ccc9cd8727f4f1b796edd11c2c9abc6b64846ef4a9f129156bc58a9d707"), looks := true }, kinds := [], alts := [], laidByText := true, laidKinds := [.data, .data, .data, .data, .sentinel, .sentinel, .pinned], laidTests := true, laidLooks := .later }
def EncloseProvesUptoCardSaid : Prop := Claim7.holds Tryz.pinned (.plain (OpenSpec.upto encloseProvesSpec)) encloseProvesUptoCard

/-- THE SECOND FORM's CARD OF 'metrolablaw11.EncloseSpheres'. -/
def encloseSpheresUptoCard : Claim7 := { stood := { row := encloseSpheresUptoRow, standIns := [], harness := (true, "60a28ccc9cd8727f4f1b796edd11c2c9abc6b64846ef4a9f129156bc58a9d707"), looks := true }, kinds := [], alts := [], laidByText := true, laidKinds := [.data, .data, .data, .data, .sentinel, .sentinel, .pinned], laidTests := true, laidLooks := .later }
def EncloseSpheresUptoCardSaid : Prop := Claim7.holds Tryz.pinned (.plain (OpenSpec.upto encloseSpheresSpec)) encloseSpheresUptoCard

/-- THE SECOND FORM's CARD OF 'metrolablaw11.EncloseHolds'. -/
def encloseHoldsUptoCard : Claim7 := { stood := { row := encloseHoldsUptoRow, standIns := [], harness := (true, "60a28ccc9cd8727f4f1b796edd11c2c9abc6b64846ef4a9f129156bc58a9d707"), looks := true }, kinds := [], alts := [], laidByText := true, laidKinds := [.data, .data, .data, .data, .sentinel, .sentinel, .pinned], laidTests := true, laidLooks := .later }
def EncloseHoldsUptoCardSaid : Prop := Claim7.holds Tryz.pinned (.plain (OpenSpec.upto encloseHoldsSpec)) encloseHoldsUptoCard

/-- THE SECOND FORM's CARD OF 'metrolablaw11.EncloseGrows'. -/
def encloseGrowsUptoCard : Claim7 := { stood := { row := encloseGrowsUptoRow, standIns := [], harness := (true, "60a28ccc9cd8727f4f1b796edd11c2c9abc6b64846ef4a9f129156bc58a9d707"), looks := true }, kinds := [], alts := [], laidByText := true, laidKinds := [.data, .data, .data, .data, .sentinel, .sentinel, .pinned], laidTests := true, laidLooks := .later }
def EncloseGrowsUptoCardSaid : Prop := Claim7.holds Tryz.pinned (.plain (OpenSpec.upto encloseGrowsSpec)) encloseGrowsUptoCard

/-- THE SECOND FORM's CARD OF 'metrolablaw12.DiscsEnclose'. -/
def discsEncloseUptoCard : Claim7 := { stood := { row := discsEncloseUptoRow, standIns := [], harness := (true, "60a28ccc9cd8727f4f1b796edd11c2c9abc6b64846ef4a9f129156bc58a9d707"), looks := true }, kinds := [], alts := [], laidByText := true, laidKinds := [.data, .data, .data, .data, .sentinel, .sentinel, .pinned], laidTests := true, laidLooks := .later }
def DiscsEncloseUptoCardSaid : Prop := Claim7.holds Tryz.pinned (.plain (OpenSpec.upto discsEncloseSpec)) discsEncloseUptoCard

/-- THE SECOND FORM's CARD OF 'metrolabtop.TopCirclesCenters'. -/
def topCirclesCentersUptoCard : Claim7 := { stood := { row := topCirclesCentersUptoRow, standIns := [], harness := (true, "60a28ccc9cd8727f4f1b796edd11c2c9abc6b64846ef4a9f129156bc58a9d707"), looks := true }, kinds := [], alts := [], laidByText := true, laidKinds := [.data, .data, .data, .data, .sentinel, .sentinel, .pinned], laidTests := true, laidLooks := .later }
def TopCirclesCentersUptoCardSaid : Prop := Claim7.holds Tryz.pinned (.plain (OpenSpec.upto topCirclesCentersSpec)) topCirclesCentersUptoCard

/-- THE SECOND FORM's CARD OF 'metrolabtop.TopCirclesDiscs'. -/
def topCirclesDiscsUptoCard : Claim7 := { stood := { row := topCirclesDiscsUptoRow, standIns := [], harness := (true, "60a28ccc9cd8727f4f1b796edd11c2c9abc6b64846ef4a9f129156bc58a9d707"), looks := true }, kinds := [], alts := [], laidByText := true, laidKinds := [.data, .data, .data, .data, .sentinel, .sentinel, .pinned], laidTests := true, laidLooks := .later }
def TopCirclesDiscsUptoCardSaid : Prop := Claim7.holds Tryz.pinned (.plain (OpenSpec.upto topCirclesDiscsSpec)) topCirclesDiscsUptoCard
end Rows
end Go.Proofs.YtiohngnhjabaiaaGreatDoor
