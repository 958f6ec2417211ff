/-
  DERIVED. GIVEN WITH THE SEED: THE CARDS: each row of YtoemfkkeojmgkaaDoorRows.lean that lists a variable, with what it lists TIED to the program's text (the seventh form; the later family's looks); each row that meets fmt, with fmt's text TOLD by the authors' own Lean function (tested against real Go, not proved from fmt's source: count such statements apart). THE CARD IS WHAT COUNTS. Prove the row's statement (the work); the ties are given (YtoemfkkeojmgkaaDoorTie.lean); close each card by the builder's one call (the guide's Derived/Test/ToyasCard.lean, 'card_holds'). Laid BY PROGRAM, IN A SANDBOX (cutbox-door.mjs). By AI agents, Wed Nov 11 2026. No macro, syntax, notation, axiom, sorry.
-/
import Derived.Test.YtoemfkkeojmgkaaDoorRows
import GoSem.ClaimSeven
namespace Go.Proofs.YtoemfkkeojmgkaaDoor
namespace Rows

/-- THE TIED CARD OF 'metrolablaw44.BonusChecks'. -/
def bonusChecksCard : Claim7 := { stood := { row := bonusChecksRow, standIns := [], harness := (true, "c634d93304382fbc4c916b5a234388290e8be506675b07ac8d1aa08cfd87b4ed"), looks := false }, kinds := [], alts := [], laidByText := true, laidKinds := [.data], laidTests := true, laidLooks := .later }
def BonusChecksCardSaid : Prop := Claim7.holds Tryd.pinned (.plain (OpenSpec.ofChange bonusChecksSpec)) bonusChecksCard

/-- THE TIED CARD OF 'metrolablaw44.BonusSizes'. -/
def bonusSizesCard : Claim7 := { stood := { row := bonusSizesRow, standIns := [], harness := (true, "c634d93304382fbc4c916b5a234388290e8be506675b07ac8d1aa08cfd87b4ed"), looks := false }, kinds := [], alts := [], laidByText := true, laidKinds := [.data], laidTests := true, laidLooks := .later }
def BonusSizesCardSaid : Prop := Claim7.holds Tryd.pinned (.plain (OpenSpec.ofChange bonusSizesSpec)) bonusSizesCard

/-- THE TIED CARD OF 'metrolablaw44.BonusMeets'. -/
def bonusMeetsCard : Claim7 := { stood := { row := bonusMeetsRow, standIns := [], harness := (true, "c634d93304382fbc4c916b5a234388290e8be506675b07ac8d1aa08cfd87b4ed"), looks := false }, kinds := [], alts := [], laidByText := true, laidKinds := [.data], laidTests := true, laidLooks := .later }
def BonusMeetsCardSaid : Prop := Claim7.holds Tryd.pinned (.plain (OpenSpec.ofChange bonusMeetsSpec)) bonusMeetsCard

/-- THE TIED CARD OF 'metrolablaw44.BonusGauges'. -/
def bonusGaugesCard : Claim7 := { stood := { row := bonusGaugesRow, standIns := [], harness := (true, "c634d93304382fbc4c916b5a234388290e8be506675b07ac8d1aa08cfd87b4ed"), looks := false }, kinds := [], alts := [], laidByText := true, laidKinds := [.data], laidTests := true, laidLooks := .later }
def BonusGaugesCardSaid : Prop := Claim7.holds Tryd.pinned (.plain (OpenSpec.ofChange bonusGaugesSpec)) bonusGaugesCard

/-- THE TIED CARD OF 'metrolablaw44.BonusGrows'. -/
def bonusGrowsCard : Claim7 := { stood := { row := bonusGrowsRow, standIns := [], harness := (true, "c634d93304382fbc4c916b5a234388290e8be506675b07ac8d1aa08cfd87b4ed"), looks := false }, kinds := [], alts := [], laidByText := true, laidKinds := [.data], laidTests := true, laidLooks := .later }
def BonusGrowsCardSaid : Prop := Claim7.holds Tryd.pinned (.plain (OpenSpec.ofChange bonusGrowsSpec)) bonusGrowsCard

/-- THE TIED CARD OF 'metrolablaw44.BonusBoxes'. -/
def bonusBoxesCard : Claim7 := { stood := { row := bonusBoxesRow, standIns := [], harness := (true, "c634d93304382fbc4c916b5a234388290e8be506675b07ac8d1aa08cfd87b4ed"), looks := false }, kinds := [], alts := [], laidByText := true, laidKinds := [.data], laidTests := true, laidLooks := .later }
def BonusBoxesCardSaid : Prop := Claim7.holds Tryd.pinned (.plain (OpenSpec.ofChange bonusBoxesSpec)) bonusBoxesCard

/-- THE TIED CARD OF 'metrolablaw44.BonusKeeps'. -/
def bonusKeepsCard : Claim7 := { stood := { row := bonusKeepsRow, standIns := [], harness := (true, "c634d93304382fbc4c916b5a234388290e8be506675b07ac8d1aa08cfd87b4ed"), looks := false }, kinds := [], alts := [], laidByText := true, laidKinds := [.data], laidTests := true, laidLooks := .later }
def BonusKeepsCardSaid : Prop := Claim7.holds Tryd.pinned (.plain (OpenSpec.ofChange bonusKeepsSpec)) bonusKeepsCard

/-- THE TIED CARD OF 'metrolablaw44.BonusPlates'. -/
def bonusPlatesCard : Claim7 := { stood := { row := bonusPlatesRow, standIns := [], harness := (true, "c634d93304382fbc4c916b5a234388290e8be506675b07ac8d1aa08cfd87b4ed"), looks := false }, kinds := [], alts := [], laidByText := true, laidKinds := [.data], laidTests := true, laidLooks := .later }
def BonusPlatesCardSaid : Prop := Claim7.holds Tryd.pinned (.plain (OpenSpec.ofChange bonusPlatesSpec)) bonusPlatesCard

/-- THE SECOND FORM's CARD OF 'metrolablaw44.BonusChecks'. -/
def bonusChecksUptoCard : Claim7 := { stood := { row := bonusChecksUptoRow, standIns := [], harness := (true, "c634d93304382fbc4c916b5a234388290e8be506675b07ac8d1aa08cfd87b4ed"), looks := false }, kinds := [], alts := [], laidByText := true, laidKinds := [.data], laidTests := true, laidLooks := .later }
def BonusChecksUptoCardSaid : Prop := Claim7.holds Tryd.pinned (.plain (OpenSpec.upto bonusChecksSpec)) bonusChecksUptoCard

/-- THE SECOND FORM's CARD OF 'metrolablaw44.BonusSizes'. -/
def bonusSizesUptoCard : Claim7 := { stood := { row := bonusSizesUptoRow, standIns := [], harness := (true, "c634d93304382fbc4c916b5a234388290e8be506675b07ac8d1aa08cfd87b4ed"), looks := false }, kinds := [], alts := [], laidByText := true, laidKinds := [.data], laidTests := true, laidLooks := .later }
def BonusSizesUptoCardSaid : Prop := Claim7.holds Tryd.pinned (.plain (OpenSpec.upto bonusSizesSpec)) bonusSizesUptoCard

/-- THE SECOND FORM's CARD OF 'metrolablaw44.BonusMeets'. -/
def bonusMeetsUptoCard : Claim7 := { stood := { row := bonusMeetsUptoRow, standIns := [], harness := (true, "c634d93304382fbc4c916b5a234388290e8be506675b07ac8d1aa08cfd87b4ed"), looks := false }, kinds := [], alts := [], laidByText := true, laidKinds := [.data], laidTests := true, laidLooks := .later }
def BonusMeetsUptoCardSaid : Prop := Claim7.holds Tryd.pinned (.plain (OpenSpec.upto bonusMeetsSpec)) bonusMeetsUptoCard

/-- THE SECOND FORM's CARD OF 'metrolablaw44.BonusGauges'. -/
def bonusGaugesUptoCard : Claim7 := { stood := { row := bonusGaugesUptoRow, standIns := [], harness := (true, "c634d93304382fbc4c916b5a234388290e8be506675b07ac8d1aa08cfd87b4ed"), looks := false }, kinds := [], alts := [], laidByText := true, laidKinds := [.data], laidTests := true, laidLooks := .later }
def BonusGaugesUptoCardSaid : Prop := Claim7.holds Tryd.pinned (.plain (OpenSpec.upto bonusGaugesSpec)) bonusGaugesUptoCard

/-- THE SECOND FORM's CARD OF 'metrolablaw44.BonusGrows'. -/
def bonusGrowsUptoCard : Claim7 := { stood := { row := bonusGrowsUptoRow, standIns := [], harness := (true, "c634d93304382fbc4c916b5a234388290e8be506675b07ac8d1aa08cfd87b4ed"), looks := false }, kinds := [], alts := [], laidByText := true, laidKinds := [.data], laidTests := true, laidLooks := .later }
def BonusGrowsUptoCardSaid : Prop := Claim7.holds Tryd.pinned (.plain (OpenSpec.upto bonusGrowsSpec)) bonusGrowsUptoCard

/-- THE SECOND FORM's CARD OF 'metrolablaw44.BonusBoxes'. -/
def bonusBoxesUptoCard : Claim7 := { stood := { row := bonusBoxesUptoRow, standIns := [], harness := (true, "c634d93304382fbc4c916b5a234388290e8be506675b07ac8d1aa08cfd87b4ed"), looks := false }, kinds := [], alts := [], laidByText := true, laidKinds := [.data], laidTests := true, laidLooks := .later }
def BonusBoxesUptoCardSaid : Prop := Claim7.holds Tryd.pinned (.plain (OpenSpec.upto bonusBoxesSpec)) bonusBoxesUptoCard

/-- THE SECOND FORM's CARD OF 'metrolablaw44.BonusKeeps'. -/
def bonusKeepsUptoCard : Claim7 := { stood := { row := bonusKeepsUptoRow, standIns := [], harness := (true, "c634d93304382fbc4c916b5a234388290e8be506675b07ac8d1aa08cfd87b4ed"), looks := false }, kinds := [], alts := [], laidByText := true, laidKinds := [.data], laidTests := true, laidLooks := .later }
def BonusKeepsUptoCardSaid : Prop := Claim7.holds Tryd.pinned (.plain (OpenSpec.upto bonusKeepsSpec)) bonusKeepsUptoCard

/-- THE SECOND FORM's CARD OF 'metrolablaw44.BonusPlates'. -/
def bonusPlatesUptoCard : Claim7 := { stood := { row := bonusPlatesUptoRow, standIns := [], harness := (true, "c634d93304382fbc4c916b5a234388290e8be506675b07ac8d1aa08cfd87b4ed"), looks := false }, kinds := [], alts := [], laidByText := true, laidKinds := [.data], laidTests := true, laidLooks := .later }
def BonusPlatesUptoCardSaid : Prop := Claim7.holds Tryd.pinned (.plain (OpenSpec.upto bonusPlatesSpec)) bonusPlatesUptoCard
end Rows
end Go.Proofs.YtoemfkkeojmgkaaDoor
