/-
  DERIVED. GIVEN WITH THE SEED: THE CARDS: each row of YtgbaijmpfdhoeaaDoorRows.lean that lists a variable, with what it lists TIED to the program's text (the seventh form; the later family's looks); each row that meets fmt, with fmt's text TOLD by the authors' own Lean function (tested against real Go, not proved from fmt's source: count such statements apart). THE CARD IS WHAT COUNTS. Prove the row's statement (the work); the ties are given (YtgbaijmpfdhoeaaDoorTie.lean); close each card by the builder's one call (the guide's Derived/Test/ToyasCard.lean, 'card_holds'). Laid BY PROGRAM, IN A SANDBOX (cutbox-door.mjs). By AI agents, Wed Nov 11 2026. No macro, syntax, notation, axiom, sorry.
-/
import Derived.Test.YtgbaijmpfdhoeaaDoorRows
import GoSem.ClaimSeven
namespace Go.Proofs.YtgbaijmpfdhoeaaDoor
namespace Rows

/-- THE TIED CARD OF 'hourglasslaw04.HmacSame'. -/
def hmacSameCard : Claim7 := { stood := { row := hmacSameRow, standIns := [], harness := (true, "44849d3dad63bf80032334367259cbe16be429ceb893fdcb2ded077f1541c220"), looks := false }, kinds := [], alts := [], laidByText := true, laidKinds := [.data, .data], laidTests := true, laidLooks := .later }
def HmacSameCardSaid : Prop := Claim7.holds Tryd.pinned (.plain (OpenSpec.ofChange hmacSameSpec)) hmacSameCard

/-- THE TIED CARD OF 'hourglasslaw04.HmacRecipe'. -/
def hmacRecipeCard : Claim7 := { stood := { row := hmacRecipeRow, standIns := [], harness := (true, "44849d3dad63bf80032334367259cbe16be429ceb893fdcb2ded077f1541c220"), looks := false }, kinds := [], alts := [], laidByText := true, laidKinds := [.data, .data], laidTests := true, laidLooks := .later }
def HmacRecipeCardSaid : Prop := Claim7.holds Tryd.pinned (.plain (OpenSpec.ofChange hmacRecipeSpec)) hmacRecipeCard

/-- THE TIED CARD OF 'hourglasslaw04.HmacTells'. -/
def hmacTellsCard : Claim7 := { stood := { row := hmacTellsRow, standIns := [], harness := (true, "44849d3dad63bf80032334367259cbe16be429ceb893fdcb2ded077f1541c220"), looks := false }, kinds := [], alts := [], laidByText := true, laidKinds := [.data, .data], laidTests := true, laidLooks := .later }
def HmacTellsCardSaid : Prop := Claim7.holds Tryd.pinned (.plain (OpenSpec.ofChange hmacTellsSpec)) hmacTellsCard

/-- THE TIED CARD OF 'hourglasslaw04.HmacParts'. -/
def hmacPartsCard : Claim7 := { stood := { row := hmacPartsRow, standIns := [], harness := (true, "44849d3dad63bf80032334367259cbe16be429ceb893fdcb2ded077f1541c220"), looks := false }, kinds := [], alts := [], laidByText := true, laidKinds := [.data, .data], laidTests := true, laidLooks := .later }
def HmacPartsCardSaid : Prop := Claim7.holds Tryd.pinned (.plain (OpenSpec.ofChange hmacPartsSpec)) hmacPartsCard

/-- THE TIED CARD OF 'hourglasslaw04.HmacDerives'. -/
def hmacDerivesCard : Claim7 := { stood := { row := hmacDerivesRow, standIns := [], harness := (true, "44849d3dad63bf80032334367259cbe16be429ceb893fdcb2ded077f1541c220"), looks := false }, kinds := [], alts := [], laidByText := true, laidKinds := [.data, .data], laidTests := true, laidLooks := .later }
def HmacDerivesCardSaid : Prop := Claim7.holds Tryd.pinned (.plain (OpenSpec.ofChange hmacDerivesSpec)) hmacDerivesCard

/-- THE TIED CARD OF 'hourglasslaw04.HmacLabels'. -/
def hmacLabelsCard : Claim7 := { stood := { row := hmacLabelsRow, standIns := [], harness := (true, "44849d3dad63bf80032334367259cbe16be429ceb893fdcb2ded077f1541c220"), looks := false }, kinds := [], alts := [], laidByText := true, laidKinds := [.data, .data], laidTests := true, laidLooks := .later }
def HmacLabelsCardSaid : Prop := Claim7.holds Tryd.pinned (.plain (OpenSpec.ofChange hmacLabelsSpec)) hmacLabelsCard

/-- THE TIED CARD OF 'hourglasslaw04.HmacAgain'. -/
def hmacAgainCard : Claim7 := { stood := { row := hmacAgainRow, standIns := [], harness := (true, "44849d3dad63bf80032334367259cbe16be429ceb893fdcb2ded077f1541c220"), looks := false }, kinds := [], alts := [], laidByText := true, laidKinds := [.data, .data], laidTests := true, laidLooks := .later }
def HmacAgainCardSaid : Prop := Claim7.holds Tryd.pinned (.plain (OpenSpec.ofChange hmacAgainSpec)) hmacAgainCard

/-- THE TIED CARD OF 'hourglasslaw04.HmacChain'. -/
def hmacChainCard : Claim7 := { stood := { row := hmacChainRow, standIns := [], harness := (true, "44849d3dad63bf80032334367259cbe16be429ceb893fdcb2ded077f1541c220"), looks := false }, kinds := [], alts := [], laidByText := true, laidKinds := [.data, .data], laidTests := true, laidLooks := .later }
def HmacChainCardSaid : Prop := Claim7.holds Tryd.pinned (.plain (OpenSpec.ofChange hmacChainSpec)) hmacChainCard

/-- THE SECOND FORM's CARD OF 'hourglasslaw04.HmacSame'. -/
def hmacSameUptoCard : Claim7 := { stood := { row := hmacSameUptoRow, standIns := [], harness := (true, "44849d3dad63bf80032334367259cbe16be429ceb893fdcb2ded077f1541c220"), looks := false }, kinds := [], alts := [], laidByText := true, laidKinds := [.data, .data], laidTests := true, laidLooks := .later }
def HmacSameUptoCardSaid : Prop := Claim7.holds Tryd.pinned (.plain (OpenSpec.upto hmacSameSpec)) hmacSameUptoCard

/-- THE SECOND FORM's CARD OF 'hourglasslaw04.HmacRecipe'. -/
def hmacRecipeUptoCard : Claim7 := { stood := { row := hmacRecipeUptoRow, standIns := [], harness := (true, "44849d3dad63bf80032334367259cbe16be429ceb893fdcb2ded077f1541c220"), looks := false }, kinds := [], alts := [], laidByText := true, laidKinds := [.data, .data], laidTests := true, laidLooks := .later }
def HmacRecipeUptoCardSaid : Prop := Claim7.holds Tryd.pinned (.plain (OpenSpec.upto hmacRecipeSpec)) hmacRecipeUptoCard

/-- THE SECOND FORM's CARD OF 'hourglasslaw04.HmacTells'. -/
def hmacTellsUptoCard : Claim7 := { stood := { row := hmacTellsUptoRow, standIns := [], harness := (true, "44849d3dad63bf80032334367259cbe16be429ceb893fdcb2ded077f1541c220"), looks := false }, kinds := [], alts := [], laidByText := true, laidKinds := [.data, .data], laidTests := true, laidLooks := .later }
def HmacTellsUptoCardSaid : Prop := Claim7.holds Tryd.pinned (.plain (OpenSpec.upto hmacTellsSpec)) hmacTellsUptoCard

/-- THE SECOND FORM's CARD OF 'hourglasslaw04.HmacParts'. -/
def hmacPartsUptoCard : Claim7 := { stood := { row := hmacPartsUptoRow, standIns := [], harness := (true, "44849d3dad63bf80032334367259cbe16be429ceb893fdcb2ded077f1541c220"), looks := false }, kinds := [], alts := [], laidByText := true, laidKinds := [.data, .data], laidTests := true, laidLooks := .later }
def HmacPartsUptoCardSaid : Prop := Claim7.holds Tryd.pinned (.plain (OpenSpec.upto hmacPartsSpec)) hmacPartsUptoCard

/-- THE SECOND FORM's CARD OF 'hourglasslaw04.HmacDerives'. -/
def hmacDerivesUptoCard : Claim7 := { stood := { row := hmacDerivesUptoRow, standIns := [], harness := (true, "44849d3dad63bf80032334367259cbe16be429ceb893fdcb2ded077f1541c220"), looks := false }, kinds := [], alts := [], laidByText := true, laidKinds := [.data, .data], laidTests := true, laidLooks := .later }
def HmacDerivesUptoCardSaid : Prop := Claim7.holds Tryd.pinned (.plain (OpenSpec.upto hmacDerivesSpec)) hmacDerivesUptoCard

/-- THE SECOND FORM's CARD OF 'hourglasslaw04.HmacLabels'. -/
def hmacLabelsUptoCard : Claim7 := { stood := { row := hmacLabelsUptoRow, standIns := [], harness := (true, "44849d3dad63bf80032334367259cbe16be429ceb893fdcb2ded077f1541c220"), looks := false }, kinds := [], alts := [], laidByText := true, laidKinds := [.data, .data], laidTests := true, laidLooks := .later }
def HmacLabelsUptoCardSaid : Prop := Claim7.holds Tryd.pinned (.plain (OpenSpec.upto hmacLabelsSpec)) hmacLabelsUptoCard

/-- THE SECOND FORM's CARD OF 'hourglasslaw04.HmacAgain'. -/
def hmacAgainUptoCard : Claim7 := { stood := { row := hmacAgainUptoRow, standIns := [], harness := (true, "44849d3dad63bf80032334367259cbe16be429ceb893fdcb2ded077f1541c220"), looks := false }, kinds := [], alts := [], laidByText := true, laidKinds := [.data, .data], laidTests := true, laidLooks := .later }
def HmacAgainUptoCardSaid : Prop := Claim7.holds Tryd.pinned (.plain (OpenSpec.upto hmacAgainSpec)) hmacAgainUptoCard

/-- THE SECOND FORM's CARD OF 'hourglasslaw04.HmacChain'. -/
def hmacChainUptoCard : Claim7 := { stood := { row := hmacChainUptoRow, standIns := [], harness := (true, "44849d3dad63bf80032334367259cbe16be429ceb893fdcb2ded077f1541c220"), looks := false }, kinds := [], alts := [], laidByText := true, laidKinds := [.data, .data], laidTests := true, laidLooks := .later }
def HmacChainUptoCardSaid : Prop := Claim7.holds Tryd.pinned (.plain (OpenSpec.upto hmacChainSpec)) hmacChainUptoCard
end Rows
end Go.Proofs.YtgbaijmpfdhoeaaDoor
