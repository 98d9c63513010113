/-
  DERIVED. GIVEN WITH THE SEED: THE CARDS: each row of YtbhplepbccgecaaDoorRows.lean that lists a variable, with what it lists TIED to the program's text (the seventh form; the later family's looks); each row that meets fmt, with fmt's text TOLD by the authors' own Lean function (tested against real Go, not proved from fmt's source: count such statements apart). THE CARD IS WHAT COUNTS. Prove the row's statement (the work); the ties are given (YtbhplepbccgecaaDoorTie.lean); close each card by the builder's one call (the guide's Derived/Test/ToyasCard.lean, 'card_holds'). Laid BY PROGRAM, IN A SANDBOX (cutbox-door.mjs). By AI agents, Wed Nov 11 2026. No macro, syntax, notation, axiom, sorry.
-/
import Derived.Test.YtbhplepbccgecaaDoorRows
import GoSem.ClaimSeven
namespace Go.Proofs.YtbhplepbccgecaaDoor
namespace Rows

/-- THE TIED CARD OF 'hourglasslaw03.ShaTells'. -/
def shaTellsCard : Claim7 := { stood := { row := shaTellsRow, standIns := [], harness := (true, "4f8cbac1b352a3d7b14ca6c01017bc1b1d9563ed7c573d553680dae7bffcd611"), looks := false }, kinds := [], alts := [], laidByText := true, laidKinds := [.data, .data], laidTests := true, laidLooks := .later }
def ShaTellsCardSaid : Prop := Claim7.holds Tryd.pinned (.plain (OpenSpec.ofChange shaTellsSpec)) shaTellsCard

/-- THE TIED CARD OF 'hourglasslaw03.ShaStreams'. -/
def shaStreamsCard : Claim7 := { stood := { row := shaStreamsRow, standIns := [], harness := (true, "4f8cbac1b352a3d7b14ca6c01017bc1b1d9563ed7c573d553680dae7bffcd611"), looks := false }, kinds := [], alts := [], laidByText := true, laidKinds := [.data, .data], laidTests := true, laidLooks := .later }
def ShaStreamsCardSaid : Prop := Claim7.holds Tryd.pinned (.plain (OpenSpec.ofChange shaStreamsSpec)) shaStreamsCard

/-- THE TIED CARD OF 'hourglasslaw03.ShaParts'. -/
def shaPartsCard : Claim7 := { stood := { row := shaPartsRow, standIns := [], harness := (true, "4f8cbac1b352a3d7b14ca6c01017bc1b1d9563ed7c573d553680dae7bffcd611"), looks := false }, kinds := [], alts := [], laidByText := true, laidKinds := [.data, .data], laidTests := true, laidLooks := .later }
def ShaPartsCardSaid : Prop := Claim7.holds Tryd.pinned (.plain (OpenSpec.ofChange shaPartsSpec)) shaPartsCard

/-- THE TIED CARD OF 'hourglasslaw03.ShaEdges'. -/
def shaEdgesCard : Claim7 := { stood := { row := shaEdgesRow, standIns := [], harness := (true, "4f8cbac1b352a3d7b14ca6c01017bc1b1d9563ed7c573d553680dae7bffcd611"), looks := false }, kinds := [], alts := [], laidByText := true, laidKinds := [.data, .data], laidTests := true, laidLooks := .later }
def ShaEdgesCardSaid : Prop := Claim7.holds Tryd.pinned (.plain (OpenSpec.ofChange shaEdgesSpec)) shaEdgesCard

/-- THE TIED CARD OF 'hourglasslaw03.ShaRoots'. -/
def shaRootsCard : Claim7 := { stood := { row := shaRootsRow, standIns := [], harness := (true, "4f8cbac1b352a3d7b14ca6c01017bc1b1d9563ed7c573d553680dae7bffcd611"), looks := false }, kinds := [], alts := [], laidByText := true, laidKinds := [.data, .data], laidTests := true, laidLooks := .later }
def ShaRootsCardSaid : Prop := Claim7.holds Tryd.pinned (.plain (OpenSpec.ofChange shaRootsSpec)) shaRootsCard

/-- THE TIED CARD OF 'hourglasslaw03.ShaForks'. -/
def shaForksCard : Claim7 := { stood := { row := shaForksRow, standIns := [], harness := (true, "4f8cbac1b352a3d7b14ca6c01017bc1b1d9563ed7c573d553680dae7bffcd611"), looks := false }, kinds := [], alts := [], laidByText := true, laidKinds := [.data, .data], laidTests := true, laidLooks := .later }
def ShaForksCardSaid : Prop := Claim7.holds Tryd.pinned (.plain (OpenSpec.ofChange shaForksSpec)) shaForksCard

/-- THE TIED CARD OF 'hourglasslaw03.ShaNone'. -/
def shaNoneCard : Claim7 := { stood := { row := shaNoneRow, standIns := [], harness := (true, "4f8cbac1b352a3d7b14ca6c01017bc1b1d9563ed7c573d553680dae7bffcd611"), looks := false }, kinds := [], alts := [], laidByText := true, laidKinds := [.data, .data], laidTests := true, laidLooks := .later }
def ShaNoneCardSaid : Prop := Claim7.holds Tryd.pinned (.plain (OpenSpec.ofChange shaNoneSpec)) shaNoneCard

/-- THE TIED CARD OF 'hourglasslaw03.ShaMany'. -/
def shaManyCard : Claim7 := { stood := { row := shaManyRow, standIns := [], harness := (true, "4f8cbac1b352a3d7b14ca6c01017bc1b1d9563ed7c573d553680dae7bffcd611"), looks := false }, kinds := [], alts := [], laidByText := true, laidKinds := [.data, .data], laidTests := true, laidLooks := .later }
def ShaManyCardSaid : Prop := Claim7.holds Tryd.pinned (.plain (OpenSpec.ofChange shaManySpec)) shaManyCard

/-- THE SECOND FORM's CARD OF 'hourglasslaw03.ShaTells'. -/
def shaTellsUptoCard : Claim7 := { stood := { row := shaTellsUptoRow, standIns := [], harness := (true, "4f8cbac1b352a3d7b14ca6c01017bc1b1d9563ed7c573d553680dae7bffcd611"), looks := false }, kinds := [], alts := [], laidByText := true, laidKinds := [.data, .data], laidTests := true, laidLooks := .later }
def ShaTellsUptoCardSaid : Prop := Claim7.holds Tryd.pinned (.plain (OpenSpec.upto shaTellsSpec)) shaTellsUptoCard

/-- THE SECOND FORM's CARD OF 'hourglasslaw03.ShaStreams'. -/
def shaStreamsUptoCard : Claim7 := { stood := { row := shaStreamsUptoRow, standIns := [], harness := (true, "4f8cbac1b352a3d7b14ca6c01017bc1b1d9563ed7c573d553680dae7bffcd611"), looks := false }, kinds := [], alts := [], laidByText := true, laidKinds := [.data, .data], laidTests := true, laidLooks := .later }
def ShaStreamsUptoCardSaid : Prop := Claim7.holds Tryd.pinned (.plain (OpenSpec.upto shaStreamsSpec)) shaStreamsUptoCard

/-- THE SECOND FORM's CARD OF 'hourglasslaw03.ShaParts'. -/
def shaPartsUptoCard : Claim7 := { stood := { row := shaPartsUptoRow, standIns := [], harness := (true, "4f8cbac1b352a3d7b14ca6c01017bc1b1d9563ed7c573d553680dae7bffcd611"), looks := false }, kinds := [], alts := [], laidByText := true, laidKinds := [.data, .data], laidTests := true, laidLooks := .later }
def ShaPartsUptoCardSaid : Prop := Claim7.holds Tryd.pinned (.plain (OpenSpec.upto shaPartsSpec)) shaPartsUptoCard

/-- THE SECOND FORM's CARD OF 'hourglasslaw03.ShaEdges'. -/
def shaEdgesUptoCard : Claim7 := { stood := { row := shaEdgesUptoRow, standIns := [], harness := (true, "4f8cbac1b352a3d7b14ca6c01017bc1b1d9563ed7c573d553680dae7bffcd611"), looks := false }, kinds := [], alts := [], laidByText := true, laidKinds := [.data, .data], laidTests := true, laidLooks := .later }
def ShaEdgesUptoCardSaid : Prop := Claim7.holds Tryd.pinned (.plain (OpenSpec.upto shaEdgesSpec)) shaEdgesUptoCard

/-- THE SECOND FORM's CARD OF 'hourglasslaw03.ShaRoots'. -/
def shaRootsUptoCard : Claim7 := { stood := { row := shaRootsUptoRow, standIns := [], harness := (true, "4f8cbac1b352a3d7b14ca6c01017bc1b1d9563ed7c573d553680dae7bffcd611"), looks := false }, kinds := [], alts := [], laidByText := true, laidKinds := [.data, .data], laidTests := true, laidLooks := .later }
def ShaRootsUptoCardSaid : Prop := Claim7.holds Tryd.pinned (.plain (OpenSpec.upto shaRootsSpec)) shaRootsUptoCard

/-- THE SECOND FORM's CARD OF 'hourglasslaw03.ShaForks'. -/
def shaForksUptoCard : Claim7 := { stood := { row := shaForksUptoRow, standIns := [], harness := (true, "4f8cbac1b352a3d7b14ca6c01017bc1b1d9563ed7c573d553680dae7bffcd611"), looks := false }, kinds := [], alts := [], laidByText := true, laidKinds := [.data, .data], laidTests := true, laidLooks := .later }
def ShaForksUptoCardSaid : Prop := Claim7.holds Tryd.pinned (.plain (OpenSpec.upto shaForksSpec)) shaForksUptoCard

/-- THE SECOND FORM's CARD OF 'hourglasslaw03.ShaNone'. -/
def shaNoneUptoCard : Claim7 := { stood := { row := shaNoneUptoRow, standIns := [], harness := (true, "4f8cbac1b352a3d7b14ca6c01017bc1b1d9563ed7c573d553680dae7bffcd611"), looks := false }, kinds := [], alts := [], laidByText := true, laidKinds := [.data, .data], laidTests := true, laidLooks := .later }
def ShaNoneUptoCardSaid : Prop := Claim7.holds Tryd.pinned (.plain (OpenSpec.upto shaNoneSpec)) shaNoneUptoCard

/-- THE SECOND FORM's CARD OF 'hourglasslaw03.ShaMany'. -/
def shaManyUptoCard : Claim7 := { stood := { row := shaManyUptoRow, standIns := [], harness := (true, "4f8cbac1b352a3d7b14ca6c01017bc1b1d9563ed7c573d553680dae7bffcd611"), looks := false }, kinds := [], alts := [], laidByText := true, laidKinds := [.data, .data], laidTests := true, laidLooks := .later }
def ShaManyUptoCardSaid : Prop := Claim7.holds Tryd.pinned (.plain (OpenSpec.upto shaManySpec)) shaManyUptoCard
end Rows
end Go.Proofs.YtbhplepbccgecaaDoor
