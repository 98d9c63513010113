/-
  DERIVED. GIVEN WITH THE SEED: THE CARDS: each row of YtnmpfbffacljfaaDoorRows.lean that lists a variable, with what it lists TIED to the program's text (the seventh form; the later family's looks); each row that meets fmt, with fmt's text TOLD by the authors' own Lean function (tested against real Go, not proved from fmt's source: count such statements apart). THE CARD IS WHAT COUNTS. Prove the row's statement (the work); the ties are given (YtnmpfbffacljfaaDoorTie.lean); close each card by the builder's one call (the guide's Derived/Test/ToyasCard.lean, 'card_holds'). Laid BY PROGRAM, IN A SANDBOX (cutbox-door.mjs). By AI agents, Wed Nov 11 2026. No macro, syntax, notation, axiom, sorry.
-/
import Derived.Test.YtnmpfbffacljfaaDoorRows
import GoSem.ClaimSeven
namespace Go.Proofs.YtnmpfbffacljfaaDoor
namespace Rows

/-- THE TIED CARD OF 'hourglasslaw09.DirectPlays'. -/
def directPlaysCard : Claim7 := { stood := { row := directPlaysRow, standIns := [], harness := (true, "9c8adb4cc36749e25e100dc2334203dc387ae95b55a7bdd06fcb507f71e58a1e"), looks := false }, kinds := [], alts := [], laidByText := true, laidKinds := [.data, .data], laidTests := true, laidLooks := .later }
def DirectPlaysCardSaid : Prop := Claim7.holds Tryd.pinned (.plain (OpenSpec.ofChange directPlaysSpec)) directPlaysCard

/-- THE TIED CARD OF 'hourglasslaw09.DirectLoads'. -/
def directLoadsCard : Claim7 := { stood := { row := directLoadsRow, standIns := [], harness := (true, "9c8adb4cc36749e25e100dc2334203dc387ae95b55a7bdd06fcb507f71e58a1e"), looks := false }, kinds := [], alts := [], laidByText := true, laidKinds := [.data, .data], laidTests := true, laidLooks := .later }
def DirectLoadsCardSaid : Prop := Claim7.holds Tryd.pinned (.plain (OpenSpec.ofChange directLoadsSpec)) directLoadsCard

/-- THE TIED CARD OF 'hourglasslaw09.DirectOnce'. -/
def directOnceCard : Claim7 := { stood := { row := directOnceRow, standIns := [], harness := (true, "9c8adb4cc36749e25e100dc2334203dc387ae95b55a7bdd06fcb507f71e58a1e"), looks := false }, kinds := [], alts := [], laidByText := true, laidKinds := [.data, .data], laidTests := true, laidLooks := .later }
def DirectOnceCardSaid : Prop := Claim7.holds Tryd.pinned (.plain (OpenSpec.ofChange directOnceSpec)) directOnceCard

/-- THE TIED CARD OF 'hourglasslaw09.DirectOrder'. -/
def directOrderCard : Claim7 := { stood := { row := directOrderRow, standIns := [], harness := (true, "9c8adb4cc36749e25e100dc2334203dc387ae95b55a7bdd06fcb507f71e58a1e"), looks := false }, kinds := [], alts := [], laidByText := true, laidKinds := [.data, .data], laidTests := true, laidLooks := .later }
def DirectOrderCardSaid : Prop := Claim7.holds Tryd.pinned (.plain (OpenSpec.ofChange directOrderSpec)) directOrderCard

/-- THE TIED CARD OF 'hourglasslaw09.DirectSpan'. -/
def directSpanCard : Claim7 := { stood := { row := directSpanRow, standIns := [], harness := (true, "9c8adb4cc36749e25e100dc2334203dc387ae95b55a7bdd06fcb507f71e58a1e"), looks := false }, kinds := [], alts := [], laidByText := true, laidKinds := [.data, .data], laidTests := true, laidLooks := .later }
def DirectSpanCardSaid : Prop := Claim7.holds Tryd.pinned (.plain (OpenSpec.ofChange directSpanSpec)) directSpanCard

/-- THE TIED CARD OF 'hourglasslaw09.DirectApart'. -/
def directApartCard : Claim7 := { stood := { row := directApartRow, standIns := [], harness := (true, "9c8adb4cc36749e25e100dc2334203dc387ae95b55a7bdd06fcb507f71e58a1e"), looks := false }, kinds := [], alts := [], laidByText := true, laidKinds := [.data, .data], laidTests := true, laidLooks := .later }
def DirectApartCardSaid : Prop := Claim7.holds Tryd.pinned (.plain (OpenSpec.ofChange directApartSpec)) directApartCard

/-- THE TIED CARD OF 'hourglasslaw09.DirectFull'. -/
def directFullCard : Claim7 := { stood := { row := directFullRow, standIns := [], harness := (true, "9c8adb4cc36749e25e100dc2334203dc387ae95b55a7bdd06fcb507f71e58a1e"), looks := false }, kinds := [], alts := [], laidByText := true, laidKinds := [.data, .data], laidTests := true, laidLooks := .later }
def DirectFullCardSaid : Prop := Claim7.holds Tryd.pinned (.plain (OpenSpec.ofChange directFullSpec)) directFullCard

/-- THE TIED CARD OF 'hourglasslaw09.DirectOwn'. -/
def directOwnCard : Claim7 := { stood := { row := directOwnRow, standIns := [], harness := (true, "9c8adb4cc36749e25e100dc2334203dc387ae95b55a7bdd06fcb507f71e58a1e"), looks := false }, kinds := [], alts := [], laidByText := true, laidKinds := [.data, .data], laidTests := true, laidLooks := .later }
def DirectOwnCardSaid : Prop := Claim7.holds Tryd.pinned (.plain (OpenSpec.ofChange directOwnSpec)) directOwnCard

/-- THE TIED CARD OF 'hourglasslaw09.DirectRow'. -/
def directRowCard : Claim7 := { stood := { row := directRowRow, standIns := [], harness := (true, "9c8adb4cc36749e25e100dc2334203dc387ae95b55a7bdd06fcb507f71e58a1e"), looks := false }, kinds := [], alts := [], laidByText := true, laidKinds := [.data, .data], laidTests := true, laidLooks := .later }
def DirectRowCardSaid : Prop := Claim7.holds Tryd.pinned (.plain (OpenSpec.ofChange directRowSpec)) directRowCard

/-- THE TIED CARD OF 'hourglasslaw09.DirectLoaded'. -/
def directLoadedCard : Claim7 := { stood := { row := directLoadedRow, standIns := [], harness := (true, "9c8adb4cc36749e25e100dc2334203dc387ae95b55a7bdd06fcb507f71e58a1e"), looks := false }, kinds := [], alts := [], laidByText := true, laidKinds := [.data, .data], laidTests := true, laidLooks := .later }
def DirectLoadedCardSaid : Prop := Claim7.holds Tryd.pinned (.plain (OpenSpec.ofChange directLoadedSpec)) directLoadedCard

/-- THE SECOND FORM's CARD OF 'hourglasslaw09.DirectPlays'. -/
def directPlaysUptoCard : Claim7 := { stood := { row := directPlaysUptoRow, standIns := [], harness := (true, "9c8adb4cc36749e25e100dc2334203dc387ae95b55a7bdd06fcb507f71e58a1e"), looks := false }, kinds := [], alts := [], laidByText := true, laidKinds := [.data, .data], laidTests := true, laidLooks := .later }
def DirectPlaysUptoCardSaid : Prop := Claim7.holds Tryd.pinned (.plain (OpenSpec.upto directPlaysSpec)) directPlaysUptoCard

/-- THE SECOND FORM's CARD OF 'hourglasslaw09.DirectLoads'. -/
def directLoadsUptoCard : Claim7 := { stood := { row := directLoadsUptoRow, standIns := [], harness := (true, "9c8adb4cc36749e25e100dc2334203dc387ae95b55a7bdd06fcb507f71e58a1e"), looks := false }, kinds := [], alts := [], laidByText := true, laidKinds := [.data, .data], laidTests := true, laidLooks := .later }
def DirectLoadsUptoCardSaid : Prop := Claim7.holds Tryd.pinned (.plain (OpenSpec.upto directLoadsSpec)) directLoadsUptoCard

/-- THE SECOND FORM's CARD OF 'hourglasslaw09.DirectOnce'. -/
def directOnceUptoCard : Claim7 := { stood := { row := directOnceUptoRow, standIns := [], harness := (true, "9c8adb4cc36749e25e100dc2334203dc387ae95b55a7bdd06fcb507f71e58a1e"), looks := false }, kinds := [], alts := [], laidByText := true, laidKinds := [.data, .data], laidTests := true, laidLooks := .later }
def DirectOnceUptoCardSaid : Prop := Claim7.holds Tryd.pinned (.plain (OpenSpec.upto directOnceSpec)) directOnceUptoCard

/-- THE SECOND FORM's CARD OF 'hourglasslaw09.DirectOrder'. -/
def directOrderUptoCard : Claim7 := { stood := { row := directOrderUptoRow, standIns := [], harness := (true, "9c8adb4cc36749e25e100dc2334203dc387ae95b55a7bdd06fcb507f71e58a1e"), looks := false }, kinds := [], alts := [], laidByText := true, laidKinds := [.data, .data], laidTests := true, laidLooks := .later }
def DirectOrderUptoCardSaid : Prop := Claim7.holds Tryd.pinned (.plain (OpenSpec.upto directOrderSpec)) directOrderUptoCard

/-- THE SECOND FORM's CARD OF 'hourglasslaw09.DirectSpan'. -/
def directSpanUptoCard : Claim7 := { stood := { row := directSpanUptoRow, standIns := [], harness := (true, "9c8adb4cc36749e25e100dc2334203dc387ae95b55a7bdd06fcb507f71e58a1e"), looks := false }, kinds := [], alts := [], laidByText := true, laidKinds := [.data, .data], laidTests := true, laidLooks := .later }
def DirectSpanUptoCardSaid : Prop := Claim7.holds Tryd.pinned (.plain (OpenSpec.upto directSpanSpec)) directSpanUptoCard

/-- THE SECOND FORM's CARD OF 'hourglasslaw09.DirectApart'. -/
def directApartUptoCard : Claim7 := { stood := { row := directApartUptoRow, standIns := [], harness := (true, "9c8adb4cc36749e25e100dc2334203dc387ae95b55a7bdd06fcb507f71e58a1e"), looks := false }, kinds := [], alts := [], laidByText := true, laidKinds := [.data, .data], laidTests := true, laidLooks := .later }
def DirectApartUptoCardSaid : Prop := Claim7.holds Tryd.pinned (.plain (OpenSpec.upto directApartSpec)) directApartUptoCard

/-- THE SECOND FORM's CARD OF 'hourglasslaw09.DirectFull'. -/
def directFullUptoCard : Claim7 := { stood := { row := directFullUptoRow, standIns := [], harness := (true, "9c8adb4cc36749e25e100dc2334203dc387ae95b55a7bdd06fcb507f71e58a1e"), looks := false }, kinds := [], alts := [], laidByText := true, laidKinds := [.data, .data], laidTests := true, laidLooks := .later }
def DirectFullUptoCardSaid : Prop := Claim7.holds Tryd.pinned (.plain (OpenSpec.upto directFullSpec)) directFullUptoCard

/-- THE SECOND FORM's CARD OF 'hourglasslaw09.DirectOwn'. -/
def directOwnUptoCard : Claim7 := { stood := { row := directOwnUptoRow, standIns := [], harness := (true, "9c8adb4cc36749e25e100dc2334203dc387ae95b55a7bdd06fcb507f71e58a1e"), looks := false }, kinds := [], alts := [], laidByText := true, laidKinds := [.data, .data], laidTests := true, laidLooks := .later }
def DirectOwnUptoCardSaid : Prop := Claim7.holds Tryd.pinned (.plain (OpenSpec.upto directOwnSpec)) directOwnUptoCard

/-- THE SECOND FORM's CARD OF 'hourglasslaw09.DirectRow'. -/
def directRowUptoCard : Claim7 := { stood := { row := directRowUptoRow, standIns := [], harness := (true, "9c8adb4cc36749e25e100dc2334203dc387ae95b55a7bdd06fcb507f71e58a1e"), looks := false }, kinds := [], alts := [], laidByText := true, laidKinds := [.data, .data], laidTests := true, laidLooks := .later }
def DirectRowUptoCardSaid : Prop := Claim7.holds Tryd.pinned (.plain (OpenSpec.upto directRowSpec)) directRowUptoCard

/-- THE SECOND FORM's CARD OF 'hourglasslaw09.DirectLoaded'. -/
def directLoadedUptoCard : Claim7 := { stood := { row := directLoadedUptoRow, standIns := [], harness := (true, "9c8adb4cc36749e25e100dc2334203dc387ae95b55a7bdd06fcb507f71e58a1e"), looks := false }, kinds := [], alts := [], laidByText := true, laidKinds := [.data, .data], laidTests := true, laidLooks := .later }
def DirectLoadedUptoCardSaid : Prop := Claim7.holds Tryd.pinned (.plain (OpenSpec.upto directLoadedSpec)) directLoadedUptoCard
end Rows
end Go.Proofs.YtnmpfbffacljfaaDoor
