/-
  No cell of these rows narrows 'for every input' (looked for: loops, veiled, ifaces, maps, wideKeys, modest, calm, conditions, laid).
  DERIVED. THE GIVEN ROWS OF THIS SEAT. 9 by the template 'for every input the law returns true; each argument reads behind the call as it read before'; 0 by the template 'total and deterministic' (their statements: YtgfjpoopghdilaaTotals.lean).
  GIVEN WITH THE SEED: the statements are not yours to turn. If you find one false, say at which input.
  Laid BY PROGRAM, IN A SANDBOX (cutbox-rows.mjs): the forced cells as the released guide's own fill.sh prints them over the translation db167344cfa0f25e… (all of the seat's roots in one cut). By AI agents, Wed Nov 11 2026. No macro, syntax, notation, axiom, sorry.
-/
import Derived.Test.YtgfjpoopghdilaaChecked
import GoSem.Claim
import GoSem.ClaimJoined
import GoSem.ClaimMapViews
import Derived.JoinedTies
import Derived.KernelRfl
namespace Go.Proofs.Ytgfjpoopghdilaa
/- THE CELL 'sum', in the pinned program and in every row, IS THE sha256 OF THE DUMP (.gsa) THAT YtgfjpoopghdilaaProg.lean LOADS. Nothing in Lean hashes anything: it is a label: what it is worth is what the hold of that sum in a sandbox is worth. -/
noncomputable def Try.pinned : Pinned := { name := "ytgfjpoopghdilaa", sum := "db167344cfa0f25e2c286f6094b53df5e175120e2731d20bac710728098718a4", checked := Try.checked }
namespace Rows
def none {H : Type} : Left H := { results := [], args := [] }

/-- 'hourglasslaw10.SlotTells': WHATEVER THE INPUT: true; the input reads as it did. -/
def slotTellsSpec : ChangeSpec := { name := "slotTells", fn := fun _ => fun
  | [d1, d2] => { results := [.lit (.bool true)], args := [d1, d2] }
  | _ => none }
def slotTellsRow : OpenClaim := { program := "ytgfjpoopghdilaa", sum := "db167344cfa0f25e2c286f6094b53df5e175120e2731d20bac710728098718a4", func := "hourglass/hourglasslaw10.SlotTells", spec := "slotTells", apart := false }
def SlotTellsSaid : Prop := slotTellsRow.holds Try.pinned (OpenSpec.ofChange slotTellsSpec)

/-- ITS FALSE NEIGHBOUR: 'it returns false'. Refute it at one input. -/
def slotTellsWrong : ChangeSpec := { name := "slotTells", fn := fun _ => fun
  | [d1, d2] => { results := [.lit (.bool false)], args := [d1, d2] }
  | _ => none }
def SlotTellsWrongFalsely : Prop := slotTellsRow.holds Try.pinned (OpenSpec.ofChange slotTellsWrong)

/-- 'hourglasslaw10.SlotBack': WHATEVER THE INPUT: true; the input reads as it did. -/
def slotBackSpec : ChangeSpec := { name := "slotBack", fn := fun _ => fun
  | [d1, d2, d3] => { results := [.lit (.bool true)], args := [d1, d2, d3] }
  | _ => none }
def slotBackRow : OpenClaim := { program := "ytgfjpoopghdilaa", sum := "db167344cfa0f25e2c286f6094b53df5e175120e2731d20bac710728098718a4", func := "hourglass/hourglasslaw10.SlotBack", spec := "slotBack", apart := false }
def SlotBackSaid : Prop := slotBackRow.holds Try.pinned (OpenSpec.ofChange slotBackSpec)

/-- ITS FALSE NEIGHBOUR: 'it returns false'. Refute it at one input. -/
def slotBackWrong : ChangeSpec := { name := "slotBack", fn := fun _ => fun
  | [d1, d2, d3] => { results := [.lit (.bool false)], args := [d1, d2, d3] }
  | _ => none }
def SlotBackWrongFalsely : Prop := slotBackRow.holds Try.pinned (OpenSpec.ofChange slotBackWrong)

/-- 'hourglasslaw10.SlotPacks': WHATEVER THE INPUT: true; the input reads as it did. -/
def slotPacksSpec : ChangeSpec := { name := "slotPacks", fn := fun _ => fun
  | [d1, d2] => { results := [.lit (.bool true)], args := [d1, d2] }
  | _ => none }
def slotPacksRow : OpenClaim := { program := "ytgfjpoopghdilaa", sum := "db167344cfa0f25e2c286f6094b53df5e175120e2731d20bac710728098718a4", func := "hourglass/hourglasslaw10.SlotPacks", spec := "slotPacks", apart := false }
def SlotPacksSaid : Prop := slotPacksRow.holds Try.pinned (OpenSpec.ofChange slotPacksSpec)

/-- ITS FALSE NEIGHBOUR: 'it returns false'. Refute it at one input. -/
def slotPacksWrong : ChangeSpec := { name := "slotPacks", fn := fun _ => fun
  | [d1, d2] => { results := [.lit (.bool false)], args := [d1, d2] }
  | _ => none }
def SlotPacksWrongFalsely : Prop := slotPacksRow.holds Try.pinned (OpenSpec.ofChange slotPacksWrong)

/-- 'hourglasslaw10.SlotFields': WHATEVER THE INPUT: true; the input reads as it did. -/
def slotFieldsSpec : ChangeSpec := { name := "slotFields", fn := fun _ => fun
  | [d1, d2, d3] => { results := [.lit (.bool true)], args := [d1, d2, d3] }
  | _ => none }
def slotFieldsRow : OpenClaim := { program := "ytgfjpoopghdilaa", sum := "db167344cfa0f25e2c286f6094b53df5e175120e2731d20bac710728098718a4", func := "hourglass/hourglasslaw10.SlotFields", spec := "slotFields", apart := false }
def SlotFieldsSaid : Prop := slotFieldsRow.holds Try.pinned (OpenSpec.ofChange slotFieldsSpec)

/-- ITS FALSE NEIGHBOUR: 'it returns false'. Refute it at one input. -/
def slotFieldsWrong : ChangeSpec := { name := "slotFields", fn := fun _ => fun
  | [d1, d2, d3] => { results := [.lit (.bool false)], args := [d1, d2, d3] }
  | _ => none }
def SlotFieldsWrongFalsely : Prop := slotFieldsRow.holds Try.pinned (OpenSpec.ofChange slotFieldsWrong)

/-- 'hourglasslaw10.SlotTurned': WHATEVER THE INPUT: true; the input reads as it did. -/
def slotTurnedSpec : ChangeSpec := { name := "slotTurned", fn := fun _ => fun
  | [d1, d2, d3] => { results := [.lit (.bool true)], args := [d1, d2, d3] }
  | _ => none }
def slotTurnedRow : OpenClaim := { program := "ytgfjpoopghdilaa", sum := "db167344cfa0f25e2c286f6094b53df5e175120e2731d20bac710728098718a4", func := "hourglass/hourglasslaw10.SlotTurned", spec := "slotTurned", apart := false }
def SlotTurnedSaid : Prop := slotTurnedRow.holds Try.pinned (OpenSpec.ofChange slotTurnedSpec)

/-- ITS FALSE NEIGHBOUR: 'it returns false'. Refute it at one input. -/
def slotTurnedWrong : ChangeSpec := { name := "slotTurned", fn := fun _ => fun
  | [d1, d2, d3] => { results := [.lit (.bool false)], args := [d1, d2, d3] }
  | _ => none }
def SlotTurnedWrongFalsely : Prop := slotTurnedRow.holds Try.pinned (OpenSpec.ofChange slotTurnedWrong)

/-- 'hourglasslaw10.SlotCuts': WHATEVER THE INPUT: true; the input reads as it did. -/
def slotCutsSpec : ChangeSpec := { name := "slotCuts", fn := fun _ => fun
  | [d1, d2, d3] => { results := [.lit (.bool true)], args := [d1, d2, d3] }
  | _ => none }
def slotCutsRow : OpenClaim := { program := "ytgfjpoopghdilaa", sum := "db167344cfa0f25e2c286f6094b53df5e175120e2731d20bac710728098718a4", func := "hourglass/hourglasslaw10.SlotCuts", spec := "slotCuts", apart := false }
def SlotCutsSaid : Prop := slotCutsRow.holds Try.pinned (OpenSpec.ofChange slotCutsSpec)

/-- ITS FALSE NEIGHBOUR: 'it returns false'. Refute it at one input. -/
def slotCutsWrong : ChangeSpec := { name := "slotCuts", fn := fun _ => fun
  | [d1, d2, d3] => { results := [.lit (.bool false)], args := [d1, d2, d3] }
  | _ => none }
def SlotCutsWrongFalsely : Prop := slotCutsRow.holds Try.pinned (OpenSpec.ofChange slotCutsWrong)

/-- 'hourglasslaw10.SlotHead': WHATEVER THE INPUT: true; the input reads as it did. -/
def slotHeadSpec : ChangeSpec := { name := "slotHead", fn := fun _ => fun
  | [d1, d2] => { results := [.lit (.bool true)], args := [d1, d2] }
  | _ => none }
def slotHeadRow : OpenClaim := { program := "ytgfjpoopghdilaa", sum := "db167344cfa0f25e2c286f6094b53df5e175120e2731d20bac710728098718a4", func := "hourglass/hourglasslaw10.SlotHead", spec := "slotHead", apart := false }
def SlotHeadSaid : Prop := slotHeadRow.holds Try.pinned (OpenSpec.ofChange slotHeadSpec)

/-- ITS FALSE NEIGHBOUR: 'it returns false'. Refute it at one input. -/
def slotHeadWrong : ChangeSpec := { name := "slotHead", fn := fun _ => fun
  | [d1, d2] => { results := [.lit (.bool false)], args := [d1, d2] }
  | _ => none }
def SlotHeadWrongFalsely : Prop := slotHeadRow.holds Try.pinned (OpenSpec.ofChange slotHeadWrong)

/-- 'hourglasslaw10.SlotTimes': WHATEVER THE INPUT: true; the input reads as it did. -/
def slotTimesSpec : ChangeSpec := { name := "slotTimes", fn := fun _ => fun
  | [d1, d2, d3] => { results := [.lit (.bool true)], args := [d1, d2, d3] }
  | _ => none }
def slotTimesRow : OpenClaim := { program := "ytgfjpoopghdilaa", sum := "db167344cfa0f25e2c286f6094b53df5e175120e2731d20bac710728098718a4", func := "hourglass/hourglasslaw10.SlotTimes", spec := "slotTimes", apart := false }
def SlotTimesSaid : Prop := slotTimesRow.holds Try.pinned (OpenSpec.ofChange slotTimesSpec)

/-- ITS FALSE NEIGHBOUR: 'it returns false'. Refute it at one input. -/
def slotTimesWrong : ChangeSpec := { name := "slotTimes", fn := fun _ => fun
  | [d1, d2, d3] => { results := [.lit (.bool false)], args := [d1, d2, d3] }
  | _ => none }
def SlotTimesWrongFalsely : Prop := slotTimesRow.holds Try.pinned (OpenSpec.ofChange slotTimesWrong)

/-- 'hourglasslaw10.SlotPlaces': WHATEVER THE INPUT: true; the input reads as it did. -/
def slotPlacesSpec : ChangeSpec := { name := "slotPlaces", fn := fun _ => fun
  | [d] => { results := [.lit (.bool true)], args := [d] }
  | _ => none }
def slotPlacesRow : OpenClaim := { program := "ytgfjpoopghdilaa", sum := "db167344cfa0f25e2c286f6094b53df5e175120e2731d20bac710728098718a4", func := "hourglass/hourglasslaw10.SlotPlaces", spec := "slotPlaces", apart := false }
def SlotPlacesSaid : Prop := slotPlacesRow.holds Try.pinned (OpenSpec.ofChange slotPlacesSpec)

/-- ITS FALSE NEIGHBOUR: 'it returns false'. Refute it at one input. -/
def slotPlacesWrong : ChangeSpec := { name := "slotPlaces", fn := fun _ => fun
  | [d] => { results := [.lit (.bool false)], args := [d] }
  | _ => none }
def SlotPlacesWrongFalsely : Prop := slotPlacesRow.holds Try.pinned (OpenSpec.ofChange slotPlacesWrong)

/- THE SECOND FORM. 'bulk': how many values and letters a reading holds, each counted each time it is reached (what is shared counts as often as it is met; a slice's spare places count too). A statement '..UptoSaid' is the law's where the arguments, and the package variables that the reading takes, are together of bulk at most 1048576: NARROWER than '..Said'. Prove '..Said' where nothing that the law and all that it calls make is longer than what came in: it says more and counts as full. Else prove '..UptoSaid'. A law counts once. -/
mutual
def uptoBulk {H : Type} : DataW H → Nat
  | .lit (.string bytes) => bytes.length + 1
  | .lit _ => 1
  | .nil => 1
  | .ptr d => uptoBulk d + 1
  | .slice elems spare => uptoBulkAll elems + uptoBulkAll spare + 1
  | .agg parts => uptoBulkAll parts + 1
  | .iface _ d => uptoBulk d + 1
  | .map entries => uptoBulkEntries entries + 1
  | .held _ => 1
def uptoBulkAll {H : Type} : List (DataW H) → Nat
  | [] => 0
  | d :: r => uptoBulk d + uptoBulkAll r
def uptoBulkEntries {H : Type} : List (Lit × DataW H) → Nat
  | [] => 0
  | x :: r => uptoBulkEntry x + uptoBulkEntries r
def uptoBulkEntry {H : Type} : Lit × DataW H → Nat
  | (.string bytes, d) => bytes.length + uptoBulk d + 1
  | (_, d) => uptoBulk d + 1
 end
def uptoSmall : (H : Type) → List (DataW H) → Bool := fun _ ds => decide (uptoBulkAll ds ≤ 1048576)
def OpenSpec.upto (s : _root_.Go.ChangeSpec) : _root_.Go.OpenSpec := { _root_.Go.OpenSpec.ofChange s with cond := some uptoSmall }

/-- 'hourglasslaw10.SlotTells', WHERE WHAT IT READS IS OF BULK AT MOST 1048576: true; the input reads as it did. -/
def slotTellsUptoRow : OpenClaim := { program := "ytgfjpoopghdilaa", sum := "db167344cfa0f25e2c286f6094b53df5e175120e2731d20bac710728098718a4", func := "hourglass/hourglasslaw10.SlotTells", spec := "slotTells", apart := false, narrowed := true }
def SlotTellsUptoSaid : Prop := slotTellsUptoRow.holds Try.pinned (OpenSpec.upto slotTellsSpec)

/-- 'hourglasslaw10.SlotBack', WHERE WHAT IT READS IS OF BULK AT MOST 1048576: true; the input reads as it did. -/
def slotBackUptoRow : OpenClaim := { program := "ytgfjpoopghdilaa", sum := "db167344cfa0f25e2c286f6094b53df5e175120e2731d20bac710728098718a4", func := "hourglass/hourglasslaw10.SlotBack", spec := "slotBack", apart := false, narrowed := true }
def SlotBackUptoSaid : Prop := slotBackUptoRow.holds Try.pinned (OpenSpec.upto slotBackSpec)

/-- 'hourglasslaw10.SlotPacks', WHERE WHAT IT READS IS OF BULK AT MOST 1048576: true; the input reads as it did. -/
def slotPacksUptoRow : OpenClaim := { program := "ytgfjpoopghdilaa", sum := "db167344cfa0f25e2c286f6094b53df5e175120e2731d20bac710728098718a4", func := "hourglass/hourglasslaw10.SlotPacks", spec := "slotPacks", apart := false, narrowed := true }
def SlotPacksUptoSaid : Prop := slotPacksUptoRow.holds Try.pinned (OpenSpec.upto slotPacksSpec)

/-- 'hourglasslaw10.SlotFields', WHERE WHAT IT READS IS OF BULK AT MOST 1048576: true; the input reads as it did. -/
def slotFieldsUptoRow : OpenClaim := { program := "ytgfjpoopghdilaa", sum := "db167344cfa0f25e2c286f6094b53df5e175120e2731d20bac710728098718a4", func := "hourglass/hourglasslaw10.SlotFields", spec := "slotFields", apart := false, narrowed := true }
def SlotFieldsUptoSaid : Prop := slotFieldsUptoRow.holds Try.pinned (OpenSpec.upto slotFieldsSpec)

/-- 'hourglasslaw10.SlotTurned', WHERE WHAT IT READS IS OF BULK AT MOST 1048576: true; the input reads as it did. -/
def slotTurnedUptoRow : OpenClaim := { program := "ytgfjpoopghdilaa", sum := "db167344cfa0f25e2c286f6094b53df5e175120e2731d20bac710728098718a4", func := "hourglass/hourglasslaw10.SlotTurned", spec := "slotTurned", apart := false, narrowed := true }
def SlotTurnedUptoSaid : Prop := slotTurnedUptoRow.holds Try.pinned (OpenSpec.upto slotTurnedSpec)

/-- 'hourglasslaw10.SlotCuts', WHERE WHAT IT READS IS OF BULK AT MOST 1048576: true; the input reads as it did. -/
def slotCutsUptoRow : OpenClaim := { program := "ytgfjpoopghdilaa", sum := "db167344cfa0f25e2c286f6094b53df5e175120e2731d20bac710728098718a4", func := "hourglass/hourglasslaw10.SlotCuts", spec := "slotCuts", apart := false, narrowed := true }
def SlotCutsUptoSaid : Prop := slotCutsUptoRow.holds Try.pinned (OpenSpec.upto slotCutsSpec)

/-- 'hourglasslaw10.SlotHead', WHERE WHAT IT READS IS OF BULK AT MOST 1048576: true; the input reads as it did. -/
def slotHeadUptoRow : OpenClaim := { program := "ytgfjpoopghdilaa", sum := "db167344cfa0f25e2c286f6094b53df5e175120e2731d20bac710728098718a4", func := "hourglass/hourglasslaw10.SlotHead", spec := "slotHead", apart := false, narrowed := true }
def SlotHeadUptoSaid : Prop := slotHeadUptoRow.holds Try.pinned (OpenSpec.upto slotHeadSpec)

/-- 'hourglasslaw10.SlotTimes', WHERE WHAT IT READS IS OF BULK AT MOST 1048576: true; the input reads as it did. -/
def slotTimesUptoRow : OpenClaim := { program := "ytgfjpoopghdilaa", sum := "db167344cfa0f25e2c286f6094b53df5e175120e2731d20bac710728098718a4", func := "hourglass/hourglasslaw10.SlotTimes", spec := "slotTimes", apart := false, narrowed := true }
def SlotTimesUptoSaid : Prop := slotTimesUptoRow.holds Try.pinned (OpenSpec.upto slotTimesSpec)

/-- 'hourglasslaw10.SlotPlaces', WHERE WHAT IT READS IS OF BULK AT MOST 1048576: true; the input reads as it did. -/
def slotPlacesUptoRow : OpenClaim := { program := "ytgfjpoopghdilaa", sum := "db167344cfa0f25e2c286f6094b53df5e175120e2731d20bac710728098718a4", func := "hourglass/hourglasslaw10.SlotPlaces", spec := "slotPlaces", apart := false, narrowed := true }
def SlotPlacesUptoSaid : Prop := slotPlacesUptoRow.holds Try.pinned (OpenSpec.upto slotPlacesSpec)

end Rows
end Go.Proofs.Ytgfjpoopghdilaa
