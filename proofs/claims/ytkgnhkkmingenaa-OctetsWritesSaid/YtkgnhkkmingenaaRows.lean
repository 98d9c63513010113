/-
  No cell of these rows narrows 'for every input' (looked for: loops, veiled, ifaces, maps, wideKeys, modest, calm, conditions, laid).
  DERIVED. THE GIVEN ROWS OF THIS SEAT. 7 by the template 'for every input the law returns true; each argument reads behind the call as it read before'; 0 by the template 'total and deterministic' (their statements: YtkgnhkkmingenaaTotals.lean).
  GIVEN WITH THE SEED: the statements are not yours to turn. If you find one false, say at which input.
  Laid BY PROGRAM, IN A SANDBOX (cutbox-rows.mjs): the forced cells as the released guide's own fill.sh prints them over the translation 0121b3e04e8d43e1… (all of the seat's roots in one cut). By AI agents, Wed Nov 11 2026. No macro, syntax, notation, axiom, sorry.
-/
import Derived.Test.YtkgnhkkmingenaaChecked
import GoSem.Claim
import GoSem.ClaimJoined
import GoSem.ClaimMapViews
import Derived.JoinedTies
import Derived.KernelRfl
namespace Go.Proofs.Ytkgnhkkmingenaa
/- THE CELL 'sum', in the pinned program and in every row, IS THE sha256 OF THE DUMP (.gsa) THAT YtkgnhkkmingenaaProg.lean LOADS. Nothing in Lean hashes anything: it is a label: what it is worth is what the hold of that sum in a sandbox is worth. -/
noncomputable def Try.pinned : Pinned := { name := "ytkgnhkkmingenaa", sum := "0121b3e04e8d43e1c14dad24e89af291f02dc8aebafc610b7d8d87b9ab5105ae", checked := Try.checked }
namespace Rows
def none {H : Type} : Left H := { results := [], args := [] }

/-- 'hourglasslaw01.OctetsZeros': WHATEVER THE INPUT: true; the input reads as it did. -/
def octetsZerosSpec : ChangeSpec := { name := "octetsZeros", fn := fun _ => fun
  | [d1, d2, d3] => { results := [.lit (.bool true)], args := [d1, d2, d3] }
  | _ => none }
def octetsZerosRow : OpenClaim := { program := "ytkgnhkkmingenaa", sum := "0121b3e04e8d43e1c14dad24e89af291f02dc8aebafc610b7d8d87b9ab5105ae", func := "hourglass/hourglasslaw01.OctetsZeros", spec := "octetsZeros", apart := false }
def OctetsZerosSaid : Prop := octetsZerosRow.holds Try.pinned (OpenSpec.ofChange octetsZerosSpec)

/-- ITS FALSE NEIGHBOUR: 'it returns false'. Refute it at one input. -/
def octetsZerosWrong : ChangeSpec := { name := "octetsZeros", fn := fun _ => fun
  | [d1, d2, d3] => { results := [.lit (.bool false)], args := [d1, d2, d3] }
  | _ => none }
def OctetsZerosWrongFalsely : Prop := octetsZerosRow.holds Try.pinned (OpenSpec.ofChange octetsZerosWrong)

/-- 'hourglasslaw01.OctetsWrites': WHATEVER THE INPUT: true; the input reads as it did. -/
def octetsWritesSpec : ChangeSpec := { name := "octetsWrites", fn := fun _ => fun
  | [d] => { results := [.lit (.bool true)], args := [d] }
  | _ => none }
def octetsWritesRow : OpenClaim := { program := "ytkgnhkkmingenaa", sum := "0121b3e04e8d43e1c14dad24e89af291f02dc8aebafc610b7d8d87b9ab5105ae", func := "hourglass/hourglasslaw01.OctetsWrites", spec := "octetsWrites", apart := false }
def OctetsWritesSaid : Prop := octetsWritesRow.holds Try.pinned (OpenSpec.ofChange octetsWritesSpec)

/-- ITS FALSE NEIGHBOUR: 'it returns false'. Refute it at one input. -/
def octetsWritesWrong : ChangeSpec := { name := "octetsWrites", fn := fun _ => fun
  | [d] => { results := [.lit (.bool false)], args := [d] }
  | _ => none }
def OctetsWritesWrongFalsely : Prop := octetsWritesRow.holds Try.pinned (OpenSpec.ofChange octetsWritesWrong)

/-- 'hourglasslaw01.OctetsNumbers': WHATEVER THE INPUT: true; the input reads as it did. -/
def octetsNumbersSpec : ChangeSpec := { name := "octetsNumbers", fn := fun _ => fun
  | [d] => { results := [.lit (.bool true)], args := [d] }
  | _ => none }
def octetsNumbersRow : OpenClaim := { program := "ytkgnhkkmingenaa", sum := "0121b3e04e8d43e1c14dad24e89af291f02dc8aebafc610b7d8d87b9ab5105ae", func := "hourglass/hourglasslaw01.OctetsNumbers", spec := "octetsNumbers", apart := false }
def OctetsNumbersSaid : Prop := octetsNumbersRow.holds Try.pinned (OpenSpec.ofChange octetsNumbersSpec)

/-- ITS FALSE NEIGHBOUR: 'it returns false'. Refute it at one input. -/
def octetsNumbersWrong : ChangeSpec := { name := "octetsNumbers", fn := fun _ => fun
  | [d] => { results := [.lit (.bool false)], args := [d] }
  | _ => none }
def OctetsNumbersWrongFalsely : Prop := octetsNumbersRow.holds Try.pinned (OpenSpec.ofChange octetsNumbersWrong)

/-- 'hourglasslaw01.OctetsParts': WHATEVER THE INPUT: true; the input reads as it did. -/
def octetsPartsSpec : ChangeSpec := { name := "octetsParts", fn := fun _ => fun
  | [d1, d2] => { results := [.lit (.bool true)], args := [d1, d2] }
  | _ => none }
def octetsPartsRow : OpenClaim := { program := "ytkgnhkkmingenaa", sum := "0121b3e04e8d43e1c14dad24e89af291f02dc8aebafc610b7d8d87b9ab5105ae", func := "hourglass/hourglasslaw01.OctetsParts", spec := "octetsParts", apart := false }
def OctetsPartsSaid : Prop := octetsPartsRow.holds Try.pinned (OpenSpec.ofChange octetsPartsSpec)

/-- ITS FALSE NEIGHBOUR: 'it returns false'. Refute it at one input. -/
def octetsPartsWrong : ChangeSpec := { name := "octetsParts", fn := fun _ => fun
  | [d1, d2] => { results := [.lit (.bool false)], args := [d1, d2] }
  | _ => none }
def OctetsPartsWrongFalsely : Prop := octetsPartsRow.holds Try.pinned (OpenSpec.ofChange octetsPartsWrong)

/-- 'hourglasslaw01.OctetsStays': WHATEVER THE INPUT: true; the input reads as it did. -/
def octetsStaysSpec : ChangeSpec := { name := "octetsStays", fn := fun _ => fun
  | [d1, d2] => { results := [.lit (.bool true)], args := [d1, d2] }
  | _ => none }
def octetsStaysRow : OpenClaim := { program := "ytkgnhkkmingenaa", sum := "0121b3e04e8d43e1c14dad24e89af291f02dc8aebafc610b7d8d87b9ab5105ae", func := "hourglass/hourglasslaw01.OctetsStays", spec := "octetsStays", apart := false }
def OctetsStaysSaid : Prop := octetsStaysRow.holds Try.pinned (OpenSpec.ofChange octetsStaysSpec)

/-- ITS FALSE NEIGHBOUR: 'it returns false'. Refute it at one input. -/
def octetsStaysWrong : ChangeSpec := { name := "octetsStays", fn := fun _ => fun
  | [d1, d2] => { results := [.lit (.bool false)], args := [d1, d2] }
  | _ => none }
def OctetsStaysWrongFalsely : Prop := octetsStaysRow.holds Try.pinned (OpenSpec.ofChange octetsStaysWrong)

/-- 'hourglasslaw01.OctetsBack': WHATEVER THE INPUT: true; the input reads as it did. -/
def octetsBackSpec : ChangeSpec := { name := "octetsBack", fn := fun _ => fun
  | [d1, d2] => { results := [.lit (.bool true)], args := [d1, d2] }
  | _ => none }
def octetsBackRow : OpenClaim := { program := "ytkgnhkkmingenaa", sum := "0121b3e04e8d43e1c14dad24e89af291f02dc8aebafc610b7d8d87b9ab5105ae", func := "hourglass/hourglasslaw01.OctetsBack", spec := "octetsBack", apart := false }
def OctetsBackSaid : Prop := octetsBackRow.holds Try.pinned (OpenSpec.ofChange octetsBackSpec)

/-- ITS FALSE NEIGHBOUR: 'it returns false'. Refute it at one input. -/
def octetsBackWrong : ChangeSpec := { name := "octetsBack", fn := fun _ => fun
  | [d1, d2] => { results := [.lit (.bool false)], args := [d1, d2] }
  | _ => none }
def OctetsBackWrongFalsely : Prop := octetsBackRow.holds Try.pinned (OpenSpec.ofChange octetsBackWrong)

/-- 'hourglasslaw01.OctetsReads': WHATEVER THE INPUT: true; the input reads as it did. -/
def octetsReadsSpec : ChangeSpec := { name := "octetsReads", fn := fun _ => fun
  | [d1, d2] => { results := [.lit (.bool true)], args := [d1, d2] }
  | _ => none }
def octetsReadsRow : OpenClaim := { program := "ytkgnhkkmingenaa", sum := "0121b3e04e8d43e1c14dad24e89af291f02dc8aebafc610b7d8d87b9ab5105ae", func := "hourglass/hourglasslaw01.OctetsReads", spec := "octetsReads", apart := false }
def OctetsReadsSaid : Prop := octetsReadsRow.holds Try.pinned (OpenSpec.ofChange octetsReadsSpec)

/-- ITS FALSE NEIGHBOUR: 'it returns false'. Refute it at one input. -/
def octetsReadsWrong : ChangeSpec := { name := "octetsReads", fn := fun _ => fun
  | [d1, d2] => { results := [.lit (.bool false)], args := [d1, d2] }
  | _ => none }
def OctetsReadsWrongFalsely : Prop := octetsReadsRow.holds Try.pinned (OpenSpec.ofChange octetsReadsWrong)

/- THE SECOND FORM. 'bulk': how many values and letters a reading holds, each counted each time it is reached (what is shared counts as often as it is met; a slice's spare places count too). A statement '..UptoSaid' is the law's where the arguments, and the package variables that the reading takes, are together of bulk at most 1048576: NARROWER than '..Said'. Prove '..Said' where nothing that the law and all that it calls make is longer than what came in: it says more and counts as full. Else prove '..UptoSaid'. A law counts once. -/
mutual
def uptoBulk {H : Type} : DataW H → Nat
  | .lit (.string bytes) => bytes.length + 1
  | .lit _ => 1
  | .nil => 1
  | .ptr d => uptoBulk d + 1
  | .slice elems spare => uptoBulkAll elems + uptoBulkAll spare + 1
  | .agg parts => uptoBulkAll parts + 1
  | .iface _ d => uptoBulk d + 1
  | .map entries => uptoBulkEntries entries + 1
  | .held _ => 1
def uptoBulkAll {H : Type} : List (DataW H) → Nat
  | [] => 0
  | d :: r => uptoBulk d + uptoBulkAll r
def uptoBulkEntries {H : Type} : List (Lit × DataW H) → Nat
  | [] => 0
  | x :: r => uptoBulkEntry x + uptoBulkEntries r
def uptoBulkEntry {H : Type} : Lit × DataW H → Nat
  | (.string bytes, d) => bytes.length + uptoBulk d + 1
  | (_, d) => uptoBulk d + 1
 end
def uptoSmall : (H : Type) → List (DataW H) → Bool := fun _ ds => decide (uptoBulkAll ds ≤ 1048576)
def OpenSpec.upto (s : _root_.Go.ChangeSpec) : _root_.Go.OpenSpec := { _root_.Go.OpenSpec.ofChange s with cond := some uptoSmall }

/-- 'hourglasslaw01.OctetsZeros', WHERE WHAT IT READS IS OF BULK AT MOST 1048576: true; the input reads as it did. -/
def octetsZerosUptoRow : OpenClaim := { program := "ytkgnhkkmingenaa", sum := "0121b3e04e8d43e1c14dad24e89af291f02dc8aebafc610b7d8d87b9ab5105ae", func := "hourglass/hourglasslaw01.OctetsZeros", spec := "octetsZeros", apart := false, narrowed := true }
def OctetsZerosUptoSaid : Prop := octetsZerosUptoRow.holds Try.pinned (OpenSpec.upto octetsZerosSpec)

/-- 'hourglasslaw01.OctetsWrites', WHERE WHAT IT READS IS OF BULK AT MOST 1048576: true; the input reads as it did. -/
def octetsWritesUptoRow : OpenClaim := { program := "ytkgnhkkmingenaa", sum := "0121b3e04e8d43e1c14dad24e89af291f02dc8aebafc610b7d8d87b9ab5105ae", func := "hourglass/hourglasslaw01.OctetsWrites", spec := "octetsWrites", apart := false, narrowed := true }
def OctetsWritesUptoSaid : Prop := octetsWritesUptoRow.holds Try.pinned (OpenSpec.upto octetsWritesSpec)

/-- 'hourglasslaw01.OctetsNumbers', WHERE WHAT IT READS IS OF BULK AT MOST 1048576: true; the input reads as it did. -/
def octetsNumbersUptoRow : OpenClaim := { program := "ytkgnhkkmingenaa", sum := "0121b3e04e8d43e1c14dad24e89af291f02dc8aebafc610b7d8d87b9ab5105ae", func := "hourglass/hourglasslaw01.OctetsNumbers", spec := "octetsNumbers", apart := false, narrowed := true }
def OctetsNumbersUptoSaid : Prop := octetsNumbersUptoRow.holds Try.pinned (OpenSpec.upto octetsNumbersSpec)

/-- 'hourglasslaw01.OctetsParts', WHERE WHAT IT READS IS OF BULK AT MOST 1048576: true; the input reads as it did. -/
def octetsPartsUptoRow : OpenClaim := { program := "ytkgnhkkmingenaa", sum := "0121b3e04e8d43e1c14dad24e89af291f02dc8aebafc610b7d8d87b9ab5105ae", func := "hourglass/hourglasslaw01.OctetsParts", spec := "octetsParts", apart := false, narrowed := true }
def OctetsPartsUptoSaid : Prop := octetsPartsUptoRow.holds Try.pinned (OpenSpec.upto octetsPartsSpec)

/-- 'hourglasslaw01.OctetsStays', WHERE WHAT IT READS IS OF BULK AT MOST 1048576: true; the input reads as it did. -/
def octetsStaysUptoRow : OpenClaim := { program := "ytkgnhkkmingenaa", sum := "0121b3e04e8d43e1c14dad24e89af291f02dc8aebafc610b7d8d87b9ab5105ae", func := "hourglass/hourglasslaw01.OctetsStays", spec := "octetsStays", apart := false, narrowed := true }
def OctetsStaysUptoSaid : Prop := octetsStaysUptoRow.holds Try.pinned (OpenSpec.upto octetsStaysSpec)

/-- 'hourglasslaw01.OctetsBack', WHERE WHAT IT READS IS OF BULK AT MOST 1048576: true; the input reads as it did. -/
def octetsBackUptoRow : OpenClaim := { program := "ytkgnhkkmingenaa", sum := "0121b3e04e8d43e1c14dad24e89af291f02dc8aebafc610b7d8d87b9ab5105ae", func := "hourglass/hourglasslaw01.OctetsBack", spec := "octetsBack", apart := false, narrowed := true }
def OctetsBackUptoSaid : Prop := octetsBackUptoRow.holds Try.pinned (OpenSpec.upto octetsBackSpec)

/-- 'hourglasslaw01.OctetsReads', WHERE WHAT IT READS IS OF BULK AT MOST 1048576: true; the input reads as it did. -/
def octetsReadsUptoRow : OpenClaim := { program := "ytkgnhkkmingenaa", sum := "0121b3e04e8d43e1c14dad24e89af291f02dc8aebafc610b7d8d87b9ab5105ae", func := "hourglass/hourglasslaw01.OctetsReads", spec := "octetsReads", apart := false, narrowed := true }
def OctetsReadsUptoSaid : Prop := octetsReadsUptoRow.holds Try.pinned (OpenSpec.upto octetsReadsSpec)

end Rows
end Go.Proofs.Ytkgnhkkmingenaa
