/-
  No cell of these rows narrows 'for every input' (looked for: loops, veiled, ifaces, maps, wideKeys, modest, calm, conditions, laid).
  DERIVED. THE GIVEN ROWS OF THIS SEAT. 6 by the template 'for every input the law returns true; each argument reads behind the call as it read before'; 0 by the template 'total and deterministic' (their statements: YthdahfogjdpefaaTotals.lean).
  GIVEN WITH THE SEED: the statements are not yours to turn. If you find one false, say at which input.
  Laid BY PROGRAM, IN A SANDBOX (cutbox-rows.mjs): the forced cells as the released guide's own fill.sh prints them over the translation 9da8dc9b80fb9182… (all of the seat's roots in one cut). By AI agents, Wed Nov 11 2026. No macro, syntax, notation, axiom, sorry.
-/
import Derived.Test.YthdahfogjdpefaaChecked
import GoSem.Claim
import GoSem.ClaimJoined
import GoSem.ClaimMapViews
import Derived.JoinedTies
import Derived.KernelRfl
namespace Go.Proofs.Ythdahfogjdpefaa
/- THE CELL 'sum', in the pinned program and in every row, IS THE sha256 OF THE DUMP (.gsa) THAT YthdahfogjdpefaaProg.lean LOADS. Nothing in Lean hashes anything: it is a label: what it is worth is what the hold of that sum in a sandbox is worth. -/
noncomputable def Try.pinned : Pinned := { name := "ythdahfogjdpefaa", sum := "9da8dc9b80fb91825af139511449dbc9c8f6d8ee999cae000cd71c1f7df4defe", checked := Try.checked }
namespace Rows
def none {H : Type} : Left H := { results := [], args := [] }

/-- 'hourglasslaw06.DelayTells': WHATEVER THE INPUT: true; the input reads as it did. -/
def delayTellsSpec : ChangeSpec := { name := "delayTells", fn := fun _ => fun
  | [d1, d2, d3, d4] => { results := [.lit (.bool true)], args := [d1, d2, d3, d4] }
  | _ => none }
def delayTellsRow : OpenClaim := { program := "ythdahfogjdpefaa", sum := "9da8dc9b80fb91825af139511449dbc9c8f6d8ee999cae000cd71c1f7df4defe", func := "hourglass/hourglasslaw06.DelayTells", spec := "delayTells", unfollowed := true, recurses := true, apart := false }
def DelayTellsSaid : Prop := delayTellsRow.holds Try.pinned (OpenSpec.ofChange delayTellsSpec)

/-- ITS FALSE NEIGHBOUR: 'it returns false'. Refute it at one input. -/
def delayTellsWrong : ChangeSpec := { name := "delayTells", fn := fun _ => fun
  | [d1, d2, d3, d4] => { results := [.lit (.bool false)], args := [d1, d2, d3, d4] }
  | _ => none }
def DelayTellsWrongFalsely : Prop := delayTellsRow.holds Try.pinned (OpenSpec.ofChange delayTellsWrong)

/-- 'hourglasslaw06.DelayDoubles': WHATEVER THE INPUT: true; the input reads as it did. -/
def delayDoublesSpec : ChangeSpec := { name := "delayDoubles", fn := fun _ => fun
  | [d1, d2] => { results := [.lit (.bool true)], args := [d1, d2] }
  | _ => none }
def delayDoublesRow : OpenClaim := { program := "ythdahfogjdpefaa", sum := "9da8dc9b80fb91825af139511449dbc9c8f6d8ee999cae000cd71c1f7df4defe", func := "hourglass/hourglasslaw06.DelayDoubles", spec := "delayDoubles", unfollowed := true, recurses := true, apart := false }
def DelayDoublesSaid : Prop := delayDoublesRow.holds Try.pinned (OpenSpec.ofChange delayDoublesSpec)

/-- ITS FALSE NEIGHBOUR: 'it returns false'. Refute it at one input. -/
def delayDoublesWrong : ChangeSpec := { name := "delayDoubles", fn := fun _ => fun
  | [d1, d2] => { results := [.lit (.bool false)], args := [d1, d2] }
  | _ => none }
def DelayDoublesWrongFalsely : Prop := delayDoublesRow.holds Try.pinned (OpenSpec.ofChange delayDoublesWrong)

/-- 'hourglasslaw06.DelayRises': WHATEVER THE INPUT: true; the input reads as it did. -/
def delayRisesSpec : ChangeSpec := { name := "delayRises", fn := fun _ => fun
  | [d1, d2, d3, d4, d5, d6] => { results := [.lit (.bool true)], args := [d1, d2, d3, d4, d5, d6] }
  | _ => none }
def delayRisesRow : OpenClaim := { program := "ythdahfogjdpefaa", sum := "9da8dc9b80fb91825af139511449dbc9c8f6d8ee999cae000cd71c1f7df4defe", func := "hourglass/hourglasslaw06.DelayRises", spec := "delayRises", unfollowed := true, recurses := true, apart := false }
def DelayRisesSaid : Prop := delayRisesRow.holds Try.pinned (OpenSpec.ofChange delayRisesSpec)

/-- ITS FALSE NEIGHBOUR: 'it returns false'. Refute it at one input. -/
def delayRisesWrong : ChangeSpec := { name := "delayRises", fn := fun _ => fun
  | [d1, d2, d3, d4, d5, d6] => { results := [.lit (.bool false)], args := [d1, d2, d3, d4, d5, d6] }
  | _ => none }
def DelayRisesWrongFalsely : Prop := delayRisesRow.holds Try.pinned (OpenSpec.ofChange delayRisesWrong)

/-- 'hourglasslaw06.DelayWord': WHATEVER THE INPUT: true; the input reads as it did. -/
def delayWordSpec : ChangeSpec := { name := "delayWord", fn := fun _ => fun
  | [d1, d2, d3, d4] => { results := [.lit (.bool true)], args := [d1, d2, d3, d4] }
  | _ => none }
def delayWordRow : OpenClaim := { program := "ythdahfogjdpefaa", sum := "9da8dc9b80fb91825af139511449dbc9c8f6d8ee999cae000cd71c1f7df4defe", func := "hourglass/hourglasslaw06.DelayWord", spec := "delayWord", unfollowed := true, recurses := true, apart := false }
def DelayWordSaid : Prop := delayWordRow.holds Try.pinned (OpenSpec.ofChange delayWordSpec)

/-- ITS FALSE NEIGHBOUR: 'it returns false'. Refute it at one input. -/
def delayWordWrong : ChangeSpec := { name := "delayWord", fn := fun _ => fun
  | [d1, d2, d3, d4] => { results := [.lit (.bool false)], args := [d1, d2, d3, d4] }
  | _ => none }
def DelayWordWrongFalsely : Prop := delayWordRow.holds Try.pinned (OpenSpec.ofChange delayWordWrong)

/-- 'hourglasslaw06.DelayScales': WHATEVER THE INPUT: true; the input reads as it did. -/
def delayScalesSpec : ChangeSpec := { name := "delayScales", fn := fun _ => fun
  | [d1, d2, d3] => { results := [.lit (.bool true)], args := [d1, d2, d3] }
  | _ => none }
def delayScalesRow : OpenClaim := { program := "ythdahfogjdpefaa", sum := "9da8dc9b80fb91825af139511449dbc9c8f6d8ee999cae000cd71c1f7df4defe", func := "hourglass/hourglasslaw06.DelayScales", spec := "delayScales", unfollowed := true, recurses := true, apart := false }
def DelayScalesSaid : Prop := delayScalesRow.holds Try.pinned (OpenSpec.ofChange delayScalesSpec)

/-- ITS FALSE NEIGHBOUR: 'it returns false'. Refute it at one input. -/
def delayScalesWrong : ChangeSpec := { name := "delayScales", fn := fun _ => fun
  | [d1, d2, d3] => { results := [.lit (.bool false)], args := [d1, d2, d3] }
  | _ => none }
def DelayScalesWrongFalsely : Prop := delayScalesRow.holds Try.pinned (OpenSpec.ofChange delayScalesWrong)

/-- 'hourglasslaw06.DelaySame': WHATEVER THE INPUT: true; the input reads as it did. -/
def delaySameSpec : ChangeSpec := { name := "delaySame", fn := fun _ => fun
  | [d1, d2, d3] => { results := [.lit (.bool true)], args := [d1, d2, d3] }
  | _ => none }
def delaySameRow : OpenClaim := { program := "ythdahfogjdpefaa", sum := "9da8dc9b80fb91825af139511449dbc9c8f6d8ee999cae000cd71c1f7df4defe", func := "hourglass/hourglasslaw06.DelaySame", spec := "delaySame", unfollowed := true, recurses := true, apart := false }
def DelaySameSaid : Prop := delaySameRow.holds Try.pinned (OpenSpec.ofChange delaySameSpec)

/-- ITS FALSE NEIGHBOUR: 'it returns false'. Refute it at one input. -/
def delaySameWrong : ChangeSpec := { name := "delaySame", fn := fun _ => fun
  | [d1, d2, d3] => { results := [.lit (.bool false)], args := [d1, d2, d3] }
  | _ => none }
def DelaySameWrongFalsely : Prop := delaySameRow.holds Try.pinned (OpenSpec.ofChange delaySameWrong)

/- THE SECOND FORM. 'bulk': how many values and letters a reading holds, each counted each time it is reached (what is shared counts as often as it is met; a slice's spare places count too). A statement '..UptoSaid' is the law's where the arguments, and the package variables that the reading takes, are together of bulk at most 1048576: NARROWER than '..Said'. Prove '..Said' where nothing that the law and all that it calls make is longer than what came in: it says more and counts as full. Else prove '..UptoSaid'. A law counts once. -/
mutual
def uptoBulk {H : Type} : DataW H → Nat
  | .lit (.string bytes) => bytes.length + 1
  | .lit _ => 1
  | .nil => 1
  | .ptr d => uptoBulk d + 1
  | .slice elems spare => uptoBulkAll elems + uptoBulkAll spare + 1
  | .agg parts => uptoBulkAll parts + 1
  | .iface _ d => uptoBulk d + 1
  | .map entries => uptoBulkEntries entries + 1
  | .held _ => 1
def uptoBulkAll {H : Type} : List (DataW H) → Nat
  | [] => 0
  | d :: r => uptoBulk d + uptoBulkAll r
def uptoBulkEntries {H : Type} : List (Lit × DataW H) → Nat
  | [] => 0
  | x :: r => uptoBulkEntry x + uptoBulkEntries r
def uptoBulkEntry {H : Type} : Lit × DataW H → Nat
  | (.string bytes, d) => bytes.length + uptoBulk d + 1
  | (_, d) => uptoBulk d + 1
 end
def uptoSmall : (H : Type) → List (DataW H) → Bool := fun _ ds => decide (uptoBulkAll ds ≤ 1048576)
def OpenSpec.upto (s : _root_.Go.ChangeSpec) : _root_.Go.OpenSpec := { _root_.Go.OpenSpec.ofChange s with cond := some uptoSmall }

/-- 'hourglasslaw06.DelayTells', WHERE WHAT IT READS IS OF BULK AT MOST 1048576: true; the input reads as it did. -/
def delayTellsUptoRow : OpenClaim := { program := "ythdahfogjdpefaa", sum := "9da8dc9b80fb91825af139511449dbc9c8f6d8ee999cae000cd71c1f7df4defe", func := "hourglass/hourglasslaw06.DelayTells", spec := "delayTells", unfollowed := true, recurses := true, apart := false, narrowed := true }
def DelayTellsUptoSaid : Prop := delayTellsUptoRow.holds Try.pinned (OpenSpec.upto delayTellsSpec)

/-- 'hourglasslaw06.DelayDoubles', WHERE WHAT IT READS IS OF BULK AT MOST 1048576: true; the input reads as it did. -/
def delayDoublesUptoRow : OpenClaim := { program := "ythdahfogjdpefaa", sum := "9da8dc9b80fb91825af139511449dbc9c8f6d8ee999cae000cd71c1f7df4defe", func := "hourglass/hourglasslaw06.DelayDoubles", spec := "delayDoubles", unfollowed := true, recurses := true, apart := false, narrowed := true }
def DelayDoublesUptoSaid : Prop := delayDoublesUptoRow.holds Try.pinned (OpenSpec.upto delayDoublesSpec)

/-- 'hourglasslaw06.DelayRises', WHERE WHAT IT READS IS OF BULK AT MOST 1048576: true; the input reads as it did. -/
def delayRisesUptoRow : OpenClaim := { program := "ythdahfogjdpefaa", sum := "9da8dc9b80fb91825af139511449dbc9c8f6d8ee999cae000cd71c1f7df4defe", func := "hourglass/hourglasslaw06.DelayRises", spec := "delayRises", unfollowed := true, recurses := true, apart := false, narrowed := true }
def DelayRisesUptoSaid : Prop := delayRisesUptoRow.holds Try.pinned (OpenSpec.upto delayRisesSpec)

/-- 'hourglasslaw06.DelayWord', WHERE WHAT IT READS IS OF BULK AT MOST 1048576: true; the input reads as it did. -/
def delayWordUptoRow : OpenClaim := { program := "ythdahfogjdpefaa", sum := "9da8dc9b80fb91825af139511449dbc9c8f6d8ee999cae000cd71c1f7df4defe", func := "hourglass/hourglasslaw06.DelayWord", spec := "delayWord", unfollowed := true, recurses := true, apart := false, narrowed := true }
def DelayWordUptoSaid : Prop := delayWordUptoRow.holds Try.pinned (OpenSpec.upto delayWordSpec)

/-- 'hourglasslaw06.DelayScales', WHERE WHAT IT READS IS OF BULK AT MOST 1048576: true; the input reads as it did. -/
def delayScalesUptoRow : OpenClaim := { program := "ythdahfogjdpefaa", sum := "9da8dc9b80fb91825af139511449dbc9c8f6d8ee999cae000cd71c1f7df4defe", func := "hourglass/hourglasslaw06.DelayScales", spec := "delayScales", unfollowed := true, recurses := true, apart := false, narrowed := true }
def DelayScalesUptoSaid : Prop := delayScalesUptoRow.holds Try.pinned (OpenSpec.upto delayScalesSpec)

/-- 'hourglasslaw06.DelaySame', WHERE WHAT IT READS IS OF BULK AT MOST 1048576: true; the input reads as it did. -/
def delaySameUptoRow : OpenClaim := { program := "ythdahfogjdpefaa", sum := "9da8dc9b80fb91825af139511449dbc9c8f6d8ee999cae000cd71c1f7df4defe", func := "hourglass/hourglasslaw06.DelaySame", spec := "delaySame", unfollowed := true, recurses := true, apart := false, narrowed := true }
def DelaySameUptoSaid : Prop := delaySameUptoRow.holds Try.pinned (OpenSpec.upto delaySameSpec)

end Rows
end Go.Proofs.Ythdahfogjdpefaa
