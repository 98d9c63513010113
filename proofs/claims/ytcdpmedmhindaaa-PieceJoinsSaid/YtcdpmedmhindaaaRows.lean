/-
  No cell of these rows narrows 'for every input' (looked for: loops, veiled, ifaces, maps, wideKeys, modest, calm, conditions, laid).
  DERIVED. THE GIVEN ROWS OF THIS SEAT. 13 by the template 'for every input the law returns true; each argument reads behind the call as it read before'; 0 by the template 'total and deterministic' (their statements: YtcdpmedmhindaaaTotals.lean).
  GIVEN WITH THE SEED: the statements are not yours to turn. If you find one false, say at which input.
  Laid BY PROGRAM, IN A SANDBOX (cutbox-rows.mjs): the forced cells as the released guide's own fill.sh prints them over the translation 7ee57d5c55b9e761… (all of the seat's roots in one cut). By AI agents, Wed Nov 11 2026. No macro, syntax, notation, axiom, sorry.
-/
import Derived.Test.YtcdpmedmhindaaaChecked
import GoSem.Claim
import GoSem.ClaimJoined
import GoSem.ClaimMapViews
import Derived.JoinedTies
import Derived.KernelRfl
namespace Go.Proofs.Ytcdpmedmhindaaa
/- THE CELL 'sum', in the pinned program and in every row, IS THE sha256 OF THE DUMP (.gsa) THAT YtcdpmedmhindaaaProg.lean LOADS. Nothing in Lean hashes anything: it is a label: what it is worth is what the hold of that sum in a sandbox is worth. -/
noncomputable def Try.pinned : Pinned := { name := "ytcdpmedmhindaaa", sum := "7ee57d5c55b9e7616feace31509418b2cc8c50e6d21e9dc9af31e3e1306d2238", checked := Try.checked }
namespace Rows
def none {H : Type} : Left H := { results := [], args := [] }

/-- 'hourglasslaw16.PieceSplits': WHATEVER THE INPUT: true; the input reads as it did. -/
def pieceSplitsSpec : ChangeSpec := { name := "pieceSplits", fn := fun _ => fun
  | [d1, d2, d3, d4] => { results := [.lit (.bool true)], args := [d1, d2, d3, d4] }
  | _ => none }
def pieceSplitsRow : OpenClaim := { program := "ytcdpmedmhindaaa", sum := "7ee57d5c55b9e7616feace31509418b2cc8c50e6d21e9dc9af31e3e1306d2238", func := "hourglass/hourglasslaw16.PieceSplits", spec := "pieceSplits", unfollowed := true, recurses := true, plainKeys := false, apart := false }
def PieceSplitsSaid : Prop := pieceSplitsRow.holds Try.pinned (OpenSpec.ofChange pieceSplitsSpec)

/-- ITS FALSE NEIGHBOUR: 'it returns false'. Refute it at one input. -/
def pieceSplitsWrong : ChangeSpec := { name := "pieceSplits", fn := fun _ => fun
  | [d1, d2, d3, d4] => { results := [.lit (.bool false)], args := [d1, d2, d3, d4] }
  | _ => none }
def PieceSplitsWrongFalsely : Prop := pieceSplitsRow.holds Try.pinned (OpenSpec.ofChange pieceSplitsWrong)

/-- 'hourglasslaw16.PieceJoins': WHATEVER THE INPUT: true; the input reads as it did. -/
def pieceJoinsSpec : ChangeSpec := { name := "pieceJoins", fn := fun _ => fun
  | [d1, d2] => { results := [.lit (.bool true)], args := [d1, d2] }
  | _ => none }
def pieceJoinsRow : OpenClaim := { program := "ytcdpmedmhindaaa", sum := "7ee57d5c55b9e7616feace31509418b2cc8c50e6d21e9dc9af31e3e1306d2238", func := "hourglass/hourglasslaw16.PieceJoins", spec := "pieceJoins", unfollowed := true, recurses := true, plainKeys := false, apart := false }
def PieceJoinsSaid : Prop := pieceJoinsRow.holds Try.pinned (OpenSpec.ofChange pieceJoinsSpec)

/-- ITS FALSE NEIGHBOUR: 'it returns false'. Refute it at one input. -/
def pieceJoinsWrong : ChangeSpec := { name := "pieceJoins", fn := fun _ => fun
  | [d1, d2] => { results := [.lit (.bool false)], args := [d1, d2] }
  | _ => none }
def PieceJoinsWrongFalsely : Prop := pieceJoinsRow.holds Try.pinned (OpenSpec.ofChange pieceJoinsWrong)

/-- 'hourglasslaw16.PieceWhole': WHATEVER THE INPUT: true; the input reads as it did. -/
def pieceWholeSpec : ChangeSpec := { name := "pieceWhole", fn := fun _ => fun
  | [d1, d2, d3, d4] => { results := [.lit (.bool true)], args := [d1, d2, d3, d4] }
  | _ => none }
def pieceWholeRow : OpenClaim := { program := "ytcdpmedmhindaaa", sum := "7ee57d5c55b9e7616feace31509418b2cc8c50e6d21e9dc9af31e3e1306d2238", func := "hourglass/hourglasslaw16.PieceWhole", spec := "pieceWhole", unfollowed := true, recurses := true, plainKeys := false, apart := false }
def PieceWholeSaid : Prop := pieceWholeRow.holds Try.pinned (OpenSpec.ofChange pieceWholeSpec)

/-- ITS FALSE NEIGHBOUR: 'it returns false'. Refute it at one input. -/
def pieceWholeWrong : ChangeSpec := { name := "pieceWhole", fn := fun _ => fun
  | [d1, d2, d3, d4] => { results := [.lit (.bool false)], args := [d1, d2, d3, d4] }
  | _ => none }
def PieceWholeWrongFalsely : Prop := pieceWholeRow.holds Try.pinned (OpenSpec.ofChange pieceWholeWrong)

/-- 'hourglasslaw16.PieceCounts': WHATEVER THE INPUT: true; the input reads as it did. -/
def pieceCountsSpec : ChangeSpec := { name := "pieceCounts", fn := fun _ => fun
  | [d1, d2] => { results := [.lit (.bool true)], args := [d1, d2] }
  | _ => none }
def pieceCountsRow : OpenClaim := { program := "ytcdpmedmhindaaa", sum := "7ee57d5c55b9e7616feace31509418b2cc8c50e6d21e9dc9af31e3e1306d2238", func := "hourglass/hourglasslaw16.PieceCounts", spec := "pieceCounts", unfollowed := true, recurses := true, plainKeys := false, apart := false }
def PieceCountsSaid : Prop := pieceCountsRow.holds Try.pinned (OpenSpec.ofChange pieceCountsSpec)

/-- ITS FALSE NEIGHBOUR: 'it returns false'. Refute it at one input. -/
def pieceCountsWrong : ChangeSpec := { name := "pieceCounts", fn := fun _ => fun
  | [d1, d2] => { results := [.lit (.bool false)], args := [d1, d2] }
  | _ => none }
def PieceCountsWrongFalsely : Prop := pieceCountsRow.holds Try.pinned (OpenSpec.ofChange pieceCountsWrong)

/-- 'hourglasslaw16.PieceTwo': WHATEVER THE INPUT: true; the input reads as it did. -/
def pieceTwoSpec : ChangeSpec := { name := "pieceTwo", fn := fun _ => fun
  | [d1, d2, d3] => { results := [.lit (.bool true)], args := [d1, d2, d3] }
  | _ => none }
def pieceTwoRow : OpenClaim := { program := "ytcdpmedmhindaaa", sum := "7ee57d5c55b9e7616feace31509418b2cc8c50e6d21e9dc9af31e3e1306d2238", func := "hourglass/hourglasslaw16.PieceTwo", spec := "pieceTwo", unfollowed := true, recurses := true, plainKeys := false, apart := false }
def PieceTwoSaid : Prop := pieceTwoRow.holds Try.pinned (OpenSpec.ofChange pieceTwoSpec)

/-- ITS FALSE NEIGHBOUR: 'it returns false'. Refute it at one input. -/
def pieceTwoWrong : ChangeSpec := { name := "pieceTwo", fn := fun _ => fun
  | [d1, d2, d3] => { results := [.lit (.bool false)], args := [d1, d2, d3] }
  | _ => none }
def PieceTwoWrongFalsely : Prop := pieceTwoRow.holds Try.pinned (OpenSpec.ofChange pieceTwoWrong)

/-- 'hourglasslaw16.PieceRoom': WHATEVER THE INPUT: true; the input reads as it did. -/
def pieceRoomSpec : ChangeSpec := { name := "pieceRoom", fn := fun _ => fun
  | [d] => { results := [.lit (.bool true)], args := [d] }
  | _ => none }
def pieceRoomRow : OpenClaim := { program := "ytcdpmedmhindaaa", sum := "7ee57d5c55b9e7616feace31509418b2cc8c50e6d21e9dc9af31e3e1306d2238", func := "hourglass/hourglasslaw16.PieceRoom", spec := "pieceRoom", unfollowed := true, recurses := true, plainKeys := false, apart := false }
def PieceRoomSaid : Prop := pieceRoomRow.holds Try.pinned (OpenSpec.ofChange pieceRoomSpec)

/-- ITS FALSE NEIGHBOUR: 'it returns false'. Refute it at one input. -/
def pieceRoomWrong : ChangeSpec := { name := "pieceRoom", fn := fun _ => fun
  | [d] => { results := [.lit (.bool false)], args := [d] }
  | _ => none }
def PieceRoomWrongFalsely : Prop := pieceRoomRow.holds Try.pinned (OpenSpec.ofChange pieceRoomWrong)

/-- 'hourglasslaw16.PieceKnown': WHATEVER THE INPUT: true; the input reads as it did. -/
def pieceKnownSpec : ChangeSpec := { name := "pieceKnown", fn := fun _ => fun
  | [d1, d2] => { results := [.lit (.bool true)], args := [d1, d2] }
  | _ => none }
def pieceKnownRow : OpenClaim := { program := "ytcdpmedmhindaaa", sum := "7ee57d5c55b9e7616feace31509418b2cc8c50e6d21e9dc9af31e3e1306d2238", func := "hourglass/hourglasslaw16.PieceKnown", spec := "pieceKnown", unfollowed := true, recurses := true, plainKeys := false, apart := false }
def PieceKnownSaid : Prop := pieceKnownRow.holds Try.pinned (OpenSpec.ofChange pieceKnownSpec)

/-- ITS FALSE NEIGHBOUR: 'it returns false'. Refute it at one input. -/
def pieceKnownWrong : ChangeSpec := { name := "pieceKnown", fn := fun _ => fun
  | [d1, d2] => { results := [.lit (.bool false)], args := [d1, d2] }
  | _ => none }
def PieceKnownWrongFalsely : Prop := pieceKnownRow.holds Try.pinned (OpenSpec.ofChange pieceKnownWrong)

/-- 'hourglasslaw16.PieceKinds': WHATEVER THE INPUT: true; the input reads as it did. -/
def pieceKindsSpec : ChangeSpec := { name := "pieceKinds", fn := fun _ => fun
  | [d1, d2, d3] => { results := [.lit (.bool true)], args := [d1, d2, d3] }
  | _ => none }
def pieceKindsRow : OpenClaim := { program := "ytcdpmedmhindaaa", sum := "7ee57d5c55b9e7616feace31509418b2cc8c50e6d21e9dc9af31e3e1306d2238", func := "hourglass/hourglasslaw16.PieceKinds", spec := "pieceKinds", unfollowed := true, recurses := true, plainKeys := false, apart := false }
def PieceKindsSaid : Prop := pieceKindsRow.holds Try.pinned (OpenSpec.ofChange pieceKindsSpec)

/-- ITS FALSE NEIGHBOUR: 'it returns false'. Refute it at one input. -/
def pieceKindsWrong : ChangeSpec := { name := "pieceKinds", fn := fun _ => fun
  | [d1, d2, d3] => { results := [.lit (.bool false)], args := [d1, d2, d3] }
  | _ => none }
def PieceKindsWrongFalsely : Prop := pieceKindsRow.holds Try.pinned (OpenSpec.ofChange pieceKindsWrong)

/-- 'hourglasslaw16.PieceWhose': WHATEVER THE INPUT: true; the input reads as it did. -/
def pieceWhoseSpec : ChangeSpec := { name := "pieceWhose", fn := fun _ => fun
  | [d1, d2] => { results := [.lit (.bool true)], args := [d1, d2] }
  | _ => none }
def pieceWhoseRow : OpenClaim := { program := "ytcdpmedmhindaaa", sum := "7ee57d5c55b9e7616feace31509418b2cc8c50e6d21e9dc9af31e3e1306d2238", func := "hourglass/hourglasslaw16.PieceWhose", spec := "pieceWhose", unfollowed := true, recurses := true, plainKeys := false, apart := false }
def PieceWhoseSaid : Prop := pieceWhoseRow.holds Try.pinned (OpenSpec.ofChange pieceWhoseSpec)

/-- ITS FALSE NEIGHBOUR: 'it returns false'. Refute it at one input. -/
def pieceWhoseWrong : ChangeSpec := { name := "pieceWhose", fn := fun _ => fun
  | [d1, d2] => { results := [.lit (.bool false)], args := [d1, d2] }
  | _ => none }
def PieceWhoseWrongFalsely : Prop := pieceWhoseRow.holds Try.pinned (OpenSpec.ofChange pieceWhoseWrong)

/-- 'hourglasslaw16.PieceGap': WHATEVER THE INPUT: true; the input reads as it did. -/
def pieceGapSpec : ChangeSpec := { name := "pieceGap", fn := fun _ => fun
  | [d1, d2] => { results := [.lit (.bool true)], args := [d1, d2] }
  | _ => none }
def pieceGapRow : OpenClaim := { program := "ytcdpmedmhindaaa", sum := "7ee57d5c55b9e7616feace31509418b2cc8c50e6d21e9dc9af31e3e1306d2238", func := "hourglass/hourglasslaw16.PieceGap", spec := "pieceGap", unfollowed := true, recurses := true, plainKeys := false, apart := false }
def PieceGapSaid : Prop := pieceGapRow.holds Try.pinned (OpenSpec.ofChange pieceGapSpec)

/-- ITS FALSE NEIGHBOUR: 'it returns false'. Refute it at one input. -/
def pieceGapWrong : ChangeSpec := { name := "pieceGap", fn := fun _ => fun
  | [d1, d2] => { results := [.lit (.bool false)], args := [d1, d2] }
  | _ => none }
def PieceGapWrongFalsely : Prop := pieceGapRow.holds Try.pinned (OpenSpec.ofChange pieceGapWrong)

/-- 'hourglasslaw16.PieceSpoilt': WHATEVER THE INPUT: true; the input reads as it did. -/
def pieceSpoiltSpec : ChangeSpec := { name := "pieceSpoilt", fn := fun _ => fun
  | [d1, d2, d3, d4] => { results := [.lit (.bool true)], args := [d1, d2, d3, d4] }
  | _ => none }
def pieceSpoiltRow : OpenClaim := { program := "ytcdpmedmhindaaa", sum := "7ee57d5c55b9e7616feace31509418b2cc8c50e6d21e9dc9af31e3e1306d2238", func := "hourglass/hourglasslaw16.PieceSpoilt", spec := "pieceSpoilt", unfollowed := true, recurses := true, plainKeys := false, apart := false }
def PieceSpoiltSaid : Prop := pieceSpoiltRow.holds Try.pinned (OpenSpec.ofChange pieceSpoiltSpec)

/-- ITS FALSE NEIGHBOUR: 'it returns false'. Refute it at one input. -/
def pieceSpoiltWrong : ChangeSpec := { name := "pieceSpoilt", fn := fun _ => fun
  | [d1, d2, d3, d4] => { results := [.lit (.bool false)], args := [d1, d2, d3, d4] }
  | _ => none }
def PieceSpoiltWrongFalsely : Prop := pieceSpoiltRow.holds Try.pinned (OpenSpec.ofChange pieceSpoiltWrong)

/-- 'hourglasslaw16.PieceTells': WHATEVER THE INPUT: true; the input reads as it did. -/
def pieceTellsSpec : ChangeSpec := { name := "pieceTells", fn := fun _ => fun
  | [d1, d2] => { results := [.lit (.bool true)], args := [d1, d2] }
  | _ => none }
def pieceTellsRow : OpenClaim := { program := "ytcdpmedmhindaaa", sum := "7ee57d5c55b9e7616feace31509418b2cc8c50e6d21e9dc9af31e3e1306d2238", func := "hourglass/hourglasslaw16.PieceTells", spec := "pieceTells", unfollowed := true, recurses := true, plainKeys := false, apart := false }
def PieceTellsSaid : Prop := pieceTellsRow.holds Try.pinned (OpenSpec.ofChange pieceTellsSpec)

/-- ITS FALSE NEIGHBOUR: 'it returns false'. Refute it at one input. -/
def pieceTellsWrong : ChangeSpec := { name := "pieceTells", fn := fun _ => fun
  | [d1, d2] => { results := [.lit (.bool false)], args := [d1, d2] }
  | _ => none }
def PieceTellsWrongFalsely : Prop := pieceTellsRow.holds Try.pinned (OpenSpec.ofChange pieceTellsWrong)

/-- 'hourglasslaw16.PieceBack': WHATEVER THE INPUT: true; the input reads as it did. -/
def pieceBackSpec : ChangeSpec := { name := "pieceBack", fn := fun _ => fun
  | [d1, d2, d3] => { results := [.lit (.bool true)], args := [d1, d2, d3] }
  | _ => none }
def pieceBackRow : OpenClaim := { program := "ytcdpmedmhindaaa", sum := "7ee57d5c55b9e7616feace31509418b2cc8c50e6d21e9dc9af31e3e1306d2238", func := "hourglass/hourglasslaw16.PieceBack", spec := "pieceBack", unfollowed := true, recurses := true, plainKeys := false, apart := false }
def PieceBackSaid : Prop := pieceBackRow.holds Try.pinned (OpenSpec.ofChange pieceBackSpec)

/-- ITS FALSE NEIGHBOUR: 'it returns false'. Refute it at one input. -/
def pieceBackWrong : ChangeSpec := { name := "pieceBack", fn := fun _ => fun
  | [d1, d2, d3] => { results := [.lit (.bool false)], args := [d1, d2, d3] }
  | _ => none }
def PieceBackWrongFalsely : Prop := pieceBackRow.holds Try.pinned (OpenSpec.ofChange pieceBackWrong)

/- THE SECOND FORM. 'bulk': how many values and letters a reading holds, each counted each time it is reached (what is shared counts as often as it is met; a slice's spare places count too). A statement '..UptoSaid' is the law's where the arguments, and the package variables that the reading takes, are together of bulk at most 1048576: NARROWER than '..Said'. Prove '..Said' where nothing that the law and all that it calls make is longer than what came in: it says more and counts as full. Else prove '..UptoSaid'. A law counts once. -/
mutual
def uptoBulk {H : Type} : DataW H → Nat
  | .lit (.string bytes) => bytes.length + 1
  | .lit _ => 1
  | .nil => 1
  | .ptr d => uptoBulk d + 1
  | .slice elems spare => uptoBulkAll elems + uptoBulkAll spare + 1
  | .agg parts => uptoBulkAll parts + 1
  | .iface _ d => uptoBulk d + 1
  | .map entries => uptoBulkEntries entries + 1
  | .held _ => 1
def uptoBulkAll {H : Type} : List (DataW H) → Nat
  | [] => 0
  | d :: r => uptoBulk d + uptoBulkAll r
def uptoBulkEntries {H : Type} : List (Lit × DataW H) → Nat
  | [] => 0
  | x :: r => uptoBulkEntry x + uptoBulkEntries r
def uptoBulkEntry {H : Type} : Lit × DataW H → Nat
  | (.string bytes, d) => bytes.length + uptoBulk d + 1
  | (_, d) => uptoBulk d + 1
 end
def uptoSmall : (H : Type) → List (DataW H) → Bool := fun _ ds => decide (uptoBulkAll ds ≤ 1048576)
def OpenSpec.upto (s : _root_.Go.ChangeSpec) : _root_.Go.OpenSpec := { _root_.Go.OpenSpec.ofChange s with cond := some uptoSmall }

/-- 'hourglasslaw16.PieceSplits', WHERE WHAT IT READS IS OF BULK AT MOST 1048576: true; the input reads as it did. -/
def pieceSplitsUptoRow : OpenClaim := { program := "ytcdpmedmhindaaa", sum := "7ee57d5c55b9e7616feace31509418b2cc8c50e6d21e9dc9af31e3e1306d2238", func := "hourglass/hourglasslaw16.PieceSplits", spec := "pieceSplits", unfollowed := true, recurses := true, plainKeys := false, apart := false, narrowed := true }
def PieceSplitsUptoSaid : Prop := pieceSplitsUptoRow.holds Try.pinned (OpenSpec.upto pieceSplitsSpec)

/-- 'hourglasslaw16.PieceJoins', WHERE WHAT IT READS IS OF BULK AT MOST 1048576: true; the input reads as it did. -/
def pieceJoinsUptoRow : OpenClaim := { program := "ytcdpmedmhindaaa", sum := "7ee57d5c55b9e7616feace31509418b2cc8c50e6d21e9dc9af31e3e1306d2238", func := "hourglass/hourglasslaw16.PieceJoins", spec := "pieceJoins", unfollowed := true, recurses := true, plainKeys := false, apart := false, narrowed := true }
def PieceJoinsUptoSaid : Prop := pieceJoinsUptoRow.holds Try.pinned (OpenSpec.upto pieceJoinsSpec)

/-- 'hourglasslaw16.PieceWhole', WHERE WHAT IT READS IS OF BULK AT MOST 1048576: true; the input reads as it did. -/
def pieceWholeUptoRow : OpenClaim := { program := "ytcdpmedmhindaaa", sum := "7ee57d5c55b9e7616feace31509418b2cc8c50e6d21e9dc9af31e3e1306d2238", func := "hourglass/hourglasslaw16.PieceWhole", spec := "pieceWhole", unfollowed := true, recurses := true, plainKeys := false, apart := false, narrowed := true }
def PieceWholeUptoSaid : Prop := pieceWholeUptoRow.holds Try.pinned (OpenSpec.upto pieceWholeSpec)

/-- 'hourglasslaw16.PieceCounts', WHERE WHAT IT READS IS OF BULK AT MOST 1048576: true; the input reads as it did. -/
def pieceCountsUptoRow : OpenClaim := { program := "ytcdpmedmhindaaa", sum := "7ee57d5c55b9e7616feace31509418b2cc8c50e6d21e9dc9af31e3e1306d2238", func := "hourglass/hourglasslaw16.PieceCounts", spec := "pieceCounts", unfollowed := true, recurses := true, plainKeys := false, apart := false, narrowed := true }
def PieceCountsUptoSaid : Prop := pieceCountsUptoRow.holds Try.pinned (OpenSpec.upto pieceCountsSpec)

/-- 'hourglasslaw16.PieceTwo', WHERE WHAT IT READS IS OF BULK AT MOST 1048576: true; the input reads as it did. -/
def pieceTwoUptoRow : OpenClaim := { program := "ytcdpmedmhindaaa", sum := "7ee57d5c55b9e7616feace31509418b2cc8c50e6d21e9dc9af31e3e1306d2238", func := "hourglass/hourglasslaw16.PieceTwo", spec := "pieceTwo", unfollowed := true, recurses := true, plainKeys := false, apart := false, narrowed := true }
def PieceTwoUptoSaid : Prop := pieceTwoUptoRow.holds Try.pinned (OpenSpec.upto pieceTwoSpec)

/-- 'hourglasslaw16.PieceRoom', WHERE WHAT IT READS IS OF BULK AT MOST 1048576: true; the input reads as it did. -/
def pieceRoomUptoRow : OpenClaim := { program := "ytcdpmedmhindaaa", sum := "7ee57d5c55b9e7616feace31509418b2cc8c50e6d21e9dc9af31e3e1306d2238", func := "hourglass/hourglasslaw16.PieceRoom", spec := "pieceRoom", unfollowed := true, recurses := true, plainKeys := false, apart := false, narrowed := true }
def PieceRoomUptoSaid : Prop := pieceRoomUptoRow.holds Try.pinned (OpenSpec.upto pieceRoomSpec)

/-- 'hourglasslaw16.PieceKnown', WHERE WHAT IT READS IS OF BULK AT MOST 1048576: true; the input reads as it did. -/
def pieceKnownUptoRow : OpenClaim := { program := "ytcdpmedmhindaaa", sum := "7ee57d5c55b9e7616feace31509418b2cc8c50e6d21e9dc9af31e3e1306d2238", func := "hourglass/hourglasslaw16.PieceKnown", spec := "pieceKnown", unfollowed := true, recurses := true, plainKeys := false, apart := false, narrowed := true }
def PieceKnownUptoSaid : Prop := pieceKnownUptoRow.holds Try.pinned (OpenSpec.upto pieceKnownSpec)

/-- 'hourglasslaw16.PieceKinds', WHERE WHAT IT READS IS OF BULK AT MOST 1048576: true; the input reads as it did. -/
def pieceKindsUptoRow : OpenClaim := { program := "ytcdpmedmhindaaa", sum := "7ee57d5c55b9e7616feace31509418b2cc8c50e6d21e9dc9af31e3e1306d2238", func := "hourglass/hourglasslaw16.PieceKinds", spec := "pieceKinds", unfollowed := true, recurses := true, plainKeys := false, apart := false, narrowed := true }
def PieceKindsUptoSaid : Prop := pieceKindsUptoRow.holds Try.pinned (OpenSpec.upto pieceKindsSpec)

/-- 'hourglasslaw16.PieceWhose', WHERE WHAT IT READS IS OF BULK AT MOST 1048576: true; the input reads as it did. -/
def pieceWhoseUptoRow : OpenClaim := { program := "ytcdpmedmhindaaa", sum := "7ee57d5c55b9e7616feace31509418b2cc8c50e6d21e9dc9af31e3e1306d2238", func := "hourglass/hourglasslaw16.PieceWhose", spec := "pieceWhose", unfollowed := true, recurses := true, plainKeys := false, apart := false, narrowed := true }
def PieceWhoseUptoSaid : Prop := pieceWhoseUptoRow.holds Try.pinned (OpenSpec.upto pieceWhoseSpec)

/-- 'hourglasslaw16.PieceGap', WHERE WHAT IT READS IS OF BULK AT MOST 1048576: true; the input reads as it did. -/
def pieceGapUptoRow : OpenClaim := { program := "ytcdpmedmhindaaa", sum := "7ee57d5c55b9e7616feace31509418b2cc8c50e6d21e9dc9af31e3e1306d2238", func := "hourglass/hourglasslaw16.PieceGap", spec := "pieceGap", unfollowed := true, recurses := true, plainKeys := false, apart := false, narrowed := true }
def PieceGapUptoSaid : Prop := pieceGapUptoRow.holds Try.pinned (OpenSpec.upto pieceGapSpec)

/-- 'hourglasslaw16.PieceSpoilt', WHERE WHAT IT READS IS OF BULK AT MOST 1048576: true; the input reads as it did. -/
def pieceSpoiltUptoRow : OpenClaim := { program := "ytcdpmedmhindaaa", sum := "7ee57d5c55b9e7616feace31509418b2cc8c50e6d21e9dc9af31e3e1306d2238", func := "hourglass/hourglasslaw16.PieceSpoilt", spec := "pieceSpoilt", unfollowed := true, recurses := true, plainKeys := false, apart := false, narrowed := true }
def PieceSpoiltUptoSaid : Prop := pieceSpoiltUptoRow.holds Try.pinned (OpenSpec.upto pieceSpoiltSpec)

/-- 'hourglasslaw16.PieceTells', WHERE WHAT IT READS IS OF BULK AT MOST 1048576: true; the input reads as it did. -/
def pieceTellsUptoRow : OpenClaim := { program := "ytcdpmedmhindaaa", sum := "7ee57d5c55b9e7616feace31509418b2cc8c50e6d21e9dc9af31e3e1306d2238", func := "hourglass/hourglasslaw16.PieceTells", spec := "pieceTells", unfollowed := true, recurses := true, plainKeys := false, apart := false, narrowed := true }
def PieceTellsUptoSaid : Prop := pieceTellsUptoRow.holds Try.pinned (OpenSpec.upto pieceTellsSpec)

/-- 'hourglasslaw16.PieceBack', WHERE WHAT IT READS IS OF BULK AT MOST 1048576: true; the input reads as it did. -/
def pieceBackUptoRow : OpenClaim := { program := "ytcdpmedmhindaaa", sum := "7ee57d5c55b9e7616feace31509418b2cc8c50e6d21e9dc9af31e3e1306d2238", func := "hourglass/hourglasslaw16.PieceBack", spec := "pieceBack", unfollowed := true, recurses := true, plainKeys := false, apart := false, narrowed := true }
def PieceBackUptoSaid : Prop := pieceBackUptoRow.holds Try.pinned (OpenSpec.upto pieceBackSpec)

end Rows
end Go.Proofs.Ytcdpmedmhindaaa
