/-
  NARROWER THAN 'FOR EVERY INPUT', by the rows' own cells (each row's printed sentence says how): DirectPlays: laid · DirectLoads: laid · DirectOnce: laid · DirectOrder: laid · DirectSpan: laid · DirectApart: laid · DirectFull: laid · DirectOwn: laid · DirectRow: laid · DirectLoaded: laid.
  DERIVED. THE GIVEN ROWS OF THIS SEAT. 10 by the template 'for every input the law returns true; each argument reads behind the call as it read before'; 0 by the template 'total and deterministic' (their statements: YtnmpfbffacljfaaDoorTotals.lean).
  GIVEN WITH THE SEED: the statements are not yours to turn. If you find one false, say at which input.
  Laid BY PROGRAM, IN A SANDBOX (cutbox-rows.mjs): the forced cells as the released guide's own fill.sh prints them over the translation 40c581dfd7b74c1a… (all of the seat's roots in one cut). By AI agents, Wed Nov 11 2026. No macro, syntax, notation, axiom, sorry.
-/
import Derived.Test.YtnmpfbffacljfaaDoorChecked
import GoSem.Claim
import GoSem.ClaimJoined
import GoSem.ClaimMapViews
import Derived.JoinedTies
import Derived.KernelRfl
namespace Go.Proofs.YtnmpfbffacljfaaDoor
/- THE CELL 'sum', in the pinned program and in every row, IS THE sha256 OF THE DUMP (.gsa) THAT YtnmpfbffacljfaaDoorProg.lean LOADS. Nothing in Lean hashes anything: it is a label: what it is worth is what the hold of that sum in a sandbox is worth. -/
noncomputable def Tryd.pinned : Pinned := { name := "ytnmpfbffacljfaadoor", sum := "40c581dfd7b74c1ae4e489bc2d5cb797b87c32e8dadcb3dd3d0611eeb323fda7", checked := Tryd.checked }
namespace Rows
def none {H : Type} : Left H := { results := [], args := [] }

/- WHAT THE LISTED PACKAGE-LEVEL VARIABLES READ AS WHEN THE CALL BEGINS. Each datum BY PROGRAM (the guide's laid-datum.mjs) off the statement by which the dump's own 'gosem.cut.vars' lays the variable. In a bare row this is a premise. The card (YtnmpfbffacljfaaDoorCards.lean) ties it to the program's text. -/
def laid_hourglass_sha_first {H : Type} : DataW H := .agg [.lit (.int .u32 1779033703), .lit (.int .u32 3144134277), .lit (.int .u32 1013904242), .lit (.int .u32 2773480762), .lit (.int .u32 1359893119), .lit (.int .u32 2600822924), .lit (.int .u32 528734635), .lit (.int .u32 1541459225)]
def laid_hourglass_sha_steady {H : Type} : DataW H := .agg [.lit (.int .u32 1116352408), .lit (.int .u32 1899447441), .lit (.int .u32 3049323471), .lit (.int .u32 3921009573), .lit (.int .u32 961987163), .lit (.int .u32 1508970993), .lit (.int .u32 2453635748), .lit (.int .u32 2870763221), .lit (.int .u32 3624381080), .lit (.int .u32 310598401), .lit (.int .u32 607225278), .lit (.int .u32 1426881987), .lit (.int .u32 1925078388), .lit (.int .u32 2162078206), .lit (.int .u32 2614888103), .lit (.int .u32 3248222580), .lit (.int .u32 3835390401), .lit (.int .u32 4022224774), .lit (.int .u32 264347078), .lit (.int .u32 604807628), .lit (.int .u32 770255983), .lit (.int .u32 1249150122), .lit (.int .u32 1555081692), .lit (.int .u32 1996064986), .lit (.int .u32 2554220882), .lit (.int .u32 2821834349), .lit (.int .u32 2952996808), .lit (.int .u32 3210313671), .lit (.int .u32 3336571891), .lit (.int .u32 3584528711), .lit (.int .u32 113926993), .lit (.int .u32 338241895), .lit (.int .u32 666307205), .lit (.int .u32 773529912), .lit (.int .u32 1294757372), .lit (.int .u32 1396182291), .lit (.int .u32 1695183700), .lit (.int .u32 1986661051), .lit (.int .u32 2177026350), .lit (.int .u32 2456956037), .lit (.int .u32 2730485921), .lit (.int .u32 2820302411), .lit (.int .u32 3259730800), .lit (.int .u32 3345764771), .lit (.int .u32 3516065817), .lit (.int .u32 3600352804), .lit (.int .u32 4094571909), .lit (.int .u32 275423344), .lit (.int .u32 430227734), .lit (.int .u32 506948616), .lit (.int .u32 659060556), .lit (.int .u32 883997877), .lit (.int .u32 958139571), .lit (.int .u32 1322822218), .lit (.int .u32 1537002063), .lit (.int .u32 1747873779), .lit (.int .u32 1955562222), .lit (.int .u32 2024104815), .lit (.int .u32 2227730452), .lit (.int .u32 2361852424), .lit (.int .u32 2428436474), .lit (.int .u32 2756734187), .lit (.int .u32 3204031479), .lit (.int .u32 3329325298)]

/-- 'hourglasslaw09.DirectPlays': WHATEVER THE INPUT: true; the input reads as it did. -/
def directPlaysSpec : ChangeSpec := { name := "directPlays", fn := fun _ => fun
  | [d1, d2, d3] => { results := [.lit (.bool true)], args := [d1, d2, d3] }
  | _ => none }
def directPlaysRow : OpenClaim := { program := "ytnmpfbffacljfaadoor", sum := "40c581dfd7b74c1ae4e489bc2d5cb797b87c32e8dadcb3dd3d0611eeb323fda7", func := "hourglass/hourglasslaw09.DirectPlays", spec := "directPlays", unfollowed := true, recurses := true, named := ["hourglass/sha.first", "hourglass/sha.steady"], plainKeys := false, apart := false, laid := [("hourglass/sha.first", laid_hourglass_sha_first), ("hourglass/sha.steady", laid_hourglass_sha_steady)] }
def DirectPlaysSaid : Prop := directPlaysRow.holds Tryd.pinned (OpenSpec.ofChange directPlaysSpec)

/-- ITS FALSE NEIGHBOUR: 'it returns false'. Refute it at one input. -/
def directPlaysWrong : ChangeSpec := { name := "directPlays", fn := fun _ => fun
  | [d1, d2, d3] => { results := [.lit (.bool false)], args := [d1, d2, d3] }
  | _ => none }
def DirectPlaysWrongFalsely : Prop := directPlaysRow.holds Tryd.pinned (OpenSpec.ofChange directPlaysWrong)

/-- 'hourglasslaw09.DirectLoads': WHATEVER THE INPUT: true; the input reads as it did. -/
def directLoadsSpec : ChangeSpec := { name := "directLoads", fn := fun _ => fun
  | [d1, d2] => { results := [.lit (.bool true)], args := [d1, d2] }
  | _ => none }
def directLoadsRow : OpenClaim := { program := "ytnmpfbffacljfaadoor", sum := "40c581dfd7b74c1ae4e489bc2d5cb797b87c32e8dadcb3dd3d0611eeb323fda7", func := "hourglass/hourglasslaw09.DirectLoads", spec := "directLoads", unfollowed := true, recurses := true, named := ["hourglass/sha.first", "hourglass/sha.steady"], plainKeys := false, apart := false, laid := [("hourglass/sha.first", laid_hourglass_sha_first), ("hourglass/sha.steady", laid_hourglass_sha_steady)] }
def DirectLoadsSaid : Prop := directLoadsRow.holds Tryd.pinned (OpenSpec.ofChange directLoadsSpec)

/-- ITS FALSE NEIGHBOUR: 'it returns false'. Refute it at one input. -/
def directLoadsWrong : ChangeSpec := { name := "directLoads", fn := fun _ => fun
  | [d1, d2] => { results := [.lit (.bool false)], args := [d1, d2] }
  | _ => none }
def DirectLoadsWrongFalsely : Prop := directLoadsRow.holds Tryd.pinned (OpenSpec.ofChange directLoadsWrong)

/-- 'hourglasslaw09.DirectOnce': WHATEVER THE INPUT: true; the input reads as it did. -/
def directOnceSpec : ChangeSpec := { name := "directOnce", fn := fun _ => fun
  | [d1, d2] => { results := [.lit (.bool true)], args := [d1, d2] }
  | _ => none }
def directOnceRow : OpenClaim := { program := "ytnmpfbffacljfaadoor", sum := "40c581dfd7b74c1ae4e489bc2d5cb797b87c32e8dadcb3dd3d0611eeb323fda7", func := "hourglass/hourglasslaw09.DirectOnce", spec := "directOnce", unfollowed := true, recurses := true, named := ["hourglass/sha.first", "hourglass/sha.steady"], plainKeys := false, apart := false, laid := [("hourglass/sha.first", laid_hourglass_sha_first), ("hourglass/sha.steady", laid_hourglass_sha_steady)] }
def DirectOnceSaid : Prop := directOnceRow.holds Tryd.pinned (OpenSpec.ofChange directOnceSpec)

/-- ITS FALSE NEIGHBOUR: 'it returns false'. Refute it at one input. -/
def directOnceWrong : ChangeSpec := { name := "directOnce", fn := fun _ => fun
  | [d1, d2] => { results := [.lit (.bool false)], args := [d1, d2] }
  | _ => none }
def DirectOnceWrongFalsely : Prop := directOnceRow.holds Tryd.pinned (OpenSpec.ofChange directOnceWrong)

/-- 'hourglasslaw09.DirectOrder': WHATEVER THE INPUT: true; the input reads as it did. -/
def directOrderSpec : ChangeSpec := { name := "directOrder", fn := fun _ => fun
  | [d] => { results := [.lit (.bool true)], args := [d] }
  | _ => none }
def directOrderRow : OpenClaim := { program := "ytnmpfbffacljfaadoor", sum := "40c581dfd7b74c1ae4e489bc2d5cb797b87c32e8dadcb3dd3d0611eeb323fda7", func := "hourglass/hourglasslaw09.DirectOrder", spec := "directOrder", unfollowed := true, recurses := true, named := ["hourglass/sha.first", "hourglass/sha.steady"], plainKeys := false, apart := false, laid := [("hourglass/sha.first", laid_hourglass_sha_first), ("hourglass/sha.steady", laid_hourglass_sha_steady)] }
def DirectOrderSaid : Prop := directOrderRow.holds Tryd.pinned (OpenSpec.ofChange directOrderSpec)

/-- ITS FALSE NEIGHBOUR: 'it returns false'. Refute it at one input. -/
def directOrderWrong : ChangeSpec := { name := "directOrder", fn := fun _ => fun
  | [d] => { results := [.lit (.bool false)], args := [d] }
  | _ => none }
def DirectOrderWrongFalsely : Prop := directOrderRow.holds Tryd.pinned (OpenSpec.ofChange directOrderWrong)

/-- 'hourglasslaw09.DirectSpan': WHATEVER THE INPUT: true; the input reads as it did. -/
def directSpanSpec : ChangeSpec := { name := "directSpan", fn := fun _ => fun
  | [d1, d2] => { results := [.lit (.bool true)], args := [d1, d2] }
  | _ => none }
def directSpanRow : OpenClaim := { program := "ytnmpfbffacljfaadoor", sum := "40c581dfd7b74c1ae4e489bc2d5cb797b87c32e8dadcb3dd3d0611eeb323fda7", func := "hourglass/hourglasslaw09.DirectSpan", spec := "directSpan", unfollowed := true, recurses := true, named := ["hourglass/sha.first", "hourglass/sha.steady"], plainKeys := false, apart := false, laid := [("hourglass/sha.first", laid_hourglass_sha_first), ("hourglass/sha.steady", laid_hourglass_sha_steady)] }
def DirectSpanSaid : Prop := directSpanRow.holds Tryd.pinned (OpenSpec.ofChange directSpanSpec)

/-- ITS FALSE NEIGHBOUR: 'it returns false'. Refute it at one input. -/
def directSpanWrong : ChangeSpec := { name := "directSpan", fn := fun _ => fun
  | [d1, d2] => { results := [.lit (.bool false)], args := [d1, d2] }
  | _ => none }
def DirectSpanWrongFalsely : Prop := directSpanRow.holds Tryd.pinned (OpenSpec.ofChange directSpanWrong)

/-- 'hourglasslaw09.DirectApart': WHATEVER THE INPUT: true; the input reads as it did. -/
def directApartSpec : ChangeSpec := { name := "directApart", fn := fun _ => fun
  | [d1, d2, d3] => { results := [.lit (.bool true)], args := [d1, d2, d3] }
  | _ => none }
def directApartRow : OpenClaim := { program := "ytnmpfbffacljfaadoor", sum := "40c581dfd7b74c1ae4e489bc2d5cb797b87c32e8dadcb3dd3d0611eeb323fda7", func := "hourglass/hourglasslaw09.DirectApart", spec := "directApart", unfollowed := true, recurses := true, named := ["hourglass/sha.first", "hourglass/sha.steady"], plainKeys := false, apart := false, laid := [("hourglass/sha.first", laid_hourglass_sha_first), ("hourglass/sha.steady", laid_hourglass_sha_steady)] }
def DirectApartSaid : Prop := directApartRow.holds Tryd.pinned (OpenSpec.ofChange directApartSpec)

/-- ITS FALSE NEIGHBOUR: 'it returns false'. Refute it at one input. -/
def directApartWrong : ChangeSpec := { name := "directApart", fn := fun _ => fun
  | [d1, d2, d3] => { results := [.lit (.bool false)], args := [d1, d2, d3] }
  | _ => none }
def DirectApartWrongFalsely : Prop := directApartRow.holds Tryd.pinned (OpenSpec.ofChange directApartWrong)

/-- 'hourglasslaw09.DirectFull': WHATEVER THE INPUT: true; the input reads as it did. -/
def directFullSpec : ChangeSpec := { name := "directFull", fn := fun _ => fun
  | [d1, d2] => { results := [.lit (.bool true)], args := [d1, d2] }
  | _ => none }
def directFullRow : OpenClaim := { program := "ytnmpfbffacljfaadoor", sum := "40c581dfd7b74c1ae4e489bc2d5cb797b87c32e8dadcb3dd3d0611eeb323fda7", func := "hourglass/hourglasslaw09.DirectFull", spec := "directFull", unfollowed := true, recurses := true, named := ["hourglass/sha.first", "hourglass/sha.steady"], plainKeys := false, apart := false, laid := [("hourglass/sha.first", laid_hourglass_sha_first), ("hourglass/sha.steady", laid_hourglass_sha_steady)] }
def DirectFullSaid : Prop := directFullRow.holds Tryd.pinned (OpenSpec.ofChange directFullSpec)

/-- ITS FALSE NEIGHBOUR: 'it returns false'. Refute it at one input. -/
def directFullWrong : ChangeSpec := { name := "directFull", fn := fun _ => fun
  | [d1, d2] => { results := [.lit (.bool false)], args := [d1, d2] }
  | _ => none }
def DirectFullWrongFalsely : Prop := directFullRow.holds Tryd.pinned (OpenSpec.ofChange directFullWrong)

/-- 'hourglasslaw09.DirectOwn': WHATEVER THE INPUT: true; the input reads as it did. -/
def directOwnSpec : ChangeSpec := { name := "directOwn", fn := fun _ => fun
  | [d1, d2] => { results := [.lit (.bool true)], args := [d1, d2] }
  | _ => none }
def directOwnRow : OpenClaim := { program := "ytnmpfbffacljfaadoor", sum := "40c581dfd7b74c1ae4e489bc2d5cb797b87c32e8dadcb3dd3d0611eeb323fda7", func := "hourglass/hourglasslaw09.DirectOwn", spec := "directOwn", unfollowed := true, recurses := true, named := ["hourglass/sha.first", "hourglass/sha.steady"], plainKeys := false, apart := false, laid := [("hourglass/sha.first", laid_hourglass_sha_first), ("hourglass/sha.steady", laid_hourglass_sha_steady)] }
def DirectOwnSaid : Prop := directOwnRow.holds Tryd.pinned (OpenSpec.ofChange directOwnSpec)

/-- ITS FALSE NEIGHBOUR: 'it returns false'. Refute it at one input. -/
def directOwnWrong : ChangeSpec := { name := "directOwn", fn := fun _ => fun
  | [d1, d2] => { results := [.lit (.bool false)], args := [d1, d2] }
  | _ => none }
def DirectOwnWrongFalsely : Prop := directOwnRow.holds Tryd.pinned (OpenSpec.ofChange directOwnWrong)

/-- 'hourglasslaw09.DirectRow': WHATEVER THE INPUT: true; the input reads as it did. -/
def directRowSpec : ChangeSpec := { name := "directRow", fn := fun _ => fun
  | [d1, d2, d3] => { results := [.lit (.bool true)], args := [d1, d2, d3] }
  | _ => none }
def directRowRow : OpenClaim := { program := "ytnmpfbffacljfaadoor", sum := "40c581dfd7b74c1ae4e489bc2d5cb797b87c32e8dadcb3dd3d0611eeb323fda7", func := "hourglass/hourglasslaw09.DirectRow", spec := "directRow", unfollowed := true, recurses := true, named := ["hourglass/sha.first", "hourglass/sha.steady"], plainKeys := false, apart := false, laid := [("hourglass/sha.first", laid_hourglass_sha_first), ("hourglass/sha.steady", laid_hourglass_sha_steady)] }
def DirectRowSaid : Prop := directRowRow.holds Tryd.pinned (OpenSpec.ofChange directRowSpec)

/-- ITS FALSE NEIGHBOUR: 'it returns false'. Refute it at one input. -/
def directRowWrong : ChangeSpec := { name := "directRow", fn := fun _ => fun
  | [d1, d2, d3] => { results := [.lit (.bool false)], args := [d1, d2, d3] }
  | _ => none }
def DirectRowWrongFalsely : Prop := directRowRow.holds Tryd.pinned (OpenSpec.ofChange directRowWrong)

/-- 'hourglasslaw09.DirectLoaded': WHATEVER THE INPUT: true; the input reads as it did. -/
def directLoadedSpec : ChangeSpec := { name := "directLoaded", fn := fun _ => fun
  | [d1, d2, d3] => { results := [.lit (.bool true)], args := [d1, d2, d3] }
  | _ => none }
def directLoadedRow : OpenClaim := { program := "ytnmpfbffacljfaadoor", sum := "40c581dfd7b74c1ae4e489bc2d5cb797b87c32e8dadcb3dd3d0611eeb323fda7", func := "hourglass/hourglasslaw09.DirectLoaded", spec := "directLoaded", unfollowed := true, recurses := true, named := ["hourglass/sha.first", "hourglass/sha.steady"], plainKeys := false, apart := false, laid := [("hourglass/sha.first", laid_hourglass_sha_first), ("hourglass/sha.steady", laid_hourglass_sha_steady)] }
def DirectLoadedSaid : Prop := directLoadedRow.holds Tryd.pinned (OpenSpec.ofChange directLoadedSpec)

/-- ITS FALSE NEIGHBOUR: 'it returns false'. Refute it at one input. -/
def directLoadedWrong : ChangeSpec := { name := "directLoaded", fn := fun _ => fun
  | [d1, d2, d3] => { results := [.lit (.bool false)], args := [d1, d2, d3] }
  | _ => none }
def DirectLoadedWrongFalsely : Prop := directLoadedRow.holds Tryd.pinned (OpenSpec.ofChange directLoadedWrong)

/- THE SECOND FORM. 'bulk': how many values and letters a reading holds, each counted each time it is reached (what is shared counts as often as it is met; a slice's spare places count too). A statement '..UptoSaid' is the law's where the arguments, and the package variables that the reading takes, are together of bulk at most 1048576: NARROWER than '..Said'. Prove '..Said' where nothing that the law and all that it calls make is longer than what came in: it says more and counts as full. Else prove '..UptoSaid'. A law counts once. -/
mutual
def uptoBulk {H : Type} : DataW H → Nat
  | .lit (.string bytes) => bytes.length + 1
  | .lit _ => 1
  | .nil => 1
  | .ptr d => uptoBulk d + 1
  | .slice elems spare => uptoBulkAll elems + uptoBulkAll spare + 1
  | .agg parts => uptoBulkAll parts + 1
  | .iface _ d => uptoBulk d + 1
  | .map entries => uptoBulkEntries entries + 1
  | .held _ => 1
def uptoBulkAll {H : Type} : List (DataW H) → Nat
  | [] => 0
  | d :: r => uptoBulk d + uptoBulkAll r
def uptoBulkEntries {H : Type} : List (Lit × DataW H) → Nat
  | [] => 0
  | x :: r => uptoBulkEntry x + uptoBulkEntries r
def uptoBulkEntry {H : Type} : Lit × DataW H → Nat
  | (.string bytes, d) => bytes.length + uptoBulk d + 1
  | (_, d) => uptoBulk d + 1
 end
def uptoSmall : (H : Type) → List (DataW H) → Bool := fun _ ds => decide (uptoBulkAll ds ≤ 1048576)
def OpenSpec.upto (s : _root_.Go.ChangeSpec) : _root_.Go.OpenSpec := { _root_.Go.OpenSpec.ofChange s with cond := some uptoSmall }

/-- 'hourglasslaw09.DirectPlays', WHERE WHAT IT READS IS OF BULK AT MOST 1048576: true; the input reads as it did. -/
def directPlaysUptoRow : OpenClaim := { program := "ytnmpfbffacljfaadoor", sum := "40c581dfd7b74c1ae4e489bc2d5cb797b87c32e8dadcb3dd3d0611eeb323fda7", func := "hourglass/hourglasslaw09.DirectPlays", spec := "directPlays", unfollowed := true, recurses := true, named := ["hourglass/sha.first", "hourglass/sha.steady"], plainKeys := false, apart := false, laid := [("hourglass/sha.first", laid_hourglass_sha_first), ("hourglass/sha.steady", laid_hourglass_sha_steady)], narrowed := true }
def DirectPlaysUptoSaid : Prop := directPlaysUptoRow.holds Tryd.pinned (OpenSpec.upto directPlaysSpec)

/-- 'hourglasslaw09.DirectLoads', WHERE WHAT IT READS IS OF BULK AT MOST 1048576: true; the input reads as it did. -/
def directLoadsUptoRow : OpenClaim := { program := "ytnmpfbffacljfaadoor", sum := "40c581dfd7b74c1ae4e489bc2d5cb797b87c32e8dadcb3dd3d0611eeb323fda7", func := "hourglass/hourglasslaw09.DirectLoads", spec := "directLoads", unfollowed := true, recurses := true, named := ["hourglass/sha.first", "hourglass/sha.steady"], plainKeys := false, apart := false, laid := [("hourglass/sha.first", laid_hourglass_sha_first), ("hourglass/sha.steady", laid_hourglass_sha_steady)], narrowed := true }
def DirectLoadsUptoSaid : Prop := directLoadsUptoRow.holds Tryd.pinned (OpenSpec.upto directLoadsSpec)

/-- 'hourglasslaw09.DirectOnce', WHERE WHAT IT READS IS OF BULK AT MOST 1048576: true; the input reads as it did. -/
def directOnceUptoRow : OpenClaim := { program := "ytnmpfbffacljfaadoor", sum := "40c581dfd7b74c1ae4e489bc2d5cb797b87c32e8dadcb3dd3d0611eeb323fda7", func := "hourglass/hourglasslaw09.DirectOnce", spec := "directOnce", unfollowed := true, recurses := true, named := ["hourglass/sha.first", "hourglass/sha.steady"], plainKeys := false, apart := false, laid := [("hourglass/sha.first", laid_hourglass_sha_first), ("hourglass/sha.steady", laid_hourglass_sha_steady)], narrowed := true }
def DirectOnceUptoSaid : Prop := directOnceUptoRow.holds Tryd.pinned (OpenSpec.upto directOnceSpec)

/-- 'hourglasslaw09.DirectOrder', WHERE WHAT IT READS IS OF BULK AT MOST 1048576: true; the input reads as it did. -/
def directOrderUptoRow : OpenClaim := { program := "ytnmpfbffacljfaadoor", sum := "40c581dfd7b74c1ae4e489bc2d5cb797b87c32e8dadcb3dd3d0611eeb323fda7", func := "hourglass/hourglasslaw09.DirectOrder", spec := "directOrder", unfollowed := true, recurses := true, named := ["hourglass/sha.first", "hourglass/sha.steady"], plainKeys := false, apart := false, laid := [("hourglass/sha.first", laid_hourglass_sha_first), ("hourglass/sha.steady", laid_hourglass_sha_steady)], narrowed := true }
def DirectOrderUptoSaid : Prop := directOrderUptoRow.holds Tryd.pinned (OpenSpec.upto directOrderSpec)

/-- 'hourglasslaw09.DirectSpan', WHERE WHAT IT READS IS OF BULK AT MOST 1048576: true; the input reads as it did. -/
def directSpanUptoRow : OpenClaim := { program := "ytnmpfbffacljfaadoor", sum := "40c581dfd7b74c1ae4e489bc2d5cb797b87c32e8dadcb3dd3d0611eeb323fda7", func := "hourglass/hourglasslaw09.DirectSpan", spec := "directSpan", unfollowed := true, recurses := true, named := ["hourglass/sha.first", "hourglass/sha.steady"], plainKeys := false, apart := false, laid := [("hourglass/sha.first", laid_hourglass_sha_first), ("hourglass/sha.steady", laid_hourglass_sha_steady)], narrowed := true }
def DirectSpanUptoSaid : Prop := directSpanUptoRow.holds Tryd.pinned (OpenSpec.upto directSpanSpec)

/-- 'hourglasslaw09.DirectApart', WHERE WHAT IT READS IS OF BULK AT MOST 1048576: true; the input reads as it did. -/
def directApartUptoRow : OpenClaim := { program := "ytnmpfbffacljfaadoor", sum := "40c581dfd7b74c1ae4e489bc2d5cb797b87c32e8dadcb3dd3d0611eeb323fda7", func := "hourglass/hourglasslaw09.DirectApart", spec := "directApart", unfollowed := true, recurses := true, named := ["hourglass/sha.first", "hourglass/sha.steady"], plainKeys := false, apart := false, laid := [("hourglass/sha.first", laid_hourglass_sha_first), ("hourglass/sha.steady", laid_hourglass_sha_steady)], narrowed := true }
def DirectApartUptoSaid : Prop := directApartUptoRow.holds Tryd.pinned (OpenSpec.upto directApartSpec)

/-- 'hourglasslaw09.DirectFull', WHERE WHAT IT READS IS OF BULK AT MOST 1048576: true; the input reads as it did. -/
def directFullUptoRow : OpenClaim := { program := "ytnmpfbffacljfaadoor", sum := "40c581dfd7b74c1ae4e489bc2d5cb797b87c32e8dadcb3dd3d0611eeb323fda7", func := "hourglass/hourglasslaw09.DirectFull", spec := "directFull", unfollowed := true, recurses := true, named := ["hourglass/sha.first", "hourglass/sha.steady"], plainKeys := false, apart := false, laid := [("hourglass/sha.first", laid_hourglass_sha_first), ("hourglass/sha.steady", laid_hourglass_sha_steady)], narrowed := true }
def DirectFullUptoSaid : Prop := directFullUptoRow.holds Tryd.pinned (OpenSpec.upto directFullSpec)

/-- 'hourglasslaw09.DirectOwn', WHERE WHAT IT READS IS OF BULK AT MOST 1048576: true; the input reads as it did. -/
def directOwnUptoRow : OpenClaim := { program := "ytnmpfbffacljfaadoor", sum := "40c581dfd7b74c1ae4e489bc2d5cb797b87c32e8dadcb3dd3d0611eeb323fda7", func := "hourglass/hourglasslaw09.DirectOwn", spec := "directOwn", unfollowed := true, recurses := true, named := ["hourglass/sha.first", "hourglass/sha.steady"], plainKeys := false, apart := false, laid := [("hourglass/sha.first", laid_hourglass_sha_first), ("hourglass/sha.steady", laid_hourglass_sha_steady)], narrowed := true }
def DirectOwnUptoSaid : Prop := directOwnUptoRow.holds Tryd.pinned (OpenSpec.upto directOwnSpec)

/-- 'hourglasslaw09.DirectRow', WHERE WHAT IT READS IS OF BULK AT MOST 1048576: true; the input reads as it did. -/
def directRowUptoRow : OpenClaim := { program := "ytnmpfbffacljfaadoor", sum := "40c581dfd7b74c1ae4e489bc2d5cb797b87c32e8dadcb3dd3d0611eeb323fda7", func := "hourglass/hourglasslaw09.DirectRow", spec := "directRow", unfollowed := true, recurses := true, named := ["hourglass/sha.first", "hourglass/sha.steady"], plainKeys := false, apart := false, laid := [("hourglass/sha.first", laid_hourglass_sha_first), ("hourglass/sha.steady", laid_hourglass_sha_steady)], narrowed := true }
def DirectRowUptoSaid : Prop := directRowUptoRow.holds Tryd.pinned (OpenSpec.upto directRowSpec)

/-- 'hourglasslaw09.DirectLoaded', WHERE WHAT IT READS IS OF BULK AT MOST 1048576: true; the input reads as it did. -/
def directLoadedUptoRow : OpenClaim := { program := "ytnmpfbffacljfaadoor", sum := "40c581dfd7b74c1ae4e489bc2d5cb797b87c32e8dadcb3dd3d0611eeb323fda7", func := "hourglass/hourglasslaw09.DirectLoaded", spec := "directLoaded", unfollowed := true, recurses := true, named := ["hourglass/sha.first", "hourglass/sha.steady"], plainKeys := false, apart := false, laid := [("hourglass/sha.first", laid_hourglass_sha_first), ("hourglass/sha.steady", laid_hourglass_sha_steady)], narrowed := true }
def DirectLoadedUptoSaid : Prop := directLoadedUptoRow.holds Tryd.pinned (OpenSpec.upto directLoadedSpec)

end Rows
end Go.Proofs.YtnmpfbffacljfaaDoor
