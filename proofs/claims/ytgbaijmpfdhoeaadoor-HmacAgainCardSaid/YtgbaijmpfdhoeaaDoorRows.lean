/-
  NARROWER THAN 'FOR EVERY INPUT', by the rows' own cells (each row's printed sentence says how): HmacSame: laid · HmacRecipe: laid · HmacTells: laid · HmacParts: laid · HmacDerives: laid · HmacLabels: laid · HmacAgain: laid · HmacChain: laid.
  DERIVED. THE GIVEN ROWS OF THIS SEAT. 8 by the template 'for every input the law returns true; each argument reads behind the call as it read before'; 0 by the template 'total and deterministic' (their statements: YtgbaijmpfdhoeaaDoorTotals.lean).
  GIVEN WITH THE SEED: the statements are not yours to turn. If you find one false, say at which input.
  Laid BY PROGRAM, IN A SANDBOX (cutbox-rows.mjs): the forced cells as the released guide's own fill.sh prints them over the translation ff5edd3607944cb2… (all of the seat's roots in one cut). By AI agents, Wed Nov 11 2026. No macro, syntax, notation, axiom, sorry.
-/
import Derived.Test.YtgbaijmpfdhoeaaDoorChecked
import GoSem.Claim
import GoSem.ClaimJoined
import GoSem.ClaimMapViews
import Derived.JoinedTies
import Derived.KernelRfl
namespace Go.Proofs.YtgbaijmpfdhoeaaDoor
/- THE CELL 'sum', in the pinned program and in every row, IS THE sha256 OF THE DUMP (.gsa) THAT YtgbaijmpfdhoeaaDoorProg.lean LOADS. Nothing in Lean hashes anything: it is a label: what it is worth is what the hold of that sum in a sandbox is worth. -/
noncomputable def Tryd.pinned : Pinned := { name := "ytgbaijmpfdhoeaadoor", sum := "ff5edd3607944cb21c1328c120d546f7a13a7e9b913718d9acb5253f79650492", checked := Tryd.checked }
namespace Rows
def none {H : Type} : Left H := { results := [], args := [] }

/- WHAT THE LISTED PACKAGE-LEVEL VARIABLES READ AS WHEN THE CALL BEGINS. Each datum BY PROGRAM (the guide's laid-datum.mjs) off the statement by which the dump's own 'gosem.cut.vars' lays the variable. In a bare row this is a premise. The card (YtgbaijmpfdhoeaaDoorCards.lean) ties it to the program's text. -/
def laid_hourglass_sha_first {H : Type} : DataW H := .agg [.lit (.int .u32 1779033703), .lit (.int .u32 3144134277), .lit (.int .u32 1013904242), .lit (.int .u32 2773480762), .lit (.int .u32 1359893119), .lit (.int .u32 2600822924), .lit (.int .u32 528734635), .lit (.int .u32 1541459225)]
def laid_hourglass_sha_steady {H : Type} : DataW H := .agg [.lit (.int .u32 1116352408), .lit (.int .u32 1899447441), .lit (.int .u32 3049323471), .lit (.int .u32 3921009573), .lit (.int .u32 961987163), .lit (.int .u32 1508970993), .lit (.int .u32 2453635748), .lit (.int .u32 2870763221), .lit (.int .u32 3624381080), .lit (.int .u32 310598401), .lit (.int .u32 607225278), .lit (.int .u32 1426881987), .lit (.int .u32 1925078388), .lit (.int .u32 2162078206), .lit (.int .u32 2614888103), .lit (.int .u32 3248222580), .lit (.int .u32 3835390401), .lit (.int .u32 4022224774), .lit (.int .u32 264347078), .lit (.int .u32 604807628), .lit (.int .u32 770255983), .lit (.int .u32 1249150122), .lit (.int .u32 1555081692), .lit (.int .u32 1996064986), .lit (.int .u32 2554220882), .lit (.int .u32 2821834349), .lit (.int .u32 2952996808), .lit (.int .u32 3210313671), .lit (.int .u32 3336571891), .lit (.int .u32 3584528711), .lit (.int .u32 113926993), .lit (.int .u32 338241895), .lit (.int .u32 666307205), .lit (.int .u32 773529912), .lit (.int .u32 1294757372), .lit (.int .u32 1396182291), .lit (.int .u32 1695183700), .lit (.int .u32 1986661051), .lit (.int .u32 2177026350), .lit (.int .u32 2456956037), .lit (.int .u32 2730485921), .lit (.int .u32 2820302411), .lit (.int .u32 3259730800), .lit (.int .u32 3345764771), .lit (.int .u32 3516065817), .lit (.int .u32 3600352804), .lit (.int .u32 4094571909), .lit (.int .u32 275423344), .lit (.int .u32 430227734), .lit (.int .u32 506948616), .lit (.int .u32 659060556), .lit (.int .u32 883997877), .lit (.int .u32 958139571), .lit (.int .u32 1322822218), .lit (.int .u32 1537002063), .lit (.int .u32 1747873779), .lit (.int .u32 1955562222), .lit (.int .u32 2024104815), .lit (.int .u32 2227730452), .lit (.int .u32 2361852424), .lit (.int .u32 2428436474), .lit (.int .u32 2756734187), .lit (.int .u32 3204031479), .lit (.int .u32 3329325298)]

/-- 'hourglasslaw04.HmacSame': WHATEVER THE INPUT: true; the input reads as it did. -/
def hmacSameSpec : ChangeSpec := { name := "hmacSame", fn := fun _ => fun
  | [d1, d2, d3, d4] => { results := [.lit (.bool true)], args := [d1, d2, d3, d4] }
  | _ => none }
def hmacSameRow : OpenClaim := { program := "ytgbaijmpfdhoeaadoor", sum := "ff5edd3607944cb21c1328c120d546f7a13a7e9b913718d9acb5253f79650492", func := "hourglass/hourglasslaw04.HmacSame", spec := "hmacSame", named := ["hourglass/sha.first", "hourglass/sha.steady"], apart := false, laid := [("hourglass/sha.first", laid_hourglass_sha_first), ("hourglass/sha.steady", laid_hourglass_sha_steady)] }
def HmacSameSaid : Prop := hmacSameRow.holds Tryd.pinned (OpenSpec.ofChange hmacSameSpec)

/-- ITS FALSE NEIGHBOUR: 'it returns false'. Refute it at one input. -/
def hmacSameWrong : ChangeSpec := { name := "hmacSame", fn := fun _ => fun
  | [d1, d2, d3, d4] => { results := [.lit (.bool false)], args := [d1, d2, d3, d4] }
  | _ => none }
def HmacSameWrongFalsely : Prop := hmacSameRow.holds Tryd.pinned (OpenSpec.ofChange hmacSameWrong)

/-- 'hourglasslaw04.HmacRecipe': WHATEVER THE INPUT: true; the input reads as it did. -/
def hmacRecipeSpec : ChangeSpec := { name := "hmacRecipe", fn := fun _ => fun
  | [d1, d2] => { results := [.lit (.bool true)], args := [d1, d2] }
  | _ => none }
def hmacRecipeRow : OpenClaim := { program := "ytgbaijmpfdhoeaadoor", sum := "ff5edd3607944cb21c1328c120d546f7a13a7e9b913718d9acb5253f79650492", func := "hourglass/hourglasslaw04.HmacRecipe", spec := "hmacRecipe", named := ["hourglass/sha.first", "hourglass/sha.steady"], apart := false, laid := [("hourglass/sha.first", laid_hourglass_sha_first), ("hourglass/sha.steady", laid_hourglass_sha_steady)] }
def HmacRecipeSaid : Prop := hmacRecipeRow.holds Tryd.pinned (OpenSpec.ofChange hmacRecipeSpec)

/-- ITS FALSE NEIGHBOUR: 'it returns false'. Refute it at one input. -/
def hmacRecipeWrong : ChangeSpec := { name := "hmacRecipe", fn := fun _ => fun
  | [d1, d2] => { results := [.lit (.bool false)], args := [d1, d2] }
  | _ => none }
def HmacRecipeWrongFalsely : Prop := hmacRecipeRow.holds Tryd.pinned (OpenSpec.ofChange hmacRecipeWrong)

/-- 'hourglasslaw04.HmacTells': WHATEVER THE INPUT: true; the input reads as it did. -/
def hmacTellsSpec : ChangeSpec := { name := "hmacTells", fn := fun _ => fun
  | [d1, d2, d3] => { results := [.lit (.bool true)], args := [d1, d2, d3] }
  | _ => none }
def hmacTellsRow : OpenClaim := { program := "ytgbaijmpfdhoeaadoor", sum := "ff5edd3607944cb21c1328c120d546f7a13a7e9b913718d9acb5253f79650492", func := "hourglass/hourglasslaw04.HmacTells", spec := "hmacTells", named := ["hourglass/sha.first", "hourglass/sha.steady"], apart := false, laid := [("hourglass/sha.first", laid_hourglass_sha_first), ("hourglass/sha.steady", laid_hourglass_sha_steady)] }
def HmacTellsSaid : Prop := hmacTellsRow.holds Tryd.pinned (OpenSpec.ofChange hmacTellsSpec)

/-- ITS FALSE NEIGHBOUR: 'it returns false'. Refute it at one input. -/
def hmacTellsWrong : ChangeSpec := { name := "hmacTells", fn := fun _ => fun
  | [d1, d2, d3] => { results := [.lit (.bool false)], args := [d1, d2, d3] }
  | _ => none }
def HmacTellsWrongFalsely : Prop := hmacTellsRow.holds Tryd.pinned (OpenSpec.ofChange hmacTellsWrong)

/-- 'hourglasslaw04.HmacParts': WHATEVER THE INPUT: true; the input reads as it did. -/
def hmacPartsSpec : ChangeSpec := { name := "hmacParts", fn := fun _ => fun
  | [d1, d2, d3] => { results := [.lit (.bool true)], args := [d1, d2, d3] }
  | _ => none }
def hmacPartsRow : OpenClaim := { program := "ytgbaijmpfdhoeaadoor", sum := "ff5edd3607944cb21c1328c120d546f7a13a7e9b913718d9acb5253f79650492", func := "hourglass/hourglasslaw04.HmacParts", spec := "hmacParts", named := ["hourglass/sha.first", "hourglass/sha.steady"], apart := false, laid := [("hourglass/sha.first", laid_hourglass_sha_first), ("hourglass/sha.steady", laid_hourglass_sha_steady)] }
def HmacPartsSaid : Prop := hmacPartsRow.holds Tryd.pinned (OpenSpec.ofChange hmacPartsSpec)

/-- ITS FALSE NEIGHBOUR: 'it returns false'. Refute it at one input. -/
def hmacPartsWrong : ChangeSpec := { name := "hmacParts", fn := fun _ => fun
  | [d1, d2, d3] => { results := [.lit (.bool false)], args := [d1, d2, d3] }
  | _ => none }
def HmacPartsWrongFalsely : Prop := hmacPartsRow.holds Tryd.pinned (OpenSpec.ofChange hmacPartsWrong)

/-- 'hourglasslaw04.HmacDerives': WHATEVER THE INPUT: true; the input reads as it did. -/
def hmacDerivesSpec : ChangeSpec := { name := "hmacDerives", fn := fun _ => fun
  | [d1, d2, d3] => { results := [.lit (.bool true)], args := [d1, d2, d3] }
  | _ => none }
def hmacDerivesRow : OpenClaim := { program := "ytgbaijmpfdhoeaadoor", sum := "ff5edd3607944cb21c1328c120d546f7a13a7e9b913718d9acb5253f79650492", func := "hourglass/hourglasslaw04.HmacDerives", spec := "hmacDerives", named := ["hourglass/sha.first", "hourglass/sha.steady"], apart := false, laid := [("hourglass/sha.first", laid_hourglass_sha_first), ("hourglass/sha.steady", laid_hourglass_sha_steady)] }
def HmacDerivesSaid : Prop := hmacDerivesRow.holds Tryd.pinned (OpenSpec.ofChange hmacDerivesSpec)

/-- ITS FALSE NEIGHBOUR: 'it returns false'. Refute it at one input. -/
def hmacDerivesWrong : ChangeSpec := { name := "hmacDerives", fn := fun _ => fun
  | [d1, d2, d3] => { results := [.lit (.bool false)], args := [d1, d2, d3] }
  | _ => none }
def HmacDerivesWrongFalsely : Prop := hmacDerivesRow.holds Tryd.pinned (OpenSpec.ofChange hmacDerivesWrong)

/-- 'hourglasslaw04.HmacLabels': WHATEVER THE INPUT: true; the input reads as it did. -/
def hmacLabelsSpec : ChangeSpec := { name := "hmacLabels", fn := fun _ => fun
  | [d1, d2, d3, d4] => { results := [.lit (.bool true)], args := [d1, d2, d3, d4] }
  | _ => none }
def hmacLabelsRow : OpenClaim := { program := "ytgbaijmpfdhoeaadoor", sum := "ff5edd3607944cb21c1328c120d546f7a13a7e9b913718d9acb5253f79650492", func := "hourglass/hourglasslaw04.HmacLabels", spec := "hmacLabels", named := ["hourglass/sha.first", "hourglass/sha.steady"], apart := false, laid := [("hourglass/sha.first", laid_hourglass_sha_first), ("hourglass/sha.steady", laid_hourglass_sha_steady)] }
def HmacLabelsSaid : Prop := hmacLabelsRow.holds Tryd.pinned (OpenSpec.ofChange hmacLabelsSpec)

/-- ITS FALSE NEIGHBOUR: 'it returns false'. Refute it at one input. -/
def hmacLabelsWrong : ChangeSpec := { name := "hmacLabels", fn := fun _ => fun
  | [d1, d2, d3, d4] => { results := [.lit (.bool false)], args := [d1, d2, d3, d4] }
  | _ => none }
def HmacLabelsWrongFalsely : Prop := hmacLabelsRow.holds Tryd.pinned (OpenSpec.ofChange hmacLabelsWrong)

/-- 'hourglasslaw04.HmacAgain': WHATEVER THE INPUT: true; the input reads as it did. -/
def hmacAgainSpec : ChangeSpec := { name := "hmacAgain", fn := fun _ => fun
  | [d1, d2, d3] => { results := [.lit (.bool true)], args := [d1, d2, d3] }
  | _ => none }
def hmacAgainRow : OpenClaim := { program := "ytgbaijmpfdhoeaadoor", sum := "ff5edd3607944cb21c1328c120d546f7a13a7e9b913718d9acb5253f79650492", func := "hourglass/hourglasslaw04.HmacAgain", spec := "hmacAgain", named := ["hourglass/sha.first", "hourglass/sha.steady"], apart := false, laid := [("hourglass/sha.first", laid_hourglass_sha_first), ("hourglass/sha.steady", laid_hourglass_sha_steady)] }
def HmacAgainSaid : Prop := hmacAgainRow.holds Tryd.pinned (OpenSpec.ofChange hmacAgainSpec)

/-- ITS FALSE NEIGHBOUR: 'it returns false'. Refute it at one input. -/
def hmacAgainWrong : ChangeSpec := { name := "hmacAgain", fn := fun _ => fun
  | [d1, d2, d3] => { results := [.lit (.bool false)], args := [d1, d2, d3] }
  | _ => none }
def HmacAgainWrongFalsely : Prop := hmacAgainRow.holds Tryd.pinned (OpenSpec.ofChange hmacAgainWrong)

/-- 'hourglasslaw04.HmacChain': WHATEVER THE INPUT: true; the input reads as it did. -/
def hmacChainSpec : ChangeSpec := { name := "hmacChain", fn := fun _ => fun
  | [d1, d2, d3, d4] => { results := [.lit (.bool true)], args := [d1, d2, d3, d4] }
  | _ => none }
def hmacChainRow : OpenClaim := { program := "ytgbaijmpfdhoeaadoor", sum := "ff5edd3607944cb21c1328c120d546f7a13a7e9b913718d9acb5253f79650492", func := "hourglass/hourglasslaw04.HmacChain", spec := "hmacChain", named := ["hourglass/sha.first", "hourglass/sha.steady"], apart := false, laid := [("hourglass/sha.first", laid_hourglass_sha_first), ("hourglass/sha.steady", laid_hourglass_sha_steady)] }
def HmacChainSaid : Prop := hmacChainRow.holds Tryd.pinned (OpenSpec.ofChange hmacChainSpec)

/-- ITS FALSE NEIGHBOUR: 'it returns false'. Refute it at one input. -/
def hmacChainWrong : ChangeSpec := { name := "hmacChain", fn := fun _ => fun
  | [d1, d2, d3, d4] => { results := [.lit (.bool false)], args := [d1, d2, d3, d4] }
  | _ => none }
def HmacChainWrongFalsely : Prop := hmacChainRow.holds Tryd.pinned (OpenSpec.ofChange hmacChainWrong)

/- THE SECOND FORM. 'bulk': how many values and letters a reading holds, each counted each time it is reached (what is shared counts as often as it is met; a slice's spare places count too). A statement '..UptoSaid' is the law's where the arguments, and the package variables that the reading takes, are together of bulk at most 1048576: NARROWER than '..Said'. Prove '..Said' where nothing that the law and all that it calls make is longer than what came in: it says more and counts as full. Else prove '..UptoSaid'. A law counts once. -/
mutual
def uptoBulk {H : Type} : DataW H → Nat
  | .lit (.string bytes) => bytes.length + 1
  | .lit _ => 1
  | .nil => 1
  | .ptr d => uptoBulk d + 1
  | .slice elems spare => uptoBulkAll elems + uptoBulkAll spare + 1
  | .agg parts => uptoBulkAll parts + 1
  | .iface _ d => uptoBulk d + 1
  | .map entries => uptoBulkEntries entries + 1
  | .held _ => 1
def uptoBulkAll {H : Type} : List (DataW H) → Nat
  | [] => 0
  | d :: r => uptoBulk d + uptoBulkAll r
def uptoBulkEntries {H : Type} : List (Lit × DataW H) → Nat
  | [] => 0
  | x :: r => uptoBulkEntry x + uptoBulkEntries r
def uptoBulkEntry {H : Type} : Lit × DataW H → Nat
  | (.string bytes, d) => bytes.length + uptoBulk d + 1
  | (_, d) => uptoBulk d + 1
 end
def uptoSmall : (H : Type) → List (DataW H) → Bool := fun _ ds => decide (uptoBulkAll ds ≤ 1048576)
def OpenSpec.upto (s : _root_.Go.ChangeSpec) : _root_.Go.OpenSpec := { _root_.Go.OpenSpec.ofChange s with cond := some uptoSmall }

/-- 'hourglasslaw04.HmacSame', WHERE WHAT IT READS IS OF BULK AT MOST 1048576: true; the input reads as it did. -/
def hmacSameUptoRow : OpenClaim := { program := "ytgbaijmpfdhoeaadoor", sum := "ff5edd3607944cb21c1328c120d546f7a13a7e9b913718d9acb5253f79650492", func := "hourglass/hourglasslaw04.HmacSame", spec := "hmacSame", named := ["hourglass/sha.first", "hourglass/sha.steady"], apart := false, laid := [("hourglass/sha.first", laid_hourglass_sha_first), ("hourglass/sha.steady", laid_hourglass_sha_steady)], narrowed := true }
def HmacSameUptoSaid : Prop := hmacSameUptoRow.holds Tryd.pinned (OpenSpec.upto hmacSameSpec)

/-- 'hourglasslaw04.HmacRecipe', WHERE WHAT IT READS IS OF BULK AT MOST 1048576: true; the input reads as it did. -/
def hmacRecipeUptoRow : OpenClaim := { program := "ytgbaijmpfdhoeaadoor", sum := "ff5edd3607944cb21c1328c120d546f7a13a7e9b913718d9acb5253f79650492", func := "hourglass/hourglasslaw04.HmacRecipe", spec := "hmacRecipe", named := ["hourglass/sha.first", "hourglass/sha.steady"], apart := false, laid := [("hourglass/sha.first", laid_hourglass_sha_first), ("hourglass/sha.steady", laid_hourglass_sha_steady)], narrowed := true }
def HmacRecipeUptoSaid : Prop := hmacRecipeUptoRow.holds Tryd.pinned (OpenSpec.upto hmacRecipeSpec)

/-- 'hourglasslaw04.HmacTells', WHERE WHAT IT READS IS OF BULK AT MOST 1048576: true; the input reads as it did. -/
def hmacTellsUptoRow : OpenClaim := { program := "ytgbaijmpfdhoeaadoor", sum := "ff5edd3607944cb21c1328c120d546f7a13a7e9b913718d9acb5253f79650492", func := "hourglass/hourglasslaw04.HmacTells", spec := "hmacTells", named := ["hourglass/sha.first", "hourglass/sha.steady"], apart := false, laid := [("hourglass/sha.first", laid_hourglass_sha_first), ("hourglass/sha.steady", laid_hourglass_sha_steady)], narrowed := true }
def HmacTellsUptoSaid : Prop := hmacTellsUptoRow.holds Tryd.pinned (OpenSpec.upto hmacTellsSpec)

/-- 'hourglasslaw04.HmacParts', WHERE WHAT IT READS IS OF BULK AT MOST 1048576: true; the input reads as it did. -/
def hmacPartsUptoRow : OpenClaim := { program := "ytgbaijmpfdhoeaadoor", sum := "ff5edd3607944cb21c1328c120d546f7a13a7e9b913718d9acb5253f79650492", func := "hourglass/hourglasslaw04.HmacParts", spec := "hmacParts", named := ["hourglass/sha.first", "hourglass/sha.steady"], apart := false, laid := [("hourglass/sha.first", laid_hourglass_sha_first), ("hourglass/sha.steady", laid_hourglass_sha_steady)], narrowed := true }
def HmacPartsUptoSaid : Prop := hmacPartsUptoRow.holds Tryd.pinned (OpenSpec.upto hmacPartsSpec)

/-- 'hourglasslaw04.HmacDerives', WHERE WHAT IT READS IS OF BULK AT MOST 1048576: true; the input reads as it did. -/
def hmacDerivesUptoRow : OpenClaim := { program := "ytgbaijmpfdhoeaadoor", sum := "ff5edd3607944cb21c1328c120d546f7a13a7e9b913718d9acb5253f79650492", func := "hourglass/hourglasslaw04.HmacDerives", spec := "hmacDerives", named := ["hourglass/sha.first", "hourglass/sha.steady"], apart := false, laid := [("hourglass/sha.first", laid_hourglass_sha_first), ("hourglass/sha.steady", laid_hourglass_sha_steady)], narrowed := true }
def HmacDerivesUptoSaid : Prop := hmacDerivesUptoRow.holds Tryd.pinned (OpenSpec.upto hmacDerivesSpec)

/-- 'hourglasslaw04.HmacLabels', WHERE WHAT IT READS IS OF BULK AT MOST 1048576: true; the input reads as it did. -/
def hmacLabelsUptoRow : OpenClaim := { program := "ytgbaijmpfdhoeaadoor", sum := "ff5edd3607944cb21c1328c120d546f7a13a7e9b913718d9acb5253f79650492", func := "hourglass/hourglasslaw04.HmacLabels", spec := "hmacLabels", named := ["hourglass/sha.first", "hourglass/sha.steady"], apart := false, laid := [("hourglass/sha.first", laid_hourglass_sha_first), ("hourglass/sha.steady", laid_hourglass_sha_steady)], narrowed := true }
def HmacLabelsUptoSaid : Prop := hmacLabelsUptoRow.holds Tryd.pinned (OpenSpec.upto hmacLabelsSpec)

/-- 'hourglasslaw04.HmacAgain', WHERE WHAT IT READS IS OF BULK AT MOST 1048576: true; the input reads as it did. -/
def hmacAgainUptoRow : OpenClaim := { program := "ytgbaijmpfdhoeaadoor", sum := "ff5edd3607944cb21c1328c120d546f7a13a7e9b913718d9acb5253f79650492", func := "hourglass/hourglasslaw04.HmacAgain", spec := "hmacAgain", named := ["hourglass/sha.first", "hourglass/sha.steady"], apart := false, laid := [("hourglass/sha.first", laid_hourglass_sha_first), ("hourglass/sha.steady", laid_hourglass_sha_steady)], narrowed := true }
def HmacAgainUptoSaid : Prop := hmacAgainUptoRow.holds Tryd.pinned (OpenSpec.upto hmacAgainSpec)

/-- 'hourglasslaw04.HmacChain', WHERE WHAT IT READS IS OF BULK AT MOST 1048576: true; the input reads as it did. -/
def hmacChainUptoRow : OpenClaim := { program := "ytgbaijmpfdhoeaadoor", sum := "ff5edd3607944cb21c1328c120d546f7a13a7e9b913718d9acb5253f79650492", func := "hourglass/hourglasslaw04.HmacChain", spec := "hmacChain", named := ["hourglass/sha.first", "hourglass/sha.steady"], apart := false, laid := [("hourglass/sha.first", laid_hourglass_sha_first), ("hourglass/sha.steady", laid_hourglass_sha_steady)], narrowed := true }
def HmacChainUptoSaid : Prop := hmacChainUptoRow.holds Tryd.pinned (OpenSpec.upto hmacChainSpec)

end Rows
end Go.Proofs.YtgbaijmpfdhoeaaDoor
