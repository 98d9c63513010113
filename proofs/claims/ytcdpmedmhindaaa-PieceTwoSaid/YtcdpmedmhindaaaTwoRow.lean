/- The law PieceTwo of the given program returns true for every input: any two rows of bytes, any row of choices; no condition. -/
import Derived.Test.YtcdpmedmhindaaaRows
import Derived.Test.YtcdpmedmhindaaaPieTwo
import Derived.Test.YtcdpmedmhindaaaDec
import Derived.WalkKit
import Derived.ProofKit
import Derived.OpenShut
import Derived.ShutString
import Derived.Carry
namespace Go.Proofs.Ytcdpmedmhindaaa.pieceTwo
open Go.ChangeShapes Go.WideShapes Go.ChangeAt Go.RowKit
set_option linter.unusedVariables false

theorem own : ownKnob Try.prog.godebug = none := by kernel_rfl
theorem laidOut : laidOutB Try.prog = true := by kernel_rfl

/-- The walk: it returns true, and turns nothing that was there. -/
theorem walk (a0 : Option Addr) (len0 cap0 : Nat) (a1 : Option Addr) (len1 cap1 : Nat) (a2 : Option Addr) (len2 cap2 : Nat) (w : World) (w0 : Dec Try.prog w 24 [.slice a0 len0 cap0]) (w1 : Dec Try.prog w 24 [.slice a1 len1 cap1]) (w2 : Dec Try.prog w 61 [.slice a2 len2 cap2]) :
    Calls Try.prog 7 #[.slice a0 len0 cap0, .slice a1 len1 cap1, .slice a2 len2 cap2] w fun e w' => e = .returned (.bool true) ∧ Below w.heap.size w w' := by
  obtain ⟨A0, n0, k0, l0, e0, hl0, hc0, hm0, r0⟩ := w0.bytes Try.underlying24 Try.underlying5 (by kernel_rfl)
  injection e0 with e0 _; injection e0 with e1 e2 e3; subst e1 e2 e3
  obtain ⟨A1, n1, k1, l1, e1, hl1, hc1, hm1, r1⟩ := w1.bytes Try.underlying24 Try.underlying5 (by kernel_rfl)
  injection e1 with e0 _; injection e0 with e1 e2 e3; subst e1 e2 e3
  obtain ⟨A2, n2, k2, l2, e2, hl2, hc2, hm2, _, r2⟩ := w2.row Try.underlying61 (by kernel_rfl) (fun b : Bool => Value.bool b) (fun _ => True) (fun cs hd => by
    obtain ⟨b, rfl⟩ := hd.bool Try.underlying4
    exact ⟨b, rfl, trivial⟩)
  injection e2 with e0 _; injection e0 with e1 e2 e3; subst e1 e2 e3
  refine two_walk a0 len0 cap0 l0 a1 len1 cap1 l1 a2 len2 cap2 w hl0 hc0 hm0 r0 hl1 hc1 hm1 r1 ⟨by omega, fun i hi => ?_⟩
  have := r2.ix (k := i) (u := .bool (l2[i]'(by omega))) (by rw [List.getElem?_map, List.getElem?_eq_getElem (by omega)]; rfl)
  exact ⟨this.1, _, this.2⟩

set_option maxRecDepth 100000 in
theorem lifted (os : Os) (started : os.Started) (H : Type) (enc : TypeId × Value → H) :
    ReturnsInHanded {} Try.checked os 7 .any (Rows.pieceTwoSpec.pre6 enc Try.prog Try.f7 Rows.pieceTwoRow.domain false) (Rows.pieceTwoSpec.post enc Try.prog Try.f7 false true false false) := by
  refine returnsInHanded_of_change (C := Try.checked) own started (by kernel_rfl) Try.func7
    (ChangeSpec.witness6 (enc := enc) (C := Try.checked) false ⟨#[], #[.slice none 0 0, .slice none 0 0, .slice none 0 0], []⟩ 8 (by kernel_rfl) (by kernel_rfl) (by kernel_rfl) (by kernel_rfl)) ?_
  intro W base args ds gs before hval0 hW hcnd _
  have hval : ∀ (j : Nat) t v, Try.f7.params[j]? = some t → args[j]? = some v → Value.okWide Try.prog W .any base t v := hval0
  have hW' := hW
  obtain ⟨p, q, hA0, hV, rfl, hfz, hnd⟩ := hW
  have hA : DataW.TrodAll enc Try.prog W 0 (fun _ => true) true Try.f7.params.toList args.toList ds p := hA0
  rw [Try.params7] at hA hval
  obtain ⟨v0, vs0, d0, ds0, p0, q0, hargs, rfl, rfl, h0, r0⟩ := trodAll_cons hA
  obtain ⟨v1, vs1, d1, ds1, p1, q1, rfl, rfl, rfl, h1, r1⟩ := trodAll_cons r0
  obtain ⟨v2, vs2, d2, ds2, p2, q2, rfl, rfl, rfl, h2, r2⟩ := trodAll_cons r1
  obtain ⟨rfl, rfl, rfl⟩ := trodAll_nil r2
  obtain rfl : args = #[v0, v1, v2] := by cases args; simp_all
  obtain ⟨rfl, rfl⟩ := trodVars_none hV
  obtain ⟨a0, len0, cap0, rfl⟩ := okWide_slice Try.underlying24 (hval 0 24 v0 rfl rfl)
  have k0 := h0
  have lt0 : ∀ x ∈ p0, x.block < W.heap.size := by obtain ⟨m, hm⟩ := k0; exact DataW.trod_lt m _ _ _ hm
  have w0 : Dec Try.prog W 24 [.slice a0 len0 cap0] := Dec.of h0
  obtain ⟨a1, len1, cap1, rfl⟩ := okWide_slice Try.underlying24 (hval 1 24 v1 rfl rfl)
  have k1 := h1
  have lt1 : ∀ x ∈ p1, x.block < W.heap.size := by obtain ⟨m, hm⟩ := k1; exact DataW.trod_lt m _ _ _ hm
  have w1 : Dec Try.prog W 24 [.slice a1 len1 cap1] := Dec.of h1
  obtain ⟨a2, len2, cap2, rfl⟩ := okWide_slice Try.underlying61 (hval 2 61 v2 rfl rfl)
  have k2 := h2
  have lt2 : ∀ x ∈ p2, x.block < W.heap.size := by obtain ⟨m, hm⟩ := k2; exact DataW.trod_lt m _ _ _ hm
  have w2 : Dec Try.prog W 61 [.slice a2 len2 cap2] := Dec.of h2
  clear hA0 hval0
  refine (walk a0 len0 cap0 a1 len1 cap1 a2 len2 cap2 W w0 w1 w2).mono fun e W' ⟨he, bel⟩ => ?_
  subst he
  exact ⟨_, rfl, _, _, _, [], _, [], hW', trodAll_mk1 (shut_bool Try.underlying4 _), (trodAll_cons_mk (Below.trod laidOut (by kernel_rfl) (of_decide_eq_true (by kernel_rfl)) k0 bel lt0) (trodAll_cons_mk (Below.trod laidOut (by kernel_rfl) (of_decide_eq_true (by kernel_rfl)) k1 bel lt1) (trodAll_cons_mk (Below.trod laidOut (by kernel_rfl) (of_decide_eq_true (by kernel_rfl)) k2 bel lt2) trodAll_mk0))), rfl, bel.frame _, fun h => by cases h⟩

theorem over : Rows.pieceTwoRow.holds Try.pinned (OpenSpec.ofChange Rows.pieceTwoSpec) :=
  OpenClaim.holds_of_wide 7 Try.f7 rfl rfl rfl rfl rfl rfl rfl ⟨rfl, rfl, rfl, rfl, rfl⟩ rfl rfl rfl rfl rfl (by kernel_rfl) Try.func7 (by kernel_rfl)
    (of_decide_eq_true (by kernel_rfl)) (by unfold Func.isWrapper; first | (rw [if_pos (by decide +kernel)]; kernel_rfl) | (rw [if_neg (by decide +kernel)]; exact ⟨rfl, rfl⟩))
    (fun os started H enc _ => lifted os started H enc)

/-- The statement. -/
theorem proved : Rows.PieceTwoSaid := over
#print axioms proved
end Go.Proofs.Ytcdpmedmhindaaa.pieceTwo
