/- The law PieceWhole of the given program returns true for every input: any bytes, any number, any row of places, any row of choices; no condition. -/
import Derived.Test.YtcdpmedmhindaaaRows
import Derived.Test.YtcdpmedmhindaaaPieWhole
import Derived.Test.YtcdpmedmhindaaaDec
import Derived.WalkKit
import Derived.ProofKit
import Derived.OpenShut
import Derived.ShutString
import Derived.Carry
namespace Go.Proofs.Ytcdpmedmhindaaa.pieceWhole
open Go.ChangeShapes Go.WideShapes Go.ChangeAt Go.RowKit
set_option linter.unusedVariables false

theorem own : ownKnob Try.prog.godebug = none := by kernel_rfl
theorem laidOut : laidOutB Try.prog = true := by kernel_rfl

/-- The walk: it returns true, and turns nothing that was there. -/
theorem walk (a0 : Option Addr) (len0 cap0 : Nat) (a1 : Int) (a2 : Option Addr) (len2 cap2 : Nat) (a3 : Option Addr) (len3 cap3 : Nat) (w : World) (w0 : Dec Try.prog w 24 [.slice a0 len0 cap0]) (w1 : (Lit.int .u32 a1).wf = true) (w2 : Dec Try.prog w 60 [.slice a2 len2 cap2]) (w3 : Dec Try.prog w 61 [.slice a3 len3 cap3]) :
    Calls Try.prog 5 #[.slice a0 len0 cap0, .int .u32 a1, .slice a2 len2 cap2, .slice a3 len3 cap3] w fun e w' => e = .returned (.bool true) ∧ Below w.heap.size w w' := by
  obtain ⟨A0, n0, k0, l0, e0, hl0, hc0, hm0, r0⟩ := w0.bytes Try.underlying24 Try.underlying5 (by kernel_rfl)
  injection e0 with e0 _; injection e0 with e1 e2 e3; subst e1 e2 e3
  simp [Lit.wf, IntKind.min, IntKind.max, IntKind.signed, IntKind.bits] at w1
  obtain ⟨id, rfl⟩ : ∃ n : Nat, a1 = n := ⟨a1.toNat, by omega⟩
  obtain ⟨A2, n2, k2, l2, e2, hl2, hc2, hm2, hf2, r2⟩ := w2.row Try.underlying60 (by kernel_rfl) (fun b : Nat => Value.int .u16 b) (fun b => b < 65536) (fun cs hd => by
    obtain ⟨b, rfl, hb⟩ := hd.int Try.underlying23
    simp [Lit.wf, IntKind.min, IntKind.max, IntKind.signed, IntKind.bits] at hb
    exact ⟨b.toNat, by rw [Int.toNat_of_nonneg hb.1], by omega⟩)
  injection e2 with e0 _; injection e0 with e1 e2 e3; subst e1 e2 e3
  obtain ⟨A3, n3, k3, l3, e3, hl3, hc3, hm3, _, r3⟩ := w3.row Try.underlying61 (by kernel_rfl) (fun b : Bool => Value.bool b) (fun _ => True) (fun cs hd => by
    obtain ⟨b, rfl⟩ := hd.bool Try.underlying4
    exact ⟨b, rfl, trivial⟩)
  injection e3 with e0 _; injection e0 with e1 e2 e3; subst e1 e2 e3
  refine whole_walk a0 len0 cap0 l0 id a2 len2 cap2 a3 len3 cap3 w hl0 hc0 hm0 (by omega) r0 ⟨by omega, fun i hi => ?_⟩ ⟨by omega, fun i hi => ?_⟩
  · have := r2.ix (k := i) (u := .int .u16 ((l2[i]'(by omega) : Nat) : Int)) (by rw [List.getElem?_map, List.getElem?_eq_getElem (by omega)]; rfl)
    exact ⟨this.1, _, hf2 _ (List.getElem_mem _), this.2⟩
  · have := r3.ix (k := i) (u := .bool (l3[i]'(by omega))) (by rw [List.getElem?_map, List.getElem?_eq_getElem (by omega)]; rfl)
    exact ⟨this.1, _, this.2⟩

set_option maxRecDepth 100000 in
theorem lifted (os : Os) (started : os.Started) (H : Type) (enc : TypeId × Value → H) :
    ReturnsInHanded {} Try.checked os 5 .any (Rows.pieceWholeSpec.pre6 enc Try.prog Try.f5 Rows.pieceWholeRow.domain false) (Rows.pieceWholeSpec.post enc Try.prog Try.f5 false true false false) := by
  refine returnsInHanded_of_change (C := Try.checked) own started (by kernel_rfl) Try.func5
    (ChangeSpec.witness6 (enc := enc) (C := Try.checked) false ⟨#[], #[.slice none 0 0, .int .u32 0, .slice none 0 0, .slice none 0 0], []⟩ 8 (by kernel_rfl) (by kernel_rfl) (by kernel_rfl) (by kernel_rfl)) ?_
  intro W base args ds gs before hval0 hW hcnd _
  have hval : ∀ (j : Nat) t v, Try.f5.params[j]? = some t → args[j]? = some v → Value.okWide Try.prog W .any base t v := hval0
  have hW' := hW
  obtain ⟨p, q, hA0, hV, rfl, hfz, hnd⟩ := hW
  have hA : DataW.TrodAll enc Try.prog W 0 (fun _ => true) true Try.f5.params.toList args.toList ds p := hA0
  rw [Try.params5] at hA hval
  obtain ⟨v0, vs0, d0, ds0, p0, q0, hargs, rfl, rfl, h0, r0⟩ := trodAll_cons hA
  obtain ⟨v1, vs1, d1, ds1, p1, q1, rfl, rfl, rfl, h1, r1⟩ := trodAll_cons r0
  obtain ⟨v2, vs2, d2, ds2, p2, q2, rfl, rfl, rfl, h2, r2⟩ := trodAll_cons r1
  obtain ⟨v3, vs3, d3, ds3, p3, q3, rfl, rfl, rfl, h3, r3⟩ := trodAll_cons r2
  obtain ⟨rfl, rfl, rfl⟩ := trodAll_nil r3
  obtain rfl : args = #[v0, v1, v2, v3] := by cases args; simp_all
  obtain ⟨rfl, rfl⟩ := trodVars_none hV
  obtain ⟨a0, len0, cap0, rfl⟩ := okWide_slice Try.underlying24 (hval 0 24 v0 rfl rfl)
  have k0 := h0
  have lt0 : ∀ x ∈ p0, x.block < W.heap.size := by obtain ⟨m, hm⟩ := k0; exact DataW.trod_lt m _ _ _ hm
  have w0 : Dec Try.prog W 24 [.slice a0 len0 cap0] := Dec.of h0
  obtain ⟨a1, rfl, rfl, rfl, w1⟩ := open_int Try.underlying22 (hval 1 22 v1 rfl rfl) h1
  obtain ⟨a2, len2, cap2, rfl⟩ := okWide_slice Try.underlying60 (hval 2 60 v2 rfl rfl)
  have k2 := h2
  have lt2 : ∀ x ∈ p2, x.block < W.heap.size := by obtain ⟨m, hm⟩ := k2; exact DataW.trod_lt m _ _ _ hm
  have w2 : Dec Try.prog W 60 [.slice a2 len2 cap2] := Dec.of h2
  obtain ⟨a3, len3, cap3, rfl⟩ := okWide_slice Try.underlying61 (hval 3 61 v3 rfl rfl)
  have k3 := h3
  have lt3 : ∀ x ∈ p3, x.block < W.heap.size := by obtain ⟨m, hm⟩ := k3; exact DataW.trod_lt m _ _ _ hm
  have w3 : Dec Try.prog W 61 [.slice a3 len3 cap3] := Dec.of h3
  clear hA0 hval0
  refine (walk a0 len0 cap0 a1 a2 len2 cap2 a3 len3 cap3 W w0 w1 w2 w3).mono fun e W' ⟨he, bel⟩ => ?_
  subst he
  exact ⟨_, rfl, _, _, _, [], _, [], hW', trodAll_mk1 (shut_bool Try.underlying4 _), (trodAll_cons_mk (Below.trod laidOut (by kernel_rfl) (of_decide_eq_true (by kernel_rfl)) k0 bel lt0) (trodAll_cons_mk (shut_int Try.underlying22 w1) (trodAll_cons_mk (Below.trod laidOut (by kernel_rfl) (of_decide_eq_true (by kernel_rfl)) k2 bel lt2) (trodAll_cons_mk (Below.trod laidOut (by kernel_rfl) (of_decide_eq_true (by kernel_rfl)) k3 bel lt3) trodAll_mk0)))), rfl, bel.frame _, fun h => by cases h⟩

theorem over : Rows.pieceWholeRow.holds Try.pinned (OpenSpec.ofChange Rows.pieceWholeSpec) :=
  OpenClaim.holds_of_wide 5 Try.f5 rfl rfl rfl rfl rfl rfl rfl ⟨rfl, rfl, rfl, rfl, rfl⟩ rfl rfl rfl rfl rfl (by kernel_rfl) Try.func5 (by kernel_rfl)
    (of_decide_eq_true (by kernel_rfl)) (by unfold Func.isWrapper; first | (rw [if_pos (by decide +kernel)]; kernel_rfl) | (rw [if_neg (by decide +kernel)]; exact ⟨rfl, rfl⟩))
    (fun os started H enc _ => lifted os started H enc)

/-- The statement. -/
theorem proved : Rows.PieceWholeSaid := over
#print axioms proved
end Go.Proofs.Ytcdpmedmhindaaa.pieceWhole
