/- The law OctetsReads of the given program returns true for every input: any bytes, any steps; no condition. -/
import Derived.Test.YtkgnhkkmingenaaRows
import Derived.Test.YtkgnhkkmingenaaReads
import Derived.WalkKit
import Derived.ProofKit
import Derived.OpenShut
import Derived.ShutString
import Derived.Carry
namespace Go.Proofs.Ytkgnhkkmingenaa.octetsReads
open Go.ChangeShapes Go.WideShapes Go.ChangeAt Go.RowKit
set_option linter.unusedVariables false

theorem own : ownKnob Try.prog.godebug = none := by kernel_rfl
theorem laidOut : laidOutB Try.prog = true := by kernel_rfl

/-- The walk: it returns true, and turns nothing that was there. -/
theorem walk (a0 : Option Addr) (len0 cap0 : Nat) (a1 : Option Addr) (len1 cap1 : Nat) (w : World) (w0 : Dec Try.prog w 22 [.slice a0 len0 cap0]) (w1 : Dec Try.prog w 63 [.slice a1 len1 cap1]) :
    Calls Try.prog 9 #[.slice a0 len0 cap0, .slice a1 len1 cap1] w fun e w' => e = .returned (.bool true) ∧ Below w.heap.size w w' := by
  obtain ⟨A0, n0, k0, l0, e0, hl0, hc0, _, r0⟩ := w0.bytes Try.underlying22 Try.underlying5 (by kernel_rfl)
  injection e0 with e0 _; injection e0 with e1 e2 e3; subst e1 e2 e3
  have c1 : Try.prog.cellsOf 3 = 1 := by kernel_rfl
  refine reads_walk a0 len0 cap0 l0 a1 len1 cap1 w hl0 hc0 r0 (fun i hi => ?_)
  obtain ⟨A1, n1, k1, e1, _, _, hx⟩ := w1.cells (s := 2) Try.underlying63 (by kernel_rfl)
  injection e1 with e1 _; injection e1 with e1 e2 e3; subst e1 e2 e3
  obtain ⟨hA, cs, hlen, hcell, hd⟩ := hx i hi
  obtain ⟨_, hf⟩ := hd.struct Try.underlying69
  have h0 : Dec Try.prog w 3 ((cs.drop 0).take (Try.prog.cellsOf 3)) := hf 0 _ rfl
  have h1 : Dec Try.prog w 3 ((cs.drop 1).take (Try.prog.cellsOf 3)) := hf 1 _ rfl
  rw [c1] at h0 h1
  match cs, hlen, hcell, h0, h1 with
  | [u, v], _, hcell, h0, h1 =>
    obtain ⟨k, ek, wk⟩ := Dec.int h0 Try.underlying3
    obtain ⟨m, em, wm⟩ := Dec.int h1 Try.underlying3
    have ek : [u] = [Value.int .i64 k] := ek
    have em : [v] = [Value.int .i64 m] := em
    injection ek with ek _
    injection em with em _
    have hc0 := hcell 0 u rfl
    have hc1 := hcell 1 v rfl
    rw [ek] at hc0
    rw [em] at hc1
    refine ⟨hA, k, m, wk, wm, hc0, ?_, ?_⟩
    · rw [← add_of_add] at hc1
      exact hc1
    · have := World.block_lt_of_cell? w _ hc0
      rwa [block_of_add] at this

set_option maxRecDepth 100000 in
theorem lifted (os : Os) (started : os.Started) (H : Type) (enc : TypeId × Value → H) :
    ReturnsInHanded {} Try.checked os 9 .any (Rows.octetsReadsSpec.pre6 enc Try.prog Try.f9 Rows.octetsReadsRow.domain false) (Rows.octetsReadsSpec.post enc Try.prog Try.f9 false true false false) := by
  refine returnsInHanded_of_change (C := Try.checked) own started (by kernel_rfl) Try.func9
    (ChangeSpec.witness6 (enc := enc) (C := Try.checked) false ⟨#[], #[.slice none 0 0, .slice none 0 0], []⟩ 8 (by kernel_rfl) (by kernel_rfl) (by kernel_rfl) (by kernel_rfl)) ?_
  intro W base args ds gs before hval0 hW hcnd _
  have hval : ∀ (j : Nat) t v, Try.f9.params[j]? = some t → args[j]? = some v → Value.okWide Try.prog W .any base t v := hval0
  have hW' := hW
  obtain ⟨p, q, hA0, hV, rfl, hfz, hnd⟩ := hW
  have hA : DataW.TrodAll enc Try.prog W 0 (fun _ => true) true Try.f9.params.toList args.toList ds p := hA0
  rw [Try.params9] at hA hval
  obtain ⟨v0, vs0, d0, ds0, p0, q0, hargs, rfl, rfl, h0, r0⟩ := trodAll_cons hA
  obtain ⟨v1, vs1, d1, ds1, p1, q1, rfl, rfl, rfl, h1, r1⟩ := trodAll_cons r0
  obtain ⟨rfl, rfl, rfl⟩ := trodAll_nil r1
  obtain rfl : args = #[v0, v1] := by cases args; simp_all
  obtain ⟨rfl, rfl⟩ := trodVars_none hV
  obtain ⟨a0, len0, cap0, rfl⟩ := okWide_slice Try.underlying22 (hval 0 22 v0 rfl rfl)
  have k0 := h0
  have lt0 : ∀ x ∈ p0, x.block < W.heap.size := by obtain ⟨m, hm⟩ := k0; exact DataW.trod_lt m _ _ _ hm
  have w0 : Dec Try.prog W 22 [.slice a0 len0 cap0] := Dec.of h0
  obtain ⟨a1, len1, cap1, rfl⟩ := okWide_slice Try.underlying63 (hval 1 63 v1 rfl rfl)
  have k1 := h1
  have lt1 : ∀ x ∈ p1, x.block < W.heap.size := by obtain ⟨m, hm⟩ := k1; exact DataW.trod_lt m _ _ _ hm
  have w1 : Dec Try.prog W 63 [.slice a1 len1 cap1] := Dec.of h1
  clear hA0 hval0
  refine (walk a0 len0 cap0 a1 len1 cap1 W w0 w1).mono fun e W' ⟨he, bel⟩ => ?_
  subst he
  exact ⟨_, rfl, _, _, _, [], _, [], hW', trodAll_mk1 (shut_bool Try.underlying4 _), (trodAll_cons_mk (Below.trod laidOut (by kernel_rfl) (of_decide_eq_true (by kernel_rfl)) k0 bel lt0) (trodAll_cons_mk (Below.trod laidOut (by kernel_rfl) (of_decide_eq_true (by kernel_rfl)) k1 bel lt1) trodAll_mk0)), rfl, bel.frame _, fun h => by cases h⟩

theorem over : Rows.octetsReadsRow.holds Try.pinned (OpenSpec.ofChange Rows.octetsReadsSpec) :=
  OpenClaim.holds_of_wide 9 Try.f9 rfl rfl rfl rfl rfl rfl rfl ⟨rfl, rfl, rfl, rfl, rfl⟩ rfl rfl rfl rfl rfl (by kernel_rfl) Try.func9 (by kernel_rfl)
    (of_decide_eq_true (by kernel_rfl)) (by unfold Func.isWrapper; first | (rw [if_pos (by decide +kernel)]; kernel_rfl) | (rw [if_neg (by decide +kernel)]; exact ⟨rfl, rfl⟩))
    (fun os started H enc _ => lifted os started H enc)

/-- The statement. -/
theorem proved : Rows.OctetsReadsSaid := over
#print axioms proved
end Go.Proofs.Ytkgnhkkmingenaa.octetsReads
