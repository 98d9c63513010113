/- The law OctetsWrites of the given program returns true for every input: any puts; no condition. -/
import Derived.Test.YtkgnhkkmingenaaRows
import Derived.Test.YtkgnhkkmingenaaWrites
import Derived.WalkKit
import Derived.ProofKit
import Derived.OpenShut
import Derived.ShutString
import Derived.Carry
namespace Go.Proofs.Ytkgnhkkmingenaa.octetsWrites
open Go.ChangeShapes Go.WideShapes Go.ChangeAt Go.RowKit
set_option linter.unusedVariables false

theorem own : ownKnob Try.prog.godebug = none := by kernel_rfl
theorem laidOut : laidOutB Try.prog = true := by kernel_rfl

/-- The walk: it returns true, and turns nothing that was there. -/
theorem walk (a0 : Option Addr) (len0 cap0 : Nat) (w : World) (w0 : Dec Try.prog w 31 [.slice a0 len0 cap0]) :
    Calls Try.prog 4 #[.slice a0 len0 cap0] w fun e w' => e = .returned (.bool true) ∧ Below w.heap.size w w' := by
  have c1 : Try.prog.cellsOf 3 = 1 := by kernel_rfl
  have c2 : Try.prog.cellsOf 33 = 1 := by kernel_rfl
  have c3 : Try.prog.cellsOf 22 = 1 := by kernel_rfl
  refine writes_walk a0 len0 cap0 w (fun i hi => ?_)
  obtain ⟨A1, n1, k1, e1, _, _, hx⟩ := w0.cells (s := 4) Try.underlying31 (by kernel_rfl)
  injection e1 with e1 _; injection e1 with e1 e2 e3; subst e1 e2 e3
  obtain ⟨hA, cs, hlen, hcell, hd⟩ := hx i hi
  obtain ⟨_, hf⟩ := hd.struct Try.underlying35
  have h0 : Dec Try.prog w 3 ((cs.drop 0).take (Try.prog.cellsOf 3)) := hf 0 _ rfl
  have h1 : Dec Try.prog w 3 ((cs.drop 1).take (Try.prog.cellsOf 3)) := hf 1 _ rfl
  have h2 : Dec Try.prog w 33 ((cs.drop 2).take (Try.prog.cellsOf 33)) := hf 2 _ rfl
  have h3 : Dec Try.prog w 22 ((cs.drop 3).take (Try.prog.cellsOf 22)) := hf 3 _ rfl
  rw [c1] at h0 h1
  rw [c2] at h2
  rw [c3] at h3
  match cs, hlen, hcell, h0, h1, h2, h3 with
  | [u, v, x, y], _, hcell, h0, h1, h2, h3 =>
    obtain ⟨k, ek, wk⟩ := Dec.int h0 Try.underlying3
    obtain ⟨m, em, wm⟩ := Dec.int h1 Try.underlying3
    obtain ⟨n, en, wn⟩ := Dec.int h2 Try.underlying33
    obtain ⟨B, nb, cb, lb, eb, hlb, hcb, _, rb⟩ := Dec.bytes h3 Try.underlying22 Try.underlying5 (by kernel_rfl)
    have fk : [u] = [Value.int .i64 k] := ek
    have fm : [v] = [Value.int .i64 m] := em
    have fn : [x] = [Value.int .u64 n] := en
    have fb : [y] = [Value.slice B nb cb] := eb
    injection fk with fk' _
    injection fm with fm' _
    injection fn with fn' _
    injection fb with fb' _
    have hc0 := hcell 0 u rfl
    have hc1 := hcell 1 v rfl
    have hc2 := hcell 2 x rfl
    have hc3 := hcell 3 y rfl
    rw [← add_of_add] at hc1 hc2 hc3
    simp [Lit.wf, IntKind.min, IntKind.max, IntKind.signed, IntKind.bits] at wn
    obtain ⟨N, rfl⟩ : ∃ N : Nat, n = N := ⟨n.toNat, by omega⟩
    clear ek em en eb
    rw [fk'] at hc0
    rw [fm'] at hc1
    rw [fn'] at hc2
    rw [fb'] at hc3
    exact ⟨hA, k, m, N, B, nb, cb, lb, by omega, hlb, hcb, rb, hc0, hc1, hc2, hc3⟩

set_option maxRecDepth 100000 in
theorem lifted (os : Os) (started : os.Started) (H : Type) (enc : TypeId × Value → H) :
    ReturnsInHanded {} Try.checked os 4 .any (Rows.octetsWritesSpec.pre6 enc Try.prog Try.f4 Rows.octetsWritesRow.domain false) (Rows.octetsWritesSpec.post enc Try.prog Try.f4 false true false false) := by
  refine returnsInHanded_of_change (C := Try.checked) own started (by kernel_rfl) Try.func4
    (ChangeSpec.witness6 (enc := enc) (C := Try.checked) false ⟨#[], #[.slice none 0 0], []⟩ 8 (by kernel_rfl) (by kernel_rfl) (by kernel_rfl) (by kernel_rfl)) ?_
  intro W base args ds gs before hval0 hW hcnd _
  have hval : ∀ (j : Nat) t v, Try.f4.params[j]? = some t → args[j]? = some v → Value.okWide Try.prog W .any base t v := hval0
  have hW' := hW
  obtain ⟨p, q, hA0, hV, rfl, hfz, hnd⟩ := hW
  have hA : DataW.TrodAll enc Try.prog W 0 (fun _ => true) true Try.f4.params.toList args.toList ds p := hA0
  rw [Try.params4] at hA hval
  obtain ⟨v0, vs0, d0, ds0, p0, q0, hargs, rfl, rfl, h0, r0⟩ := trodAll_cons hA
  obtain ⟨rfl, rfl, rfl⟩ := trodAll_nil r0
  obtain rfl : args = #[v0] := by cases args; simp_all
  obtain ⟨rfl, rfl⟩ := trodVars_none hV
  obtain ⟨a0, len0, cap0, rfl⟩ := okWide_slice Try.underlying31 (hval 0 31 v0 rfl rfl)
  have k0 := h0
  have lt0 : ∀ x ∈ p0, x.block < W.heap.size := by obtain ⟨m, hm⟩ := k0; exact DataW.trod_lt m _ _ _ hm
  have w0 : Dec Try.prog W 31 [.slice a0 len0 cap0] := Dec.of h0
  clear hA0 hval0
  refine (walk a0 len0 cap0 W w0).mono fun e W' ⟨he, bel⟩ => ?_
  subst he
  exact ⟨_, rfl, _, _, _, [], _, [], hW', trodAll_mk1 (shut_bool Try.underlying4 _), (trodAll_cons_mk (Below.trod laidOut (by kernel_rfl) (of_decide_eq_true (by kernel_rfl)) k0 bel lt0) trodAll_mk0), rfl, bel.frame _, fun h => by cases h⟩

theorem over : Rows.octetsWritesRow.holds Try.pinned (OpenSpec.ofChange Rows.octetsWritesSpec) :=
  OpenClaim.holds_of_wide 4 Try.f4 rfl rfl rfl rfl rfl rfl rfl ⟨rfl, rfl, rfl, rfl, rfl⟩ rfl rfl rfl rfl rfl (by kernel_rfl) Try.func4 (by kernel_rfl)
    (of_decide_eq_true (by kernel_rfl)) (by unfold Func.isWrapper; first | (rw [if_pos (by decide +kernel)]; kernel_rfl) | (rw [if_neg (by decide +kernel)]; exact ⟨rfl, rfl⟩))
    (fun os started H enc _ => lifted os started H enc)

/-- The statement. -/
theorem proved : Rows.OctetsWritesSaid := over
#print axioms proved
end Go.Proofs.Ytkgnhkkmingenaa.octetsWrites
