/- The law SlotHead of the given program returns true for every input: any slots, any packet; no condition. -/
import Derived.Test.YtgfjpoopghdilaaRows
import Derived.Test.YtgfjpoopghdilaaDec
import Derived.Test.YtgfjpoopghdilaaSlotDec
import Derived.Test.YtgfjpoopghdilaaSlotWit
import Derived.Test.YtgfjpoopghdilaaSlotHead
import Derived.WalkKit
import Derived.ProofKit
import Derived.OpenShut
import Derived.ShutString
import Derived.Carry
namespace Go.Proofs.Ytgfjpoopghdilaa.slotHead
open Go.ChangeShapes Go.WideShapes Go.ChangeAt Go.RowKit
set_option linter.unusedVariables false

theorem own : ownKnob Try.prog.godebug = none := by kernel_rfl
theorem laidOut : laidOutB Try.prog = true := by kernel_rfl

/-- The walk: it returns true, and turns nothing that was there. -/
theorem walk (a0 : Option Addr) (len0 cap0 : Nat) (a1 : Array Value) (w : World) (w0 : Dec Try.prog w 59 [.slice a0 len0 cap0]) (w1 : Dec Try.prog w 50 a1.toList) :
    Calls Try.prog 9 #[.slice a0 len0 cap0, .agg a1] w fun e w' => e = .returned (.bool true) ∧ Below w.heap.size w w' := by
  obtain ⟨s, hs, rfl⟩ := w1.packet
  exact head_walk w a0 len0 cap0 w0.slots hs w0.slots_len

set_option maxRecDepth 100000 in
theorem wit_ok (os : Os) (base : Nat) : Input.okWide Try.prog (World.plainHolding Try.prog os ⟨#[], #[.slice none 0 0, .agg pkZ], []⟩) .any base 9 ⟨#[], #[.slice none 0 0, .agg pkZ], []⟩ := by
  refine ⟨fun o h => (by simp at h), fun o h => (by cases h), by kernel_rfl, Try.f9, Try.func9, by kernel_rfl, by kernel_rfl, by kernel_rfl, by kernel_rfl, ?_⟩
  intro j t v ht hv
  rw [Try.params9] at ht
  match j, ht, hv with
  | 0, ht, hv =>
    obtain rfl : 59 = t := Option.some.inj ht
    obtain rfl : .slice none 0 0 = v := Option.some.inj hv
    exact Value.okWide_of_okWideB (by kernel_rfl)
  | 1, ht, hv =>
    obtain rfl : 50 = t := Option.some.inj ht
    obtain rfl : .agg pkZ = v := Option.some.inj hv
    exact pk_okWide _ base
  | j + 2, ht, hv => exact (by simp at ht)
theorem wit_pre (os : Os) {H : Type} (enc : TypeId × Value → H) : Rows.slotHeadSpec.preB enc Try.prog Try.f9 Rows.slotHeadRow.domain false (World.plainHolding Try.prog os ⟨#[], #[.slice none 0 0, .agg pkZ], []⟩).memory #[.slice none 0 0, .agg pkZ] 8 = true := by kernel_rfl
theorem wit_sized (os : Os) {H : Type} (enc : TypeId × Value → H) : Rows.slotHeadSpec.sizedB enc Try.prog Try.f9 false (World.plainHolding Try.prog os ⟨#[], #[.slice none 0 0, .agg pkZ], []⟩).memory #[.slice none 0 0, .agg pkZ] 8 = true := by kernel_rfl

set_option maxRecDepth 100000 in
theorem lifted (os : Os) (started : os.Started) (H : Type) (enc : TypeId × Value → H) :
    ReturnsInHanded {} Try.checked os 9 .any (Rows.slotHeadSpec.pre6 enc Try.prog Try.f9 Rows.slotHeadRow.domain false) (Rows.slotHeadSpec.post enc Try.prog Try.f9 false true false false) := by
  refine returnsInHanded_of_change (C := Try.checked) own started (by kernel_rfl) Try.func9
    (witness_of (enc := enc) (C := Try.checked) false ⟨#[], #[.slice none 0 0, .agg pkZ], []⟩ 8 (by kernel_rfl) (by kernel_rfl) (wit_ok os) (wit_pre os enc) (wit_sized os enc)) ?_
  intro W base args ds gs before hval0 hW hcnd _
  have hval : ∀ (j : Nat) t v, Try.f9.params[j]? = some t → args[j]? = some v → Value.okWide Try.prog W .any base t v := hval0
  have hW' := hW
  obtain ⟨p, q, hA0, hV, rfl, hfz, hnd⟩ := hW
  have hA : DataW.TrodAll enc Try.prog W 0 (fun _ => true) true Try.f9.params.toList args.toList ds p := hA0
  rw [Try.params9] at hA hval
  obtain ⟨v0, vs0, d0, ds0, p0, q0, hargs, rfl, rfl, h0, r0⟩ := trodAll_cons hA
  obtain ⟨v1, vs1, d1, ds1, p1, q1, rfl, rfl, rfl, h1, r1⟩ := trodAll_cons r0
  obtain ⟨rfl, rfl, rfl⟩ := trodAll_nil r1
  obtain rfl : args = #[v0, v1] := by cases args; simp_all
  obtain ⟨rfl, rfl⟩ := trodVars_none hV
  obtain ⟨a0, len0, cap0, rfl⟩ := okWide_slice Try.underlying59 (hval 0 59 v0 rfl rfl)
  have k0 := h0
  have lt0 : ∀ x ∈ p0, x.block < W.heap.size := by obtain ⟨m, hm⟩ := k0; exact DataW.trod_lt m _ _ _ hm
  have w0 : Dec Try.prog W 59 [.slice a0 len0 cap0] := Dec.of h0
  obtain ⟨a1, rfl, _⟩ := okWide_struct Try.underlying50 (hval 1 50 v1 rfl rfl)
  have k1 := h1
  have lt1 : ∀ x ∈ p1, x.block < W.heap.size := by obtain ⟨m, hm⟩ := k1; exact DataW.trod_lt m _ _ _ hm
  have w1 : Dec Try.prog W 50 a1.toList := Dec.of h1
  clear hA0 hval0
  refine (walk a0 len0 cap0 a1 W w0 w1).mono fun e W' ⟨he, bel⟩ => ?_
  subst he
  exact ⟨_, rfl, _, _, _, [], _, [], hW', trodAll_mk1 (shut_bool Try.underlying4 _), (trodAll_cons_mk (Below.trod laidOut (by kernel_rfl) (of_decide_eq_true (by kernel_rfl)) k0 bel lt0) (trodAll_cons_mk (Below.trod laidOut (by kernel_rfl) (of_decide_eq_true (by kernel_rfl)) k1 bel lt1) trodAll_mk0)), rfl, bel.frame _, fun h => by cases h⟩

theorem over : Rows.slotHeadRow.holds Try.pinned (OpenSpec.ofChange Rows.slotHeadSpec) :=
  OpenClaim.holds_of_wide 9 Try.f9 rfl rfl rfl rfl rfl rfl rfl ⟨rfl, rfl, rfl, rfl, rfl⟩ rfl rfl rfl rfl rfl (by kernel_rfl) Try.func9 (by kernel_rfl)
    (of_decide_eq_true (by kernel_rfl)) (by unfold Func.isWrapper; first | (rw [if_pos (by decide +kernel)]; kernel_rfl) | (rw [if_neg (by decide +kernel)]; exact ⟨rfl, rfl⟩))
    (fun os started H enc _ => lifted os started H enc)

/-- The statement. -/
theorem proved : Rows.SlotHeadSaid := over
#print axioms proved
end Go.Proofs.Ytgfjpoopghdilaa.slotHead
