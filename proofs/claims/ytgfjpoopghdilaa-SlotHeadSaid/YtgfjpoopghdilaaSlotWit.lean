/- A packet as a law's first input: what the row asks of it. -/
import Derived.Handed
import Derived.WideWitness
import Derived.ProofKit
import Derived.Test.YtgfjpoopghdilaaSlotDec
namespace Go.Proofs.Ytgfjpoopghdilaa
open Go.RowKit

/-- A start that fits, from its parts. -/
theorem witness_of {C : Checked} {os : Os} {f : FuncId} {fn : Func} {s : ChangeSpec} {conds : List PathCond} {apart : Bool} {H : Type} {enc : TypeId × Value → H} (modest : Bool) (i : Input) (fuel : Nat)
    (hv : (World.plainHolding C.prog os i).variablesB C.prog = true)
    (hr : ((World.plainHolding C.prog os i).heap.toList.drop C.prog.globals.size).take ((begin C.prog (fun _ _ => 0) default).world.heap.size - C.prog.globals.size) = (begin C.prog (fun _ _ => 0) default).world.heap.toList.drop C.prog.globals.size)
    (hok : ∀ base, Input.okWide C.prog (World.plainHolding C.prog os i) .any base f ⟨#[], i.args, []⟩)
    (hpre : s.preB enc C.prog fn conds apart (World.plainHolding C.prog os i).memory i.args fuel = true)
    (hsz : s.sizedB enc C.prog fn apart (World.plainHolding C.prog os i).memory i.args fuel = true) :
    ∃ (w : World) (tape : Tape) (i : Input), w.os = os ∧ (w.forCall tape i).Shaped C.prog ∧ i.vars = [] ∧ Input.okWide C.prog (w.forCall tape i) .any w.heap.size f i ∧
      s.pre6 enc C.prog fn conds apart (w.forCall tape i).memory i.args ∧ ({ modest := modest } : Assume).holds C.prog (lone (Frame.enter C.prog f i.args .normal) [] (w.forCall tape i)) :=
  ⟨World.holding C.prog os i, fun _ _ => 0, ⟨#[], i.args, []⟩, rfl, World.shaped_of_B hv hr, rfl, hok _, ⟨ChangeSpec.pre_of_preB hpre, sizedMet_of_sizedB hsz⟩, by
    simp only [Assume.holds]
    exact ⟨by simp, by simp, fun _ => Modest.zero, by simp, by simp⟩⟩
theorem pk_typesB : ((Try.prog.cellTypes Try.prog.depth 50).map (fun l => l == 25 :: 26 :: List.replicate 608 5) == some true) = true := by kernel_rfl
theorem pk_types : Try.prog.cellTypes Try.prog.depth 50 = some (25 :: 26 :: List.replicate 608 5) := by
  have h := pk_typesB
  cases h2 : Try.prog.cellTypes Try.prog.depth 50 with
  | none => rw [h2] at h; cases h
  | some l =>
    rw [h2] at h
    simp only [Option.map_some, beq_iff_eq, Option.some.injEq] at h
    rw [h]
theorem pk_cells : Try.prog.cellsOf 50 = 610 := by kernel_rfl
def pkZ : Array Value := #[.int .u16 0, .int .u32 0] ++ Array.replicate 608 (.int .u8 0)
theorem pkZ_get (n : Nat) (i : Nat) (v : Value) (h : (#[.int .u16 0, .int .u32 0] ++ Array.replicate n (.int .u8 0) : Array Value)[i]? = some v) : (i = 0 ∧ v = .int .u16 0) ∨ (i = 1 ∧ v = .int .u32 0) ∨ (2 ≤ i ∧ i < n + 2 ∧ v = .int .u8 0) := by
  by_cases h0 : i = 0
  · subst h0
    rw [Array.getElem?_append_left (by simp)] at h
    simp at h
    exact .inl ⟨rfl, h.symm⟩
  by_cases h1 : i = 1
  · subst h1
    rw [Array.getElem?_append_left (by simp)] at h
    simp at h
    exact .inr (.inl ⟨rfl, h.symm⟩)
  rw [Array.getElem?_append_right (by simp; omega), Array.getElem?_replicate] at h
  split at h
  · rename_i h2
    simp at h h2
    exact .inr (.inr ⟨by omega, by omega, h.symm⟩)
  · cases h
theorem pkZ_size (n : Nat) : (#[.int .u16 0, .int .u32 0] ++ Array.replicate n (.int .u8 0) : Array Value).size = n + 2 := by simp; omega
theorem pkT_get (a b c : TypeId) (n i : Nat) (h : 2 ≤ i) (h2 : i < n + 2) : (a :: b :: List.replicate n c)[i]? = some c := by
  obtain ⟨k, rfl⟩ : ∃ k, i = k + 2 := ⟨i - 2, by omega⟩
  rw [List.getElem?_cons_succ, List.getElem?_cons_succ, List.getElem?_replicate, if_pos (by omega)]
theorem pkT_0 (a b : TypeId) (l : List TypeId) : (a :: b :: l)[0 % 610]? = some a := by rw [Nat.zero_mod]; rfl
theorem pkT_1 (a b : TypeId) (l : List TypeId) : (a :: b :: l)[1 % 610]? = some b := by rw [Nat.mod_eq_of_lt (by decide : 1 < 610)]; rfl
set_option maxRecDepth 100000 in
theorem pk_okWide (w : World) (base : Nat) : Value.okWide Try.prog w .any base 50 (.agg pkZ) := by
  unfold Value.okWide
  simp only [Try.underlying50]
  refine ⟨pkZ, rfl, (pkZ_size 608).trans pk_cells.symm, ?_⟩
  have hl : (25 :: 26 :: List.replicate 608 5 : List TypeId).length = 610 := by rw [List.length_cons, List.length_cons, List.length_replicate]
  refine ⟨_, pk_types, ⟨1, (pkZ_size 608).trans ((Nat.one_mul _).trans hl).symm⟩, fun i v hv => ?_⟩
  rw [hl]
  have hz := pkZ_get 608 i v hv
  clear hv hl
  rcases hz with ⟨rfl, rfl⟩ | ⟨rfl, rfl⟩ | ⟨h1, h2, rfl⟩
  · exact ⟨25, pkT_0 _ _ _, Cell.okWide_of_okWideB (by kernel_rfl)⟩
  · exact ⟨26, pkT_1 _ _ _, Cell.okWide_of_okWideB (by kernel_rfl)⟩
  · rw [Nat.mod_eq_of_lt (show i < 610 from h2)]
    exact ⟨5, pkT_get 25 26 5 608 i h1 h2, Cell.okWide_of_okWideB (by kernel_rfl)⟩
end Go.Proofs.Ytgfjpoopghdilaa
