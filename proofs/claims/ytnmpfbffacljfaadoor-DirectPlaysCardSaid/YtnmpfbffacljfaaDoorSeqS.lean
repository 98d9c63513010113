/- As Seq: operations that their guards leave out. Plain lemmas, no program. -/
import Derived.Test.YtnmpfbffacljfaaDoorSeq
namespace Go.Proofs.YtnmpfbffacljfaaDoor
open Go.RowKit

section
variable {P : Program} {l : List Oper} {Q : Exit → Act → World → Prop} {S : Nat → Prop} {rest : List (Nat × Bool)} {a : Act} {w : World} {i : Nat} {o : Oper}
theorem wpSeq_skip (hi : l[i]? = some o) (hw : Region.wanted o (yielded l.toArray a.tmps) = false)
    (h : ∀ K : Act → Prop, (∀ a, wpSeq P l.toArray Q S rest a w → K a) → K (a.put o.dst undef)) : wpSeq P l.toArray Q S ((i, true) :: rest) a w :=
  ⟨o, undef, by simpa using hi, .inr ⟨hw, rfl⟩, h _ (fun _ h => h)⟩
theorem wpSeq_pass (hi : l[i]? = some o) (hw : Region.wanted o (yielded l.toArray a.tmps) = false)
    (h : ∀ K : Act → Prop, (∀ a, wpSeq P l.toArray Q S rest a w → K a) → K (a.put o.dst undef)) : wpSeq P l.toArray Q S ((i, false) :: rest) a w := by
  show wpOp _ _ _ _ _ _ _
  have hi' : (l.toArray)[i]? = some o := by simpa using hi
  unfold wpOp
  simp only [hi', hw]
  exact ⟨Ext.refl S w, h _ (fun _ h => h)⟩
end

/-! A region that is not drawn, walked in its own order: each operation that reads is met as a small goal of its own. -/
section
variable {P : Program} {ops : Array Oper} {Q : Exit → Act → World → Prop} {rest : List Oper} {a : Act} {w : World} {o : Oper}
theorem wpList_quiet (hw : Region.wanted o (yielded ops a.tmps) = true)
    (h : ∃ v, (execOp a.eval o).run P w = .ok (.value v) w ∧ ∀ K : Act → Prop, (∀ a, wpList P ops Q rest a w → K a) → K (a.put o.dst v)) : wpList P ops Q (o :: rest) a w := by
  obtain ⟨v, hv, h⟩ := h
  refine wpList_step fun K hK => ?_
  rw [if_pos hw]
  unfold Oper.wp
  rw [hv]
  exact hK _ _ (h (fun a => wpList P ops Q rest a w) (fun _ h => h))
theorem wpList_left (hw : Region.wanted o (yielded ops a.tmps) = false)
    (h : ∀ K : Act → Prop, (∀ a, wpList P ops Q rest a w → K a) → K (a.put o.dst undef)) : wpList P ops Q (o :: rest) a w := by
  refine wpList_step fun K hK => ?_
  rw [if_neg (by rw [hw]; decide)]
  exact hK _ _ (h (fun a => wpList P ops Q rest a w) (fun _ h => h))
end
end Go.Proofs.YtnmpfbffacljfaaDoor
