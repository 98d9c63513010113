/- As Seq, where what is known of the worlds on the way is any word. Plain lemmas, no program. -/
import Derived.Test.YtnmpfbffacljfaaDoorSeq
namespace Go.Proofs.YtnmpfbffacljfaaDoor
open Go.RowKit

section
variable {P : Program} {md : Region.Mode}
/-- The walk in that order; S holds of every world on the way. -/
def wpSeqP (P : Program) (ops : Array Oper) (Q : Exit → Act → World → Prop) (S : World → Prop) : List (Nat × Bool) → Act → World → Prop
  | [], a, w => Q .normal a w
  | (i, true) :: rest, a, w => ∃ o v, ops[i]? = some o ∧ YieldsIf P ops S o v a ∧ wpSeqP P ops Q S rest (a.put o.dst v) w
  | (i, false) :: rest, a, w => wpOp P ops Q i (fun a' w' => S w' ∧ wpSeqP P ops Q S rest a' w') a w

theorem seqP_held {ops : Array Oper} {Q : Exit → Act → World → Prop} {S : World → Prop} (hs : Region.noSelect ops = true) (hQ : ∀ c a d v w, Q (.panic c) (Act.put a d v) w → Q (.panic c) a w) :
    ∀ (order : List (Nat × Bool)) (listed : Array Bool) (a : Act) (w : World) (fuel : Nat), order.length ≤ fuel → seqOk md ops order listed = true → S w → wpSeqP P ops Q S order a w → wpAnyH P md ops Q S fuel listed a w := by
  intro order
  induction order with
  | nil =>
    intro listed a w fuel _ ho _ h
    have : Region.ready md ops listed = [] := by simpa [seqOk] using ho
    exact wpAnyH_done this h fuel
  | cons p rest ih =>
    intro listed a w fuel hf ho hS h
    obtain ⟨i, b⟩ := p
    obtain ⟨fuel, rfl⟩ : ∃ k, fuel = k + 1 := ⟨fuel - 1, by simp at hf; omega⟩
    have hf' : rest.length ≤ fuel := by simpa using hf
    cases b with
    | true =>
      simp only [seqOk, Bool.and_eq_true] at ho
      obtain ⟨o, v, hi, hy, hn⟩ := h
      exact wpAnyH_take hi hs ho.1 ho.2.1 (fun c a w => hQ c a _ _ w) hy hS (ih _ _ _ _ hf' ho.2.2 hS hn)
    | false =>
      simp only [seqOk, Bool.and_eq_true] at ho
      obtain ⟨h1, h2, h3⟩ := ho
      have hr : Region.ready md ops listed = [i] := by
        generalize Region.ready md ops listed = r at h1 h2
        match r, h1, h2 with
        | [j], _, h2 => simp at h2; rw [h2]
      refine wpAnyH_all hr (by simp) (fun j hj => ?_)
      have hj' : j = i := by simpa using hj
      subst hj'
      exact wpOp_mono (fun a' w' h' => ⟨h'.1, ih _ _ _ _ hf' h3 h'.1 h'.2⟩) h

/-- The beginning. -/
theorem wp_region_seqP {l : List Oper} {Q : Exit → Act → World → Prop} {id : Nat} {a : Act} {w : World} (S : World → Prop) (order : List (Nat × Bool)) (hm : P.follows .mixedOrders = true) (hs : Region.noSelect l.toArray = true)
    (ho : (Nat.ble order.length l.length && seqOk .any l.toArray order (Array.replicate l.length false)) = true) (hS : S w.drew)
    (h : wpSeqP P l.toArray (NoPanic Q) S order a w.drew) : (Code.region id l.toArray true).wp P Q a w := by
  simp only [Bool.and_eq_true] at ho
  have hQ : ∀ c a d v w, NoPanic Q (.panic c) (Act.put a d v) w → NoPanic Q (.panic c) a w := fun _ _ _ _ _ h => (h : False).elim
  refine wp_region_noPanic ?_
  refine wp_region_held (S := S) hm ?_
  exact seqP_held hs hQ order _ a _ _ (by simpa using Nat.le_of_ble_eq_true ho.1) (by simpa using ho.2) hS h

variable {l : List Oper} {Q : Exit → Act → World → Prop} {S : World → Prop} {rest : List (Nat × Bool)} {a : Act} {w : World} {i : Nat} {o : Oper}
/-- What only reads. -/
theorem wpSeqP_quiet (hi : l[i]? = some o) (hw : Region.wanted o (yielded l.toArray a.tmps) = true)
    (h : ∃ v, (∀ W, S W → (execOp a.eval o).run P W = .ok (.value v) W) ∧ ∀ K : Act → Prop, (∀ a, wpSeqP P l.toArray Q S rest a w → K a) → K (a.put o.dst v)) : wpSeqP P l.toArray Q S ((i, true) :: rest) a w :=
  let ⟨v, hv, h⟩ := h
  ⟨o, v, by simpa using hi, .inl ⟨hw, hv⟩, h _ (fun _ h => h)⟩
/-- A call, or whatever else comes alone. -/
theorem wpSeqP_call (hi : l[i]? = some o) (hw : Region.wanted o (yielded l.toArray a.tmps) = true)
    (h : ∀ K : Act → World → Prop, (∀ a' w', S w' → wpSeqP P l.toArray Q S rest a' w' → K a' w') → o.wp P a w K Q) : wpSeqP P l.toArray Q S ((i, false) :: rest) a w := by
  show wpOp _ _ _ _ _ _ _
  have hi' : (l.toArray)[i]? = some o := by simpa using hi
  unfold wpOp
  simp only [hi', hw, if_true]
  exact .inl (h _ (fun _ _ h1 h2 => ⟨h1, h2⟩))
theorem wpSeqP_end (h : Q .normal a w) : wpSeqP P l.toArray (NoPanic Q) S [] a w := h
end
end Go.Proofs.YtnmpfbffacljfaaDoor
