/- A drawn region whose calls wait for one another, walked in one order: what only reads is taken first, a call when nothing else may come. Plain lemmas, no program. -/
import Derived.Deep.RegionHeld3
import Derived.Test.YtnmpfbffacljfaaDoorMem
namespace Go.Proofs.YtnmpfbffacljfaaDoor
open Go.RowKit

/-- What the walk asks of a sum of two strings. -/
theorem sum_facts {l m r : List UInt8} (h : l ++ m = r) (i j : Nat) (hi : l.length = i) (hj : m.length = j) (hmax : i + j ≤ 9223372036854775807) :
    (str l).size = i ∧ (str m).size = j ∧ str l ++ str m = str r ∧ (str r).size = i + j ∧ ¬ 9223372036854775807 < i + j := by
  subst h
  exact ⟨by rw [str_size, hi], by rw [str_size, hj], str_append l m, by rw [str_size, List.length_append, hi, hj], by omega⟩

section
variable {P : Program} {md : Region.Mode}

/-- The order is one: at each 'true' the operation is free and may come; at each 'false' it alone may come; at the end none. -/
def seqOk (md : Region.Mode) (ops : Array Oper) : List (Nat × Bool) → Array Bool → Bool
  | [], listed => (Region.ready md ops listed).isEmpty
  | (i, true) :: rest, listed => Region.free md ops listed i && ((Region.ready md ops listed).contains i && seqOk md ops rest (listed.setIfInBounds i true))
  | (i, false) :: rest, listed => ((Region.ready md ops listed).length == 1) && ((Region.ready md ops listed).contains i && seqOk md ops rest (listed.setIfInBounds i true))

/-- The walk in that order. -/
def wpSeq (P : Program) (ops : Array Oper) (Q : Exit → Act → World → Prop) (S : Nat → Prop) : List (Nat × Bool) → Act → World → Prop
  | [], a, w => Q .normal a w
  | (i, true) :: rest, a, w => ∃ o v, ops[i]? = some o ∧ YieldsIf P ops (fun W => Ext S w W) o v a ∧ wpSeq P ops Q S rest (a.put o.dst v) w
  | (i, false) :: rest, a, w => wpOp P ops Q i (fun a' w' => Ext S w w' ∧ wpSeq P ops Q S rest a' w') a w

theorem wpAnyH_imp {ops : Array Oper} {Q : Exit → Act → World → Prop} {S T : World → Prop} (hST : ∀ w, S w → T w) : ∀ (fuel : Nat) (listed : Array Bool) (a : Act) (w : World), wpAnyH P md ops Q S fuel listed a w → wpAnyH P md ops Q T fuel listed a w
  | 0, _, _, _, h => h
  | fuel + 1, _, _, _, h => ⟨h.1, fun i hi => wpOp_mono (fun a' w' h' => ⟨hST w' h'.1, wpAnyH_imp hST fuel _ a' w' h'.2⟩) (h.2 i hi)⟩

theorem seq_held {ops : Array Oper} {Q : Exit → Act → World → Prop} {S : Nat → Prop} (hs : Region.noSelect ops = true) (hQ : ∀ c a d v w, Q (.panic c) (Act.put a d v) w → Q (.panic c) a w) :
    ∀ (order : List (Nat × Bool)) (listed : Array Bool) (a : Act) (w : World) (fuel : Nat), order.length ≤ fuel → seqOk md ops order listed = true → wpSeq P ops Q S order a w → wpAnyH P md ops Q (fun W => Ext S w W) fuel listed a w := by
  intro order
  induction order with
  | nil =>
    intro listed a w fuel _ ho h
    have : Region.ready md ops listed = [] := by simpa [seqOk] using ho
    exact wpAnyH_done this h fuel
  | cons p rest ih =>
    intro listed a w fuel hf ho h
    obtain ⟨i, b⟩ := p
    obtain ⟨fuel, rfl⟩ : ∃ k, fuel = k + 1 := ⟨fuel - 1, by simp at hf; omega⟩
    have hf' : rest.length ≤ fuel := by simpa using hf
    cases b with
    | true =>
      simp only [seqOk, Bool.and_eq_true] at ho
      obtain ⟨o, v, hi, hy, hn⟩ := h
      exact wpAnyH_take hi hs ho.1 ho.2.1 (fun c a w => hQ c a _ _ w) hy (Ext.refl _ _) (ih _ _ _ _ hf' ho.2.2 hn)
    | false =>
      simp only [seqOk, Bool.and_eq_true] at ho
      obtain ⟨h1, h2, h3⟩ := ho
      have hr : Region.ready md ops listed = [i] := by
        generalize Region.ready md ops listed = r at h1 h2
        match r, h1, h2 with
        | [j], _, h2 => simp at h2; rw [h2]
      refine wpAnyH_all hr (by simp) (fun j hj => ?_)
      have hj' : j = i := by simpa using hj
      subst hj'
      exact wpOp_mono (fun a' w' h' => ⟨h'.1, wpAnyH_imp (fun W hW => h'.1.trans' hW) _ _ _ _ (ih _ _ _ _ hf' h3 h'.2)⟩) h

/-- The beginning. -/
theorem wp_region_seq {l : List Oper} {Q : Exit → Act → World → Prop} {id : Nat} {a : Act} {w : World} (S : Nat → Prop) (order : List (Nat × Bool)) (hm : P.follows .mixedOrders = true) (hs : Region.noSelect l.toArray = true)
    (ho : (Nat.ble order.length l.length && seqOk .any l.toArray order (Array.replicate l.length false)) = true)
    (h : wpSeq P l.toArray (NoPanic Q) S order a w.drew) : (Code.region id l.toArray true).wp P Q a w := by
  simp only [Bool.and_eq_true] at ho
  have hQ : ∀ c a d v w, NoPanic Q (.panic c) (Act.put a d v) w → NoPanic Q (.panic c) a w := fun _ _ _ _ _ h => (h : False).elim
  refine wp_region_noPanic ?_
  refine wp_region_held (S := fun W => Ext S w.drew W) hm ?_
  exact seq_held hs hQ order _ a _ _ (by simpa using Nat.le_of_ble_eq_true ho.1) (by simpa using ho.2) h

variable {l : List Oper} {Q : Exit → Act → World → Prop} {S : Nat → Prop} {rest : List (Nat × Bool)} {a : Act} {w : World} {i : Nat} {o : Oper}
/-- What only reads. -/
theorem wpSeq_quiet (hi : l[i]? = some o) (hw : Region.wanted o (yielded l.toArray a.tmps) = true)
    (h : ∃ v, (∀ W, Ext S w W → (execOp a.eval o).run P W = .ok (.value v) W) ∧ ∀ K : Act → Prop, (∀ a, wpSeq P l.toArray Q S rest a w → K a) → K (a.put o.dst v)) : wpSeq P l.toArray Q S ((i, true) :: rest) a w :=
  let ⟨v, hv, h⟩ := h
  ⟨o, v, by simpa using hi, .inl ⟨hw, hv⟩, h _ (fun _ h => h)⟩
/-- A call, or whatever else comes alone. -/
theorem wpSeq_call (hi : l[i]? = some o) (hw : Region.wanted o (yielded l.toArray a.tmps) = true)
    (h : ∀ K : Act → World → Prop, (∀ a' w', Ext S w w' → wpSeq P l.toArray Q S rest a' w' → K a' w') → o.wp P a w K Q) : wpSeq P l.toArray Q S ((i, false) :: rest) a w := by
  show wpOp _ _ _ _ _ _ _
  have hi' : (l.toArray)[i]? = some o := by simpa using hi
  unfold wpOp
  simp only [hi', hw, if_true]
  exact .inl (h _ (fun _ _ h1 h2 => ⟨h1, h2⟩))
theorem wpSeq_end (h : Q .normal a w) : wpSeq P l.toArray (NoPanic Q) S [] a w := h
end

theorem Ext.drewL {S : Nat → Prop} {w w' : World} (h : Ext S w.drew w') : Ext S w w' := ⟨h.os, h.tape, h.output, h.size, h.block⟩
/-- A region that reads, and ends in one row of operations that write: the world behind its draw by its name. -/
theorem wp_region_tail {P : Program} {id : Nat} {Q : Exit → Act → World → Prop} {a : Act} {w : World} {l : List Oper} (n : Nat) (hm : P.follows .mixedOrders = true) (hB : Region.lexTailB .any l.toArray n = true)
    (h : wpStill P l.toArray w.drew (fun a' => wpList P l.toArray Q (l.drop n) a' w.drew) (l.take n) a) : (Code.region id l.toArray true).wp P Q a w :=
  wp_region_still_tail n hm hB h
end Go.Proofs.YtnmpfbffacljfaaDoor
