/- As SeqN, where two rows of operations of the first part may come by turns. Plain lemmas, no program. -/
import Derived.Test.YtnmpfbffacljfaaDoorSeqN
import Derived.Test.YtnmpfbffacljfaaDoorSeqT
namespace Go.Proofs.YtnmpfbffacljfaaDoor
open Go.RowKit

section
variable {P : Program} {md : Region.Mode} {ops : Array Oper} {Q : Exit → Act → World → Prop} {S : World → Prop} {n : Nat}
def treeOkN (md : Region.Mode) (ops : Array Oper) (n : Nat) (order2 : List (Nat × Bool)) : Ordr → Array Bool → Bool
  | .stop, listed => ((List.range n).all fun k => listed.getD k true) && seqOk md ops order2 listed
  | .q i r, listed => decide (i < n) && (Region.free md ops listed i && ((Region.ready md ops listed).contains i && treeOkN md ops n order2 r (listed.setIfInBounds i true)))
  | .c i r, listed => ((Region.ready md ops listed).length == 1) && ((Region.ready md ops listed).contains i && treeOkN md ops n order2 r (listed.setIfInBounds i true))
  | .b i r j s, listed => ((Region.ready md ops listed).all fun k => k == i || k == j) && (!(Region.ready md ops listed).isEmpty && (treeOkN md ops n order2 r (listed.setIfInBounds i true) && treeOkN md ops n order2 s (listed.setIfInBounds j true)))
def wpTreeE (P : Program) (ops : Array Oper) (Q : Exit → Act → World → Prop) (S : World → Prop) (E : Act → World → Prop) : Ordr → Act → World → Prop
  | .stop, a, w => E a w
  | .q i r, a, w => ∃ o v, ops[i]? = some o ∧ YieldsIf P ops S o v a ∧ wpTreeE P ops Q S E r (a.put o.dst v) w
  | .c i r, a, w => wpOp P ops Q i (fun a' w' => S w' ∧ wpTreeE P ops Q S E r a' w') a w
  | .b i r j s, a, w => wpOp P ops Q i (fun a' w' => S w' ∧ wpTreeE P ops Q S E r a' w') a w ∧ wpOp P ops Q j (fun a' w' => S w' ∧ wpTreeE P ops Q S E s a' w') a w
theorem treeN_held (hs : Region.noSelect ops = true) (ht : tailN md ops n = true) (hQ : ∀ c a d v w, Q (.panic c) (Act.put a d v) w → Q (.panic c) a w) (order2 : List (Nat × Bool)) (t : Ordr) :
    ∀ (listed : Array Bool) (a : Act) (w : World) (fuel : Nat), t.depth + order2.length ≤ fuel → treeOkN md ops n order2 t listed = true → S w → wpTreeE P ops Q S (wpSeqP P ops Q (fun _ => True) order2) t a w → wpAnyN P md ops Q S n fuel listed a w := by
  induction t with
  | stop =>
    intro listed a w fuel hf ho _ h
    simp only [treeOkN, Bool.and_eq_true] at ho
    refine wpAnyN_of_any _ _ _ _ (fun k hk => List.all_eq_true.1 ho.1 k (List.mem_range.2 hk)) (wpAny_of_held _ _ _ _ (seqP_held (S := fun _ => True) hs hQ order2 listed a w fuel (by simpa [Ordr.depth] using hf) ho.2 trivial h))
  | q i r ih =>
    intro listed a w fuel hf ho hS h
    obtain ⟨fuel, rfl⟩ : ∃ k, fuel = k + 1 := ⟨fuel - 1, by simp [Ordr.depth] at hf; omega⟩
    have hf' : r.depth + order2.length ≤ fuel := by simp [Ordr.depth] at hf; omega
    simp only [treeOkN, Bool.and_eq_true, decide_eq_true_eq] at ho
    obtain ⟨o, v, hi, hy, hn⟩ := h
    exact wpAnyN_first ho.1 ht hi (Region.noSelect_spec hs) (fun c a w => hQ c a _ _ w) fuel listed a w (Region.free_spec hi ho.2.1) (by simpa using ho.2.2.1) hy hS (ih _ _ _ _ hf' ho.2.2.2 hS hn)
  | c i r ih =>
    intro listed a w fuel hf ho hS h
    obtain ⟨fuel, rfl⟩ : ∃ k, fuel = k + 1 := ⟨fuel - 1, by simp [Ordr.depth] at hf; omega⟩
    have hf' : r.depth + order2.length ≤ fuel := by simp [Ordr.depth] at hf; omega
    simp only [treeOkN, Bool.and_eq_true] at ho
    obtain ⟨h1, h2, h3⟩ := ho
    have hr : Region.ready md ops listed = [i] := by
      generalize Region.ready md ops listed = r at h1 h2
      match r, h1, h2 with
      | [j], _, h2 => simp at h2; rw [h2]
    refine ⟨fun h0 => (by rw [hr] at h0; cases h0), fun j hj => ?_⟩
    rw [hr] at hj
    have hj' : j = i := by simpa using hj
    subst hj'
    exact wpOp_mono (fun a' w' h' => ⟨fun _ => h'.1, ih _ _ _ _ hf' h3 h'.1 h'.2⟩) h
  | b i r j s ih1 ih2 =>
    intro listed a w fuel hf ho hS h
    obtain ⟨fuel, rfl⟩ : ∃ k, fuel = k + 1 := ⟨fuel - 1, by simp [Ordr.depth] at hf; omega⟩
    have hf' : r.depth + order2.length ≤ fuel ∧ s.depth + order2.length ≤ fuel := by simp only [Ordr.depth] at hf; omega
    simp only [treeOkN, Bool.and_eq_true] at ho
    obtain ⟨h1, h2, h3, h4⟩ := ho
    refine ⟨fun h0 => (by rw [h0] at h2; simp at h2), fun k hk => ?_⟩
    have hk' := List.all_eq_true.1 h1 k hk
    simp only [Bool.or_eq_true, beq_iff_eq] at hk'
    rcases hk' with rfl | rfl
    · exact wpOp_mono (fun a' w' h' => ⟨fun _ => h'.1, ih1 _ _ _ _ hf'.1 h3 h'.1 h'.2⟩) h.1
    · exact wpOp_mono (fun a' w' h' => ⟨fun _ => h'.1, ih2 _ _ _ _ hf'.2 h4 h'.1 h'.2⟩) h.2
/-- The beginning. -/
theorem wp_region_treeN {l : List Oper} {id : Nat} {a : Act} {w : World} (S : World → Prop) (n : Nat) (t : Ordr) (order2 : List (Nat × Bool)) (hm : P.follows .mixedOrders = true) (hs : Region.noSelect l.toArray = true) (ht : tailN .any l.toArray n = true)
    (ho : (Nat.ble (t.depth + order2.length) l.length && treeOkN .any l.toArray n order2 t (Array.replicate l.length false)) = true) (hS : S w.drew)
    (h : wpTreeE P l.toArray (NoPanic Q) S (wpSeqP P l.toArray (NoPanic Q) (fun _ => True) order2) t a w.drew) : (Code.region id l.toArray true).wp P Q a w := by
  simp only [Bool.and_eq_true] at ho
  have hQ : ∀ c a d v w, NoPanic Q (.panic c) (Act.put a d v) w → NoPanic Q (.panic c) a w := fun _ _ _ _ _ h => (h : False).elim
  refine wp_region_noPanic ?_
  refine wp_region_any hm (wpAny_of_N (S := S) (n := n) _ _ _ _ ?_)
  exact treeN_held hs ht hQ order2 t _ a _ _ (by simpa using Nat.le_of_ble_eq_true ho.1) (by simpa using ho.2) hS h
end
section
variable {P : Program} {l : List Oper} {Q : Exit → Act → World → Prop} {S : World → Prop} {E : Act → World → Prop} {r s : Ordr} {a : Act} {w : World} {i j : Nat} {o o' : Oper}
/-- What only reads. -/
theorem wpTreeE_quiet (hi : l[i]? = some o) (hw : Region.wanted o (yielded l.toArray a.tmps) = true)
    (h : ∃ v, (∀ W, S W → (execOp a.eval o).run P W = .ok (.value v) W) ∧ ∀ K : Act → Prop, (∀ a, wpTreeE P l.toArray Q S E r a w → K a) → K (a.put o.dst v)) : wpTreeE P l.toArray Q S E (.q i r) a w :=
  let ⟨v, hv, h⟩ := h
  ⟨o, v, by simpa using hi, .inl ⟨hw, hv⟩, h _ (fun _ h => h)⟩
/-- A call, or whatever else comes alone. -/
theorem wpTreeE_call (hi : l[i]? = some o) (hw : Region.wanted o (yielded l.toArray a.tmps) = true)
    (h : ∀ K : Act → World → Prop, (∀ a' w', S w' → wpTreeE P l.toArray Q S E r a' w' → K a' w') → o.wp P a w K Q) : wpTreeE P l.toArray Q S E (.c i r) a w :=
  wpOp_of (by simpa using hi) hw (h _ (fun _ _ h1 h2 => ⟨h1, h2⟩))
/-- Either of two. -/
theorem wpTreeE_both (hi : l[i]? = some o) (hw : Region.wanted o (yielded l.toArray a.tmps) = true) (hj : l[j]? = some o') (hw' : Region.wanted o' (yielded l.toArray a.tmps) = true)
    (h : ∀ K : Act → World → Prop, (∀ a' w', S w' → wpTreeE P l.toArray Q S E r a' w' → K a' w') → o.wp P a w K Q)
    (h' : ∀ K : Act → World → Prop, (∀ a' w', S w' → wpTreeE P l.toArray Q S E s a' w' → K a' w') → o'.wp P a w K Q) : wpTreeE P l.toArray Q S E (.b i r j s) a w :=
  ⟨wpOp_of (by simpa using hi) hw (h _ (fun _ _ h1 h2 => ⟨h1, h2⟩)), wpOp_of (by simpa using hj) hw' (h' _ (fun _ _ h1 h2 => ⟨h1, h2⟩))⟩
theorem wpTreeE_end (h : E a w) : wpTreeE P l.toArray Q S E .stop a w := h
end
end Go.Proofs.YtnmpfbffacljfaaDoor
