/- As Seq, where two rows of operations may come by turns: a tree of orders. Plain lemmas, no program. -/
import Derived.Test.YtnmpfbffacljfaaDoorSeq
namespace Go.Proofs.YtnmpfbffacljfaaDoor
open Go.RowKit

/-- Orders: what only reads; what comes alone; two of which either may come first. -/
inductive Ordr where
  | stop
  | q (i : Nat) (r : Ordr)
  | c (i : Nat) (r : Ordr)
  | b (i : Nat) (r : Ordr) (j : Nat) (s : Ordr)
def Ordr.depth : Ordr → Nat
  | .stop => 0
  | .q _ r => r.depth + 1
  | .c _ r => r.depth + 1
  | .b _ r _ s => max r.depth s.depth + 1

section
variable {P : Program} {md : Region.Mode}
def treeOk (md : Region.Mode) (ops : Array Oper) : Ordr → Array Bool → Bool
  | .stop, listed => (Region.ready md ops listed).isEmpty
  | .q i r, listed => Region.free md ops listed i && ((Region.ready md ops listed).contains i && treeOk md ops r (listed.setIfInBounds i true))
  | .c i r, listed => ((Region.ready md ops listed).length == 1) && ((Region.ready md ops listed).contains i && treeOk md ops r (listed.setIfInBounds i true))
  | .b i r j s, listed => ((Region.ready md ops listed).all fun k => k == i || k == j) && (!(Region.ready md ops listed).isEmpty && (treeOk md ops r (listed.setIfInBounds i true) && treeOk md ops s (listed.setIfInBounds j true)))

/-- The walk in such orders. -/
def wpTree (P : Program) (ops : Array Oper) (Q : Exit → Act → World → Prop) (S : Nat → Prop) : Ordr → Act → World → Prop
  | .stop, a, w => Q .normal a w
  | .q i r, a, w => ∃ o v, ops[i]? = some o ∧ YieldsIf P ops (fun W => Ext S w W) o v a ∧ wpTree P ops Q S r (a.put o.dst v) w
  | .c i r, a, w => wpOp P ops Q i (fun a' w' => Ext S w w' ∧ wpTree P ops Q S r a' w') a w
  | .b i r j s, a, w => wpOp P ops Q i (fun a' w' => Ext S w w' ∧ wpTree P ops Q S r a' w') a w ∧ wpOp P ops Q j (fun a' w' => Ext S w w' ∧ wpTree P ops Q S s a' w') a w

theorem tree_held {ops : Array Oper} {Q : Exit → Act → World → Prop} {S : Nat → Prop} (hs : Region.noSelect ops = true) (hQ : ∀ c a d v w, Q (.panic c) (Act.put a d v) w → Q (.panic c) a w) (t : Ordr) :
    ∀ (listed : Array Bool) (a : Act) (w : World) (fuel : Nat), t.depth ≤ fuel → treeOk md ops t listed = true → wpTree P ops Q S t a w → wpAnyH P md ops Q (fun W => Ext S w W) fuel listed a w := by
  induction t with
  | stop =>
    intro listed a w fuel _ ho h
    have : Region.ready md ops listed = [] := by simpa [treeOk] using ho
    exact wpAnyH_done this h fuel
  | q i r ih =>
    intro listed a w fuel hf ho h
    obtain ⟨fuel, rfl⟩ : ∃ k, fuel = k + 1 := ⟨fuel - 1, by simp [Ordr.depth] at hf; omega⟩
    simp only [treeOk, Bool.and_eq_true] at ho
    obtain ⟨o, v, hi, hy, hn⟩ := h
    exact wpAnyH_take hi hs ho.1 ho.2.1 (fun c a w => hQ c a _ _ w) hy (Ext.refl _ _) (ih _ _ _ _ (by simpa [Ordr.depth] using hf) ho.2.2 hn)
  | c i r ih =>
    intro listed a w fuel hf ho h
    obtain ⟨fuel, rfl⟩ : ∃ k, fuel = k + 1 := ⟨fuel - 1, by simp [Ordr.depth] at hf; omega⟩
    simp only [treeOk, Bool.and_eq_true] at ho
    obtain ⟨h1, h2, h3⟩ := ho
    have hr : Region.ready md ops listed = [i] := by
      generalize Region.ready md ops listed = r at h1 h2
      match r, h1, h2 with
      | [j], _, h2 => simp at h2; rw [h2]
    refine wpAnyH_all hr (by simp) (fun j hj => ?_)
    have hj' : j = i := by simpa using hj
    subst hj'
    exact wpOp_mono (fun a' w' h' => ⟨h'.1, wpAnyH_imp (fun W hW => h'.1.trans' hW) _ _ _ _ (ih _ _ _ _ (by simpa [Ordr.depth] using hf) h3 h'.2)⟩) h
  | b i r j s ih1 ih2 =>
    intro listed a w fuel hf ho h
    obtain ⟨fuel, rfl⟩ : ∃ k, fuel = k + 1 := ⟨fuel - 1, by simp [Ordr.depth] at hf; omega⟩
    simp only [treeOk, Bool.and_eq_true] at ho
    obtain ⟨h1, h2, h3, h4⟩ := ho
    have hd : r.depth ≤ fuel ∧ s.depth ≤ fuel := by simp only [Ordr.depth] at hf; omega
    refine wpAnyH_all rfl (by simpa using h2) (fun k hk => ?_)
    have hk' := List.all_eq_true.1 h1 k hk
    simp only [Bool.or_eq_true, beq_iff_eq] at hk'
    rcases hk' with rfl | rfl
    · exact wpOp_mono (fun a' w' h' => ⟨h'.1, wpAnyH_imp (fun W hW => h'.1.trans' hW) _ _ _ _ (ih1 _ _ _ _ hd.1 h3 h'.2)⟩) h.1
    · exact wpOp_mono (fun a' w' h' => ⟨h'.1, wpAnyH_imp (fun W hW => h'.1.trans' hW) _ _ _ _ (ih2 _ _ _ _ hd.2 h4 h'.2)⟩) h.2

/-- The beginning. -/
theorem wp_region_tree {l : List Oper} {Q : Exit → Act → World → Prop} {id : Nat} {a : Act} {w : World} (S : Nat → Prop) (t : Ordr) (hm : P.follows .mixedOrders = true) (hs : Region.noSelect l.toArray = true)
    (ho : (Nat.ble t.depth l.length && treeOk .any l.toArray t (Array.replicate l.length false)) = true)
    (h : wpTree P l.toArray (NoPanic Q) S t a w.drew) : (Code.region id l.toArray true).wp P Q a w := by
  simp only [Bool.and_eq_true] at ho
  have hQ : ∀ c a d v w, NoPanic Q (.panic c) (Act.put a d v) w → NoPanic Q (.panic c) a w := fun _ _ _ _ _ h => (h : False).elim
  refine wp_region_noPanic ?_
  refine wp_region_held (S := fun W => Ext S w.drew W) hm ?_
  exact tree_held hs hQ t _ a _ _ (by simpa using Nat.le_of_ble_eq_true ho.1) (by simpa using ho.2) h

variable {l : List Oper} {Q : Exit → Act → World → Prop} {S : Nat → Prop} {r s : Ordr} {a : Act} {w : World} {i j : Nat} {o o' : Oper}
/-- What only reads. -/
theorem wpTree_quiet (hi : l[i]? = some o) (hw : Region.wanted o (yielded l.toArray a.tmps) = true)
    (h : ∃ v, (∀ W, Ext S w W → (execOp a.eval o).run P W = .ok (.value v) W) ∧ ∀ K : Act → Prop, (∀ a, wpTree P l.toArray Q S r a w → K a) → K (a.put o.dst v)) : wpTree P l.toArray Q S (.q i r) a w :=
  let ⟨v, hv, h⟩ := h
  ⟨o, v, by simpa using hi, .inl ⟨hw, hv⟩, h _ (fun _ h => h)⟩
theorem wpOp_of {ops : Array Oper} {K : Act → World → Prop} (hi : ops[i]? = some o) (hw : Region.wanted o (yielded ops a.tmps) = true) (h : o.wp P a w K Q) : wpOp P ops Q i K a w := by
  unfold wpOp
  simp only [hi, hw, if_true]
  exact .inl h
/-- A call, or whatever else comes alone. -/
theorem wpTree_call (hi : l[i]? = some o) (hw : Region.wanted o (yielded l.toArray a.tmps) = true)
    (h : ∀ K : Act → World → Prop, (∀ a' w', Ext S w w' → wpTree P l.toArray Q S r a' w' → K a' w') → o.wp P a w K Q) : wpTree P l.toArray Q S (.c i r) a w :=
  wpOp_of (by simpa using hi) hw (h _ (fun _ _ h1 h2 => ⟨h1, h2⟩))
/-- Either of two. -/
theorem wpTree_both (hi : l[i]? = some o) (hw : Region.wanted o (yielded l.toArray a.tmps) = true) (hj : l[j]? = some o') (hw' : Region.wanted o' (yielded l.toArray a.tmps) = true)
    (h : ∀ K : Act → World → Prop, (∀ a' w', Ext S w w' → wpTree P l.toArray Q S r a' w' → K a' w') → o.wp P a w K Q)
    (h' : ∀ K : Act → World → Prop, (∀ a' w', Ext S w w' → wpTree P l.toArray Q S s a' w' → K a' w') → o'.wp P a w K Q) : wpTree P l.toArray Q S (.b i r j s) a w :=
  ⟨wpOp_of (by simpa using hi) hw (h _ (fun _ _ h1 h2 => ⟨h1, h2⟩)), wpOp_of (by simpa using hj) hw' (h' _ (fun _ _ h1 h2 => ⟨h1, h2⟩))⟩
theorem wpTree_end (h : Q .normal a w) : wpTree P l.toArray (NoPanic Q) S .stop a w := h
end
end Go.Proofs.YtnmpfbffacljfaaDoor
