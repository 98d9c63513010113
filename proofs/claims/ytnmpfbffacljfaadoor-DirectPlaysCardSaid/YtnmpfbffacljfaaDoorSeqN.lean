/- As SeqP, where the last operations wait for all others: what is known of the worlds need not hold behind them. Plain lemmas, no program. -/
import Derived.Test.YtnmpfbffacljfaaDoorSeqP
namespace Go.Proofs.YtnmpfbffacljfaaDoor
open Go.RowKit

section
variable {P : Program} {md : Region.Mode}
/-- Each operation from n on waits for each ahead of n. -/
def tailN (md : Region.Mode) (ops : Array Oper) (n : Nat) : Bool :=
  (List.range ops.size).all fun t => t < n || (match ops[t]? with | none => true | some o => (List.range n).all fun k => o.after.any fun e => Region.binds md e && e.on == k)
theorem tailN_spec {ops : Array Oper} {n t k : Nat} {o : Oper} (h : tailN md ops n = true) (ho : ops[t]? = some o) (hn : n ≤ t) (hk : k < n) : ∃ e ∈ o.after, Region.binds md e = true ∧ e.on = k := by
  unfold tailN at h
  have ht : t < ops.size := (Array.getElem?_eq_some_iff.1 ho).1
  have h1 := List.all_eq_true.1 h t (List.mem_range.2 ht)
  rw [ho] at h1
  simp only [Bool.or_eq_true, decide_eq_true_eq] at h1
  have h2 := List.all_eq_true.1 (h1.resolve_left (by omega)) k (List.mem_range.2 hk)
  rw [Array.any_eq_true] at h2
  obtain ⟨i, hi, he⟩ := h2
  simp only [Bool.and_eq_true, beq_iff_eq] at he
  exact ⟨_, Array.getElem_mem hi, he.1, he.2⟩

def wpAnyN (P : Program) (md : Region.Mode) (ops : Array Oper) (Q : Exit → Act → World → Prop) (S : World → Prop) (n : Nat) : Nat → Array Bool → Act → World → Prop
  | 0, listed, a, w => Region.ready md ops listed = [] ∧ Q .normal a w
  | fuel + 1, listed, a, w =>
    (Region.ready md ops listed = [] → Q .normal a w) ∧
    ∀ i ∈ Region.ready md ops listed, wpOp P ops Q i (fun a' w' => (i < n → S w') ∧ wpAnyN P md ops Q S n fuel (listed.setIfInBounds i true) a' w') a w
variable {ops : Array Oper} {Q : Exit → Act → World → Prop} {S : World → Prop} {n : Nat}
theorem wpAny_of_N : ∀ (fuel : Nat) (listed : Array Bool) (a : Act) (w : World), wpAnyN P md ops Q S n fuel listed a w → wpAny P md ops Q fuel listed a w
  | 0, _, _, _, h => h
  | fuel + 1, _, _, _, h => ⟨h.1, fun i hi => wpOp_mono (fun a' w' h' => wpAny_of_N fuel _ a' w' h'.2) (h.2 i hi)⟩
theorem wpAnyN_of_any : ∀ (fuel : Nat) (listed : Array Bool) (a : Act) (w : World), (∀ k, k < n → listed.getD k true = true) → wpAny P md ops Q fuel listed a w → wpAnyN P md ops Q S n fuel listed a w
  | 0, _, _, _, _, h => h
  | fuel + 1, listed, _, _, hl, h => ⟨h.1, fun i hi => wpOp_mono (fun a' w' h' => ⟨fun hin => (by
      have h1 := (mem_ready.1 hi).1
      rw [hl i hin] at h1
      cases h1), wpAnyN_of_any fuel _ a' w' (fun k hk => by
      by_cases hik : i = k
      · subst hik
        have := hl i hk
        rw [Array.getD_eq_getD_getElem?] at this ⊢
        rw [Array.getElem?_setIfInBounds]
        split
        · split <;> simp
        · exact this
      · rw [getD_set_ne true hik]; exact hl k hk) h'⟩) (h.2 i hi)⟩
theorem wpAnyN_first {i : Nat} {oi : Oper} {v : Value} (hin : i < n) (ht : tailN md ops n = true) (hi : ops[i]? = some oi) (hsel : ∀ (j : Nat) (o : Oper) cs b, ops[j]? = some o → o.op ≠ .select cs b)
    (hQ : ∀ c a w, Q (.panic c) (a.put oi.dst v) w → Q (.panic c) a w) :
    ∀ (fuel : Nat) (listed : Array Bool) (a : Act) (w : World),
      (∀ j oj, ops[j]? = some oj → j ≠ i → listed.getD j true = false → (∀ e ∈ oj.after, Region.binds md e = true → e.on ≠ i) → oi.apart ops oj = true) →
      i ∈ Region.ready md ops listed → YieldsIf P ops S oi v a → S w →
      wpAnyN P md ops Q S n fuel (listed.setIfInBounds i true) (a.put oi.dst v) w → wpAnyN P md ops Q S n (fuel + 1) listed a w := by
  intro fuel
  induction fuel with
  | zero =>
    intro listed a w _ hr hy hS H
    refine ⟨fun h => (by rw [h] at hr; cases hr), fun j hj => ?_⟩
    by_cases hji : j = i
    · subst hji; exact hy.wpOp hi hS ⟨fun _ => hS, H⟩
    · have := ready_mono hj hji
      rw [H.1] at this
      cases this
  | succ fuel ih =>
    intro listed a w hfree hr hy hS H
    refine ⟨fun h => (by rw [h] at hr; cases hr), fun j hj => ?_⟩
    by_cases hji : j = i
    · subst hji; exact hy.wpOp hi hS ⟨fun _ => hS, H⟩
    · have h1 := H.2 j (ready_mono hj hji)
      obtain ⟨hjun, oj, hoj, hall⟩ := mem_ready.1 hj
      have hnot : ∀ e ∈ oj.after, Region.binds md e = true → e.on ≠ i := fun e he hb heq => by
        have h1 := hall e he hb
        have h0 := (mem_ready.1 hr).1
        rw [heq] at h1
        rcases Nat.lt_or_ge i listed.size with h' | h'
        · simp [h'] at h0 h1; rw [h0] at h1; cases h1
        · simp [Array.getElem?_eq_none h'] at h1
      have hjn : j < n := by
        rcases Nat.lt_or_ge j n with h | h
        · exact h
        · obtain ⟨e, he, hb, heq⟩ := tailN_spec ht hoj h hin
          exact absurd heq (hnot e he hb)
      have h2 := wpOp_putIf hoj (hfree j oj hoj hji hjun hnot) (fun cs b => hsel i oi cs b hi) (fun cs b => hsel j oj cs b hoj) hQ hy h1
      have hfree' : ∀ k ok, ops[k]? = some ok → k ≠ i → (listed.setIfInBounds j true).getD k true = false →
          (∀ e ∈ ok.after, Region.binds md e = true → e.on ≠ i) → oi.apart ops ok = true := fun k ok hk hki hun hno => by
        refine hfree k ok hk hki ?_ hno
        by_cases hjk : j = k
        · subst hjk; exact hjun
        · rw [getD_set_ne true hjk] at hun; exact hun
      refine wpOp_mono (fun a' w' h3 => ⟨h3.2.1, ih (listed.setIfInBounds j true) a' w' hfree' (ready_mono hr (Ne.symm hji)) h3.1 (h3.2.1 hjn) ?_⟩) h2
      rw [Array.setIfInBounds_comm _ _ hji]
      exact h3.2.2

/-- The order, in two parts. -/
def seqOkN (md : Region.Mode) (ops : Array Oper) (n : Nat) (order2 : List (Nat × Bool)) : List (Nat × Bool) → Array Bool → Bool
  | [], listed => ((List.range n).all fun k => listed.getD k true) && seqOk md ops order2 listed
  | (i, true) :: rest, listed => decide (i < n) && (Region.free md ops listed i && ((Region.ready md ops listed).contains i && seqOkN md ops n order2 rest (listed.setIfInBounds i true)))
  | (i, false) :: rest, listed => ((Region.ready md ops listed).length == 1) && ((Region.ready md ops listed).contains i && seqOkN md ops n order2 rest (listed.setIfInBounds i true))
/-- The walk in that order; S holds of every world on the way of the first part. -/
def wpSeqE (P : Program) (ops : Array Oper) (Q : Exit → Act → World → Prop) (S : World → Prop) (E : Act → World → Prop) : List (Nat × Bool) → Act → World → Prop
  | [], a, w => E a w
  | (i, true) :: rest, a, w => ∃ o v, ops[i]? = some o ∧ YieldsIf P ops S o v a ∧ wpSeqE P ops Q S E rest (a.put o.dst v) w
  | (i, false) :: rest, a, w => wpOp P ops Q i (fun a' w' => S w' ∧ wpSeqE P ops Q S E rest a' w') a w
theorem seqN_held (hs : Region.noSelect ops = true) (ht : tailN md ops n = true) (hQ : ∀ c a d v w, Q (.panic c) (Act.put a d v) w → Q (.panic c) a w) (order2 : List (Nat × Bool)) :
    ∀ (order : List (Nat × Bool)) (listed : Array Bool) (a : Act) (w : World) (fuel : Nat), order.length + order2.length ≤ fuel → seqOkN md ops n order2 order listed = true → S w → wpSeqE P ops Q S (wpSeqP P ops Q (fun _ => True) order2) order a w → wpAnyN P md ops Q S n fuel listed a w := by
  intro order
  induction order with
  | nil =>
    intro listed a w fuel hf ho _ h
    simp only [seqOkN, Bool.and_eq_true] at ho
    refine wpAnyN_of_any _ _ _ _ (fun k hk => List.all_eq_true.1 ho.1 k (List.mem_range.2 hk)) (wpAny_of_held _ _ _ _ (seqP_held (S := fun _ => True) hs hQ order2 listed a w fuel (by simpa using hf) ho.2 trivial h))
  | cons p rest ih =>
    intro listed a w fuel hf ho hS h
    obtain ⟨i, b⟩ := p
    obtain ⟨fuel, rfl⟩ : ∃ k, fuel = k + 1 := ⟨fuel - 1, by simp at hf; omega⟩
    have hf' : rest.length + order2.length ≤ fuel := by simp at hf; omega
    cases b with
    | true =>
      simp only [seqOkN, Bool.and_eq_true, decide_eq_true_eq] at ho
      obtain ⟨o, v, hi, hy, hn⟩ := h
      exact wpAnyN_first ho.1 ht hi (Region.noSelect_spec hs) (fun c a w => hQ c a _ _ w) fuel listed a w (Region.free_spec hi ho.2.1) (by simpa using ho.2.2.1) hy hS (ih _ _ _ _ hf' ho.2.2.2 hS hn)
    | false =>
      simp only [seqOkN, Bool.and_eq_true] at ho
      obtain ⟨h1, h2, h3⟩ := ho
      have hr : Region.ready md ops listed = [i] := by
        generalize Region.ready md ops listed = r at h1 h2
        match r, h1, h2 with
        | [j], _, h2 => simp at h2; rw [h2]
      refine ⟨fun h0 => (by rw [hr] at h0; cases h0), fun j hj => ?_⟩
      rw [hr] at hj
      have hj' : j = i := by simpa using hj
      subst hj'
      exact wpOp_mono (fun a' w' h' => ⟨fun _ => h'.1, ih _ _ _ _ hf' h3 h'.1 h'.2⟩) h
/-- The beginning. -/
theorem wp_region_seqN {l : List Oper} {id : Nat} {a : Act} {w : World} (S : World → Prop) (n : Nat) (order order2 : List (Nat × Bool)) (hm : P.follows .mixedOrders = true) (hs : Region.noSelect l.toArray = true) (ht : tailN .any l.toArray n = true)
    (ho : (Nat.ble (order.length + order2.length) l.length && seqOkN .any l.toArray n order2 order (Array.replicate l.length false)) = true) (hS : S w.drew)
    (h : wpSeqE P l.toArray (NoPanic Q) S (wpSeqP P l.toArray (NoPanic Q) (fun _ => True) order2) order a w.drew) : (Code.region id l.toArray true).wp P Q a w := by
  simp only [Bool.and_eq_true] at ho
  have hQ : ∀ c a d v w, NoPanic Q (.panic c) (Act.put a d v) w → NoPanic Q (.panic c) a w := fun _ _ _ _ _ h => (h : False).elim
  refine wp_region_noPanic ?_
  refine wp_region_any hm (wpAny_of_N (S := S) (n := n) _ _ _ _ ?_)
  exact seqN_held hs ht hQ order2 order _ a _ _ (by simpa using Nat.le_of_ble_eq_true ho.1) (by simpa using ho.2) hS h
end
section
variable {P : Program} {l : List Oper} {Q : Exit → Act → World → Prop} {S : World → Prop} {E : Act → World → Prop} {rest : List (Nat × Bool)} {a : Act} {w : World} {i : Nat} {o : Oper}
/-- What only reads. -/
theorem wpSeqE_quiet (hi : l[i]? = some o) (hw : Region.wanted o (yielded l.toArray a.tmps) = true)
    (h : ∃ v, (∀ W, S W → (execOp a.eval o).run P W = .ok (.value v) W) ∧ ∀ K : Act → Prop, (∀ a, wpSeqE P l.toArray Q S E rest a w → K a) → K (a.put o.dst v)) : wpSeqE P l.toArray Q S E ((i, true) :: rest) a w :=
  let ⟨v, hv, h⟩ := h
  ⟨o, v, by simpa using hi, .inl ⟨hw, hv⟩, h _ (fun _ h => h)⟩
/-- A call, or whatever else comes alone. -/
theorem wpSeqE_call (hi : l[i]? = some o) (hw : Region.wanted o (yielded l.toArray a.tmps) = true)
    (h : ∀ K : Act → World → Prop, (∀ a' w', S w' → wpSeqE P l.toArray Q S E rest a' w' → K a' w') → o.wp P a w K Q) : wpSeqE P l.toArray Q S E ((i, false) :: rest) a w := by
  show wpOp _ _ _ _ _ _ _
  have hi' : (l.toArray)[i]? = some o := by simpa using hi
  unfold wpOp
  simp only [hi', hw, if_true]
  exact .inl (h _ (fun _ _ h1 h2 => ⟨h1, h2⟩))
theorem wpSeqE_end (h : E a w) : wpSeqE P l.toArray Q S E [] a w := h
end
end Go.Proofs.YtnmpfbffacljfaaDoor
