/- Ranging over maps that the call owns, whatever the rounds lay beside. Plain lemmas, no program. -/
import Derived.Test.YtnmpfbffacljfaaDoorMap
import Derived.Laws.IdiomRangeMap
namespace Go.Proofs.YtnmpfbffacljfaaDoor
open Go.RowKit Go.MapKept

section
variable {κ : Type}
/-- Block r is an iterator over the map of block b, whose entries are L; rem is still to come. -/
structure It (enc : κ → Value) (w : World) (r b : Nat) (L rem : List (κ × Value)) : Prop where
  ex : ∃ es clock seen, w.heap[b]? = some (.map es clock) ∧ w.heap[r]? = some (.mapIter (some b) clock seen clock) ∧ es.toList.map (fun e => (e.key, e.val)) = L.map (fun x => (enc x.1, x.2)) ∧
    es.toList.Pairwise (fun a b => a.born ≠ b.born) ∧ (∀ e ∈ es.toList, e.born < clock) ∧
    (es.toList.filter (fun e => !seen.contains e.born)).map (fun e => (e.key, e.val)) = rem.map (fun x => (enc x.1, x.2))
variable {enc : κ → Value} {S : Nat → Prop} {w w' : World} {r b : Nat} {L rem : List (κ × Value)} {P : Program}
theorem It.lt (h : It enc w r b L rem) : r < w.heap.size := by
  obtain ⟨es, clock, seen, _, hr, _⟩ := h.ex
  exact (Array.getElem?_eq_some_iff.1 hr).1
theorem It.ltb (h : It enc w r b L rem) : b < w.heap.size := by
  obtain ⟨es, clock, seen, hb, _⟩ := h.ex
  exact (Array.getElem?_eq_some_iff.1 hb).1
theorem It.ext (h : It enc w r b L rem) (hx : Ext S w w') (h1 : ¬ S r) (h2 : ¬ S b) : It enc w' r b L rem := by
  obtain ⟨es, clock, seen, hb, hr, hL⟩ := h.ex
  exact ⟨es, clock, seen, (hx.block b h.ltb h2).trans hb, (hx.block r h.lt h1).trans hr, hL⟩
theorem It.extN (h : It enc w r b L rem) (hx : Ext Non w w') : It enc w' r b L rem := h.ext hx (fun h => h) (fun h => h)
theorem It.drew (h : It enc w r b L rem) : It enc w.drew r b L rem := ⟨h.ex⟩
/-- How many are still to come. -/
def itLeft (w : World) (r b : Nat) : Nat :=
  match w.heap[r]?, w.heap[b]? with
  | some (.mapIter _ _ seen _), some (.map es _) => (es.toList.filter (fun e => !seen.contains e.born)).length
  | _, _ => 0
theorem It.left (h : It enc w r b L rem) : itLeft w r b = rem.length := by
  obtain ⟨es, clock, seen, hb, hr, _, _, _, hrem⟩ := h.ex
  unfold itLeft
  rw [hb, hr]
  have := congrArg List.length hrem
  simpa using this
/-- The map is as it was. -/
theorem It.mp (h : It enc w r b L rem) : Mp enc w b L := by
  obtain ⟨es, clock, seen, hb, hr, hL, hp, hc, _⟩ := h.ex
  exact ⟨es, clock, hb, hL, hp, hc⟩
theorem It.ne (h : It enc w r b L rem) : r ≠ b := by
  rintro rfl
  obtain ⟨es, clock, seen, hb, hr, _⟩ := h.ex
  rw [hb] at hr
  cases hr
/-- range m. -/
theorem Mp.range (h : Mp enc w b L) {t kt et : TypeId} (ht : P.underlying t = some (.map kt et)) :
    ∃ w', (Instr.range t (.map (some b))).run P w = .ok (.pointer (some ⟨w.heap.size, 0, none⟩)) w' ∧ It enc w' w.heap.size b L L ∧ Ext Non w w' ∧ w'.heap.size = w.heap.size + 1 := by
  obtain ⟨es, clock, hb, hL, hp, hc⟩ := h.ex
  refine ⟨_, run_range_map w t kt et b es clock ht hb, ⟨es, clock, #[], (heap_alloc_old w _ h.lt).trans hb, heap_alloc_new w _, hL, hp, hc, ?_⟩, (Ext.refl _ _).alloc _, by simp⟩
  have e : es.toList.filter (fun e => !(#[] : Array Nat).contains e.born) = es.toList := List.filter_eq_self.2 (fun a _ => by simp)
  rw [e, hL]
theorem filter_out (x : MapEntry) : ∀ (l1 l2 : List MapEntry), (l1 ++ x :: l2).Pairwise (fun a b => a.born ≠ b.born) → (l1 ++ x :: l2).filter (fun e => e.born != x.born) = l1 ++ l2
  | [], l2, h => by
    rw [List.nil_append, List.pairwise_cons] at h
    rw [List.nil_append, List.nil_append, List.filter_cons, if_neg (by simp)]
    exact List.filter_eq_self.2 (fun a ha => by simpa using (h.1 a ha).symm)
  | y :: l1, l2, h => by
    rw [List.cons_append, List.pairwise_cons] at h
    rw [List.cons_append, List.filter_cons, if_pos (by simpa using h.1 x (by simp)), filter_out x l1 l2 h.2, List.cons_append]
theorem map_cut {α β γ : Type} (f : α → γ) (g : β → γ) : ∀ (l1 : List α) (x : α) (l2 : List α) (m : List β), (l1 ++ x :: l2).map f = m.map g → ∃ m1 y m2, m = m1 ++ y :: m2 ∧ f x = g y ∧ l1.map f = m1.map g ∧ l2.map f = m2.map g
  | [], x, l2, [], h => by cases h
  | [], x, l2, y :: m, h => by
    rw [List.nil_append, List.map_cons, List.map_cons, List.cons.injEq] at h
    exact ⟨[], y, m, rfl, h.1, rfl, h.2⟩
  | a :: l1, x, l2, [], h => by cases h
  | a :: l1, x, l2, y :: m, h => by
    rw [List.cons_append, List.map_cons, List.map_cons, List.cons.injEq] at h
    obtain ⟨m1, z, m2, rfl, h1, h2, h3⟩ := map_cut f g l1 x l2 m h.2
    exact ⟨y :: m1, z, m2, rfl, h1, by rw [List.map_cons, List.map_cons, h.1, h2], h3⟩
theorem Ext.setMap {a : World} (h : Ext (One r) a w) (o : Obj) : Ext (One r) a { w with heap := w.heap.setIfInBounds r o } := h.trans' (Ext.putMap w r o)
/-- What the tape says. -/
theorem choose_any (n : Nat) (h0 : 0 < n) (w : World) : ∃ (j : Nat) (w1 : World), j < n ∧ Ext Non w w1 ∧ w1.heap = w.heap ∧ (choose (Question.mapNext n)).run P w = .ok j w1 := by
  by_cases hf : n ≤ 1
  · exact ⟨0, w, by omega, Ext.refl _ _, rfl, by simp [choose, Sem.run, Question.forced, hf]⟩
  · exact ⟨_, w.drew, Nat.mod_lt _ (by omega), (Ext.refl _ w).drew, rfl, by
      simp only [choose, Sem.run, Question.forced, decide_eq_true_eq, hf, if_false, Question.cut]
      rfl⟩
theorem run_setIt {x : Option Nat} {c d : Nat} {s : Array Nat} (hr : w.heap[r]? = some (.mapIter x c s d)) (o' : Obj) : (setObj r o').run P w = .ok () { w with heap := w.heap.setIfInBounds r o' } := by
  simp only [setObj, Sem.run, hr]
/-- The loop's step: nothing is left, or one of those that are, whichever. -/
theorem It.next (P : Program) (h : It enc w r b L rem) :
    (rem = [] ∧ ∀ ty, (Instr.next (.pointer (some ⟨r, 0, none⟩)) false ty).run P w = .ok (.tuple #[.bool false]) w) ∨
    ∃ l1 x l2 w', rem = l1 ++ x :: l2 ∧ (∀ ty, (Instr.next (.pointer (some ⟨r, 0, none⟩)) false ty).run P w = .ok (.tuple #[.bool true, enc x.1, x.2]) w') ∧ It enc w' r b L (l1 ++ l2) ∧ Ext (One r) w w' ∧
      ∀ W, Ext Non w' W → (Instr.entry (.pointer (some ⟨r, 0, none⟩))).run P W = .ok (.tuple #[enc x.1, x.2]) W := by
  have hty : ∀ ty, Instr.next (.pointer (some ⟨r, 0, none⟩)) false ty = Instr.next (.pointer (some ⟨r, 0, none⟩)) false 0 := fun _ => rfl
  simp only [hty, forall_const]
  have hne := h.ne
  have hlt := h.lt
  obtain ⟨es, clock, seen, hb, hr, hL, hp, hc, hrem⟩ := h.ex
  simp only [Instr.next, getObj, Sem.run_bind, Sem.run, hr, hb, Result.andThen, next_test_false seen es clock clock hc (Nat.le_refl _), Bool.false_eq_true, if_false]
  have hmem : ∀ x ∈ (Array.filter (fun e => !seen.contains e.born) es).toList, x.born < clock := fun x hx => hc x (by simp at hx ⊢; exact hx.1)
  obtain ⟨F, hF⟩ : ∃ F, Array.filter (fun e => !seen.contains e.born) es = F := ⟨_, rfl⟩
  have hFl : F.toList = es.toList.filter (fun e => !seen.contains e.born) := by rw [← hF, Array.toList_filter]
  rw [hF] at hmem ⊢
  rw [← hFl] at hrem
  have e1 : F.filter (fun x => decide (x.born < clock)) = F := Array.filter_eq_self.2 (fun x hx => by simpa using hmem x (by simpa using hx))
  have e2 : F.filter (fun x => decide (x.born ≥ clock)) = #[] := by
    rw [Array.filter_eq_empty_iff]
    intro x hx
    have := hmem x (by simpa using hx)
    simp
    omega
  simp only [e1, e2, Array.append_empty]
  by_cases h0 : F.size = 0
  · left
    have hF0 : F = #[] := Array.eq_empty_of_size_eq_zero h0
    subst hF0
    have hr0 : rem = [] := by
      have := congrArg List.length hrem
      simpa using this.symm
    subst hr0
    refine ⟨rfl, ?_⟩
    simp [choose, Sem.run, Question.forced]
  · right
    have hne0 : F.isEmpty = false := by simp [Array.isEmpty, h0]
    simp only [hne0, Bool.false_eq_true, if_false, Array.empty_append, Array.size_map]
    obtain ⟨j, w1, hj, hx1, hh1, hrun⟩ := choose_any (P := P) F.size (by omega) w
    have hjl : j < F.toList.length := by simpa using hj
    have hcut : F.toList = F.toList.take j ++ F[j] :: F.toList.drop (j + 1) := by
      have := List.take_append_drop j F.toList
      rw [List.drop_eq_getElem_cons hjl] at this
      simpa using this.symm
    generalize F.toList.take j = f1 at hcut
    generalize F.toList.drop (j + 1) = f2 at hcut
    obtain ⟨x, hx⟩ : ∃ x, F[j] = x := ⟨_, rfl⟩
    rw [hx] at hcut
    rw [hcut] at hrem
    obtain ⟨m1, y, m2, rfl, hy, hm1, hm2⟩ := map_cut _ _ f1 x f2 rem hrem
    injection hy with hy1 hy2
    have hr1 : r < w1.heap.size := by rw [hh1]; exact hlt
    have hr2 : w1.heap[r]? = some (.mapIter (some b) clock seen clock) := by rw [hh1]; exact hr
    have hxF : x ∈ es.toList := by
      have : x ∈ F.toList := by rw [hcut]; simp
      rw [hFl] at this
      exact (List.mem_filter.1 this).1
    refine ⟨m1, y, m2, { w1 with heap := w1.heap.setIfInBounds r (.mapIter (some b) clock (seen.push x.born) clock) }, rfl, ?_, ?_, (hx1.imp (fun _ _ h => h.elim)).setMap _, ?_⟩
    · simp only [hrun, Array.getElem?_map, Array.getElem?_eq_getElem hj, Option.map_some, hx, Sem.run_bind, run_setIt (P := P) hr2, Result.andThen]
      rw [hy1, hy2]
      rfl
    · refine ⟨es, clock, seen.push x.born, ?_, by simp [hr1], hL, hp, hc, ?_⟩
      · rw [← hb, ← hh1]
        simp [Array.getElem?_setIfInBounds, hne]
      · have hpF : F.toList.Pairwise (fun a b => a.born ≠ b.born) := by rw [hFl]; exact hp.filter _
        rw [hcut] at hpF
        have e3 : es.toList.filter (fun e => !(seen.push x.born).contains e.born) = F.toList.filter (fun e => e.born != x.born) := by
          rw [hFl, List.filter_filter]
          refine List.filter_congr fun e _ => ?_
          rw [Bool.eq_iff_iff]
          simp only [Bool.not_eq_true', Bool.and_eq_true, bne_iff_ne, ne_eq, Array.contains_eq_mem, decide_eq_false_iff_not, Array.mem_push, not_or]
          exact ⟨fun h => ⟨h.2, h.1⟩, fun h => ⟨h.2, h.1⟩⟩
        rw [e3, hcut, filter_out x f1 f2 hpF, List.map_append, List.map_append, hm1, hm2]
    · intro W hW
      have hWr : W.heap[r]? = some (.mapIter (some b) clock (seen.push x.born) clock) := (hW.block r (by simpa using hr1) (fun h => h)).trans (by simp [hr1])
      have hWb : W.heap[b]? = some (.map es clock) := by
        refine (hW.block b (by rw [Array.size_setIfInBounds, hh1]; exact h.ltb) (fun h => h)).trans ?_
        rw [← hb, ← hh1]
        simp [Array.getElem?_setIfInBounds, hne]
      have hf : es.find? (·.born == x.born) = some x := by rw [← Array.find?_toList]; exact find_born x es.toList (by rw [List.Nodup, List.pairwise_map]; exact hp) hxF
      simp only [Instr.entry, getObj, Sem.run_bind, Sem.run, hWr, hWb, Result.andThen, Array.back?_push, bne_self_eq_false, Bool.false_eq_true, if_false, hf]
      rw [hy1, hy2]
      rfl
end
end Go.Proofs.YtnmpfbffacljfaaDoor
