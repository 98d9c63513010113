/- Package direct: slices of records are sorted. -/
import Derived.Test.YtnmpfbffacljfaaDoorDirS
import Derived.Test.YtnmpfbffacljfaaDoorDirL
import Derived.Shelf.SlSortCmp.NoneTotal
namespace Go.Proofs.YtnmpfbffacljfaaDoor
open Go.RowKit

theorem flat_rcs (l : List Rc) : Go.Sort.flatK rcL 4 l.toArray = (rcs l).toArray := by
  refine Go.Sort.ext_get! (by simp [rcs_len]) fun t ht => ?_
  have ht' : t < l.length * 4 := by simpa using ht
  rw [Go.Sort.get_flatK _ _ _ t (by simpa using ht')]
  have hi : t / 4 < l.length := by omega
  have h := rcs_get l (t / 4) hi (t % 4) (Nat.mod_lt _ (by decide))
  rw [show t / 4 * 4 + t % 4 = t by omega] at h
  have hm : t % 4 < (rcL l[t / 4]).length := by rw [rcL_len]; omega
  rw [List.getElem?_eq_getElem (by rw [rcs_len]; exact ht'), List.getElem?_eq_getElem hm] at h
  injection h with h
  simp [rcs_len, ht', hi, hm, h]
theorem swo_rc : Go.Sort.SWO (Go.Proofs.ltOf cmpR) where
  irrefl x := by
    unfold Go.Proofs.ltOf
    rw [decide_eq_false_iff_not, cmpR_neg, klt_irrefl]
    simp
  trans x y z h k := by
    unfold Go.Proofs.ltOf at *
    rw [decide_eq_true_eq, cmpR_neg] at *
    exact klt_trans h k
  ntrans x y z h k := by
    unfold Go.Proofs.ltOf at *
    rw [decide_eq_false_iff_not, cmpR_neg, Bool.not_eq_true] at *
    simp only [klt, decide_eq_false_iff_not] at *
    omega
theorem size_rcs (l : List Rc) : (rcs l).toArray.size = l.length * 4 := by simp [rcs_len]
/-- What the sort leaves of a slice, and of the world. -/
theorem OwR.sorted {w : World} {base : Nat} {A : Option Addr} {c : Nat} {l m : List Rc} {g off : Nat} (O : OwR w base A c l) (hA : A = some ⟨g, off, none⟩) (hm : m.length = l.length) (q : Nat) (os : Array Obj) :
    OwR (Go.Proofs.sortWorldK rcL 4 w g off q m.toArray os) base A c m ∧ Ext (fun k => ob A = some k) w (Go.Proofs.sortWorldK rcL 4 w g off q m.toArray os) := by
  subst hA
  rcases O.ex with ⟨h, _⟩ | ⟨g', off', cur, h, hb, hg, h1, h2⟩
  · cases h
  · injection h with h
    injection h with h3 h4
    subst h3 h4
    have hlt : g < w.heap.size := hg.lt
    have hle := O.le
    unfold Go.Proofs.sortWorldK Go.Sort.putRowK
    rw [flat_rcs]
    have hother : ∀ k, k < w.heap.size → (Go.Sort.grow (Go.Sort.putRow id (Go.Sort.ahead w q) g off (rcs m).toArray) os).heap[k]? = if g = k then (w.heap[k]?).map (Go.Sort.onCells (Go.Sort.putCells id off (rcs m).toArray)) else w.heap[k]? := by
      intro k hk
      have e : (Go.Sort.grow (Go.Sort.putRow id (Go.Sort.ahead w q) g off (rcs m).toArray) os).heap = w.heap.modify g (Go.Sort.onCells (Go.Sort.putCells id off (rcs m).toArray)) ++ os := rfl
      rw [e, Array.getElem?_append_left (by simpa using hk), Array.getElem?_modify]
    have hgB : Blk (Go.Sort.grow (Go.Sort.putRow id (Go.Sort.ahead w q) g off (rcs m).toArray) os) g 37 (Go.Sort.putCells id off (rcs m).toArray cur) := by
      unfold Blk
      rw [hother g hlt, if_pos rfl, hg]
      rfl
    refine ⟨⟨rcs_len m, by rw [hm]; exact O.le, O.max, .inr ⟨g, off, _, rfl, hb, hgB, by simpa [Go.Sort.putCells] using h1, ?_⟩⟩, ⟨rfl, rfl, rfl, ?_, fun k hk hn => ?_⟩⟩
    · have hml := rcs_len m
      have hsz : off + m.length * 4 ≤ cur.size := by rw [hm]; omega
      apply List.ext_getElem?
      intro i
      rw [List.getElem?_take]
      split
      · rename_i hi
        rw [List.getElem?_drop, Array.getElem?_toList]
        unfold Go.Sort.putCells
        rw [Array.getElem?_mapIdx, Array.getElem?_eq_getElem (by omega)]
        simp [hml, hi]
      · rename_i hi
        rw [List.getElem?_eq_none (by omega)]
    · show w.heap.size ≤ (w.heap.modify g _ ++ os).size
      simp
    · rw [hother k hk, if_neg (fun e => hn (by rw [← e]; rfl))]
set_option maxHeartbeats 1000000 in
theorem sort_calls {w : World} {base : Nat} {A : Option Addr} {c n : Nat} {l : List Rc} (O : OwR w base A c l) (hn : l.length = n) (hl : n ≤ 1000000) :
    Calls Tryd.prog 48 #[.slice A n c, .func (.func 49) #[] #[]] w fun e w' =>
      e = .returned (.tuple #[]) ∧ ∃ m, m.Perm l ∧ m.Pairwise (fun a b => klt b a = false) ∧ OwR w' base A c m ∧ Ext (fun k => ob A = some k) w w' := by
  subst hn
  rcases O.ex with ⟨rfl, h0⟩ | ⟨g, off, cur, hA, hb, hg, h1, h2⟩
  · have hl0 : l = [] := List.eq_nil_of_length_eq_zero (by have := O.le; omega)
    subst hl0
    refine (AnyF.slices_SortFunc_none sortR none c _ w).mono ?_
    rintro e w' ⟨rfl, rfl⟩
    exact ⟨rfl, [], List.Perm.refl _, .nil, O, Ext.refl _ _⟩
  · have hle := O.le
    have hlen := rcs_len l
    have hH : Go.Sort.HoldsK rcL 4 w g off l.toArray := by
      unfold Go.Sort.HoldsK
      rw [flat_rcs]
      intro j hj
      rw [size_rcs] at hj
      refine ⟨?_, hg.frozen _⟩
      have : (rcs l)[j]? = cur.toList[off + j]? := by rw [← h2, List.getElem?_take, if_pos hj, List.getElem?_drop]
      rw [hg.cell, ← Array.getElem?_toList, ← this, List.getElem?_eq_getElem (by omega)]
      simp [hlen, hj]
    have hcmp : CmpLays Tryd.prog 49 #[] rcL 4 cmpR g off l.toArray.size w := fun _ _ _ _ x y => order_calls _ x y
    have hs : l.toArray.size = l.length := by simp
    have key := AnyQ.slices_SortFunc sortR 4 Tryd.isAgg37 Tryd.sizeOf37 rcL rcL_len rcL_one cmpR swo_rc 49 #[] g off c l.toArray w (enters_of Tryd.func49 (by kernel_rfl) rfl) hcmp hH hg.lt (by omega)
    rw [hs] at key
    subst hA
    refine key.mono ?_
    rintro e w' ⟨rfl, d', q, os, hp, hso, rfl⟩
    obtain ⟨m, rfl⟩ : ∃ m : List Rc, d' = m.toArray := ⟨d'.toList, by simp⟩
    have hml : m.length = l.length := by have := hp.1; simpa using this
    have hpm : m.Perm l := by
      have h3 := hp.2.2
      have e1 : (m.toArray.extract 0 l.length).toList = m := by simp [← hml]
      have e2 : (l.toArray.extract 0 l.length).toList = l := by simp
      rw [e1, e2] at h3
      exact h3
    obtain ⟨o1, o2⟩ := O.sorted rfl hml q os
    refine ⟨rfl, m, hpm, ?_, o1, o2⟩
    rw [List.pairwise_iff_getElem]
    intro i j hi hj hij
    have h4 := hso i j (Nat.zero_le _) hij (by omega)
    unfold Go.Proofs.ltOf at h4
    rw [decide_eq_false_iff_not, cmpR_neg, Bool.not_eq_true] at h4
    simpa [hi, hj] using h4
end Go.Proofs.YtnmpfbffacljfaaDoor
