/- Whole arrays: rows of cells by a function of the place, loaded and stored as one. Plain lemmas, no program. -/
import Derived.Deep.MidRow
import Derived.Deep.WholeRow
import Derived.Test.YtnmpfbffacljfaaDoorMem
namespace Go.Proofs.YtnmpfbffacljfaaDoor
open Go.RowKit

/-- n cells, each by its place. -/
def rowf (n : Nat) (f : Nat → Value) : Array Value := Array.ofFn (n := n) fun i => f i.val
section
variable {n : Nat} {f g : Nat → Value}
theorem rowf_size (n : Nat) (f : Nat → Value) : (rowf n f).size = n := by simp [rowf]
theorem rowf_get {i : Nat} (h : i < n) : (rowf n f)[i]? = some (f i) := by simp [rowf, h]
theorem rowf_ext (h : ∀ i, i < n → f i = g i) : rowf n f = rowf n g := by
  apply Array.ext
  · simp [rowf]
  · intro i h1 h2
    simp [rowf] at h1 ⊢
    exact h i h1
theorem rowf_set {k : Nat} {v : Value} : (rowf n f).setIfInBounds k v = rowf n (fun i => if i = k then v else f i) := by
  apply Array.ext
  · simp [rowf]
  · intro i h1 h2
    simp [rowf] at h1 ⊢
    have h1' : i < (Array.ofFn (n := n) fun i => f i.val).size := by simpa using h1
    rw [Array.getElem_setIfInBounds h1']
    by_cases hk : k = i
    · subst hk; simp
    · rw [if_neg hk, if_neg (fun h => hk h.symm)]; simp
theorem rowf_one (h : ∀ i, (f i).oneCell' = true) : ∀ u ∈ (rowf n f).toList, u.oneCell' = true := by
  intro u hu
  simp [rowf] at hu
  obtain ⟨i, rfl⟩ := hu
  exact h i
theorem rowf_all (h : ∀ i, (f i).oneCell' = true) : (rowf n f).all (·.oneCell') = true :=
  Array.all_eq_true_iff_forall_mem.2 (fun v hv => rowf_one h v (by simpa using hv))
theorem row_ne {a : Array Value} {n : Nat} (h : a.size = n + 1) : a ≠ #[] := by
  intro e
  rw [e] at h
  cases h
theorem rowf_const (n : Nat) (v : Value) : rowf n (fun _ => v) = Array.replicate n v := by
  apply Array.ext <;> simp [rowf]
end

section
variable {P : Program} (w : World)
@[go_sem high] theorem run_min_nat (ts : Array TypeId) (t : TypeId) (k k' : IntKind) (x y : Nat) : (Builtin.min_ ts t #[.int k (x : Int), .int k' (y : Int)]).run P w = .ok (.int k ((min x y : Nat) : Int)) w := by
  rw [run_min_int2]
  congr 2
  split <;> omega
@[go_sem high] theorem run_max_nat (ts : Array TypeId) (t : TypeId) (k k' : IntKind) (x y : Nat) : (Builtin.max_ ts t #[.int k (x : Int), .int k' (y : Int)]).run P w = .ok (.int k ((max x y : Nat) : Int)) w := by
  rw [run_max_int2]
  congr 2
  split <;> omega
end

section
variable {P : Program} (w : World)
theorem addr_add (b o j : Nat) : (⟨b, o, none⟩ : Addr).add j = ⟨b, o + j, none⟩ := by unfold Addr.add; split <;> simp_all
/-- A part of an array, its elements one cell each. -/
theorem run_arr_lo {T e : TypeId} {n : Nat} (hu : P.underlying T = some (.array n e)) (hs : (P.info? e).map (·.size) = some 1) (b o : Nat) (k : IntKind) (l : Int) (j : Nat) (hl : l = j) (hj : j < n) :
    (Instr.sliceAt T (.pointer (some ⟨b, o, none⟩)) (some (.int k l)) none none).run P w = .ok (.slice (some ⟨b, o + j, none⟩) (n - j) (n - j)) w := by
  subst hl
  obtain ⟨i, hi, hi1⟩ := Option.map_eq_some_iff.1 hs
  have h1 : (j : Int) ≤ (n : Int) := by omega
  have h2 : ¬ n = j := by omega
  simp [Instr.sliceAt, Instr.sureAddr, run_underlying hu, Instr.sliceBounds, Instr.sliceBound, asIntOf, sizeOf, typeInfo, hi, hi1, h2, addr_add, show (j ≤ n) from by omega]
theorem run_arr_hi {T e : TypeId} {n : Nat} (hu : P.underlying T = some (.array n e)) (hs : (P.info? e).map (·.size) = some 1) (b o : Nat) (k : IntKind) (l : Int) (j : Nat) (hl : l = j) (hj : j ≤ n) (_h0 : 0 < n) :
    (Instr.sliceAt T (.pointer (some ⟨b, o, none⟩)) none (some (.int k l)) none).run P w = .ok (.slice (some ⟨b, o, none⟩) j n) w := by
  subst hl
  obtain ⟨i, hi, _⟩ := Option.map_eq_some_iff.1 hs
  simp [Instr.sliceAt, Instr.sureAddr, run_underlying hu, Instr.sliceBounds, Instr.sliceBound, asIntOf, sizeOf, typeInfo, hi, addr_add, show (j ≤ n) from hj]
theorem run_arr_all {T e : TypeId} {n : Nat} (hu : P.underlying T = some (.array n e)) (hs : (P.info? e).map (·.size) = some 1) (b o : Nat) (_h0 : 0 < n) :
    (Instr.sliceAt T (.pointer (some ⟨b, o, none⟩)) none none none).run P w = .ok (.slice (some ⟨b, o, none⟩) n n) w := by
  obtain ⟨i, hi, _⟩ := Option.map_eq_some_iff.1 hs
  simp [Instr.sliceAt, Instr.sureAddr, run_underlying hu, Instr.sliceBounds, sizeOf, typeInfo, hi, addr_add]
/-- An element of an array by value. -/
theorem run_index_arr {T e : TypeId} {n : Nat} (hu : P.underlying T = some (.array n e)) (hs : (P.info? e).map (·.size) = some 1) (ha : (isAgg e).run P w = .ok false w) (cs : Array Value) (k : IntKind) (i : Int) (j : Nat) (hi : i = j) (hj : j < n) (v : Value) (hv : cs[j]? = some v) :
    (Instr.index T (.agg cs) (.int k i)).run P w = .ok v w := by
  subst hi
  obtain ⟨x, hx, hx1⟩ := Option.map_eq_some_iff.1 hs
  have h1 : (j : Int) < (n : Int) := by omega
  simp [Instr.index, run_underlying hu, asIntOf, sizeOf, typeInfo, hx, hx1, part, ha, hv, show j < n from hj]
end

section
variable {P : Program} {S : Nat → Prop} {w w' : World} {g : Nat} {t : TypeId} {cs cs' : Array Value}
/-- The whole block, as the walk asks for it. -/
theorem Blk.run_load (hb : Blk w g t cs) (n : Nat) (hn : cs.size = n) : (loadCellsFrom ⟨g, 0, none⟩ 0 n #[]).run P w = .ok cs w := by
  subst hn
  have := run_loadCells_list (P := P) w ⟨g, 0, none⟩ cs.toList (fun j v hv => by
    have hadd : (⟨g, 0, none⟩ : Addr).add j = ⟨g, j, none⟩ := by unfold Addr.add; split <;> simp_all
    rw [hadd, hb.cell]
    simpa using hv)
  simpa [loadCells] using this
theorem Blk.run_store (hb : Blk w g t cs) (ho : cs.size = cs'.size) (h1 : cs'.all (·.oneCell') = true) : (storeCells ⟨g, 0, none⟩ cs'.toList 0).run P w = .ok () (w.setRow g cs') := by
  have := run_storeCells_from (P := P) g t cs'.toList 0 cs w hb (by simp [ho]) (fun v hv => (Array.all_eq_true_iff_forall_mem.1 h1) v (by simpa using hv))
  rw [this]
  simp
theorem Blk.setRow (hb : Blk w g t cs) (cs' : Array Value) : Blk (w.setRow g cs') g t cs' := setRow_heap w g cs cs' t (0, 0) hb
theorem Blk.setRow_far {g' : Nat} (hb : Blk w g t cs) (h : g ≠ g') (cs' : Array Value) : Blk (w.setRow g' cs') g t cs := (setRow_other w g' g cs' h).trans hb
/-- A part of a block. -/
theorem Blk.range (hb : Blk w g t cs) (o : Nat) (vs : List Value) (h : ∀ j v, vs[j]? = some v → cs[o + j]? = some v) : w.rangeAt g o vs := fun j v hv => by
  rw [hb.cell]; exact h j v hv
theorem Blk.there (hb : Blk w g t cs) (o n : Nat) (h : o + n ≤ cs.size) : w.there g o n := fun j hj => by
  refine ⟨?_, hb.frozen _⟩
  rw [hb.cell, Array.getElem?_eq_getElem (by omega)]; rfl
/-- A whole array's load and store, kept whole in a walk (a chapter says of which types: 'big'). -/
def bigLoad (t : TypeId) (x : Value) : Sem Value := Instr.loadAt t x
def bigStore (t : TypeId) (x v : Value) : Sem Unit := Instr.storeAt t x v
theorem Blk.big_load (hb : Blk w g t cs) {ty : TypeId} {d : TypeDesc} (hu : P.underlying ty = some d) (hd : d.isRow = true) (hi : (P.info? ty).map (·.size) = some cs.size) :
    (bigLoad ty (.pointer (some ⟨g, 0, none⟩))).run P w = .ok (.agg cs) w := by
  have := run_loadAt_mid (P := P) w g 0 ty cs.toList d (hb.range 0 _ fun j v hv => by simpa using hv) hu hd (by simpa using hi)
  simpa [bigLoad] using this
theorem Blk.big_store (hb : Blk w g t cs) {ty : TypeId} (ho : cs.size = cs'.size) (hi : (P.info? ty).map (·.size) = some cs'.size) (h1 : cs'.all (·.oneCell') = true) :
    (bigStore ty (.pointer (some ⟨g, 0, none⟩)) (.agg cs')).run P w = .ok () (w.setRow g cs') := by
  simp only [bigStore, Instr.storeAt, Instr.sureAddr, Sem.run_bind, Sem.run_pure, Result.andThen_ok, run_storeVar_row w g t ty cs cs' hb hi ho h1]
theorem Blk.results (hb : Blk w g t cs) {fn : Func} {p : Tmp} {ty : TypeId} {d : TypeDesc} (h : fn.results = #[.cell p ty]) (tmps : Array Value) (hp : tmps.getD p undef = .pointer (some ⟨g, 0, none⟩))
    (hu : P.underlying ty = some d) (hd : d.isRow = true) (hi : (P.info? ty).map (·.size) = some cs.size) : (results fn tmps).run P w = .ok (.agg cs) w :=
  results_cell_row h tmps w g t cs (0, 0) d hp hb hu (by cases d <;> simp_all [TypeDesc.isRow]) hi

theorem Ext.setCells (h : Ext S w w') (g : Nat) (hg : w.heap.size ≤ g ∨ S g) : ∀ (vs : List Value) (o : Nat) {w1 : World}, Ext S w w1 → Ext S w (w1.setCells g o vs)
  | [], _, _, h1 => h1
  | v :: r, o, _, h1 => Ext.setCells h g hg r (o + 1) (h1.setCell (p := ⟨g, o, none⟩) hg v)
theorem splice_nil {α : Type} (L : List α) (o : Nat) : splice L o [] = L := by simp [splice]
theorem splice_cons {α : Type} (L : List α) (o : Nat) (v : α) (r : List α) (h : o < L.length) : splice (L.set o v) (o + 1) r = splice L o (v :: r) := by
  have h1 : (L.set o v).take (o + 1) = L.take o ++ [v] := by
    apply List.ext_getElem?
    intro i
    by_cases hi : i = o
    · subst hi
      rw [List.getElem?_take, if_pos (by omega), List.getElem?_set_self h, List.getElem?_append_right (by simp; omega)]
      simp [Nat.min_eq_left (Nat.le_of_lt h)]
    · rw [List.getElem?_take]
      by_cases hlt : i < o
      · rw [if_pos (by omega), List.getElem?_set_ne (fun e => hi e.symm), List.getElem?_append_left (by simp; omega), List.getElem?_take, if_pos hlt]
      · rw [if_neg (by omega), List.getElem?_eq_none (by simp; omega)]
  have h2 : (L.set o v).drop (o + 1 + r.length) = L.drop (o + (v :: r).length) := by
    rw [List.drop_set_of_lt (by omega), List.length_cons]
    congr 1
    omega
  unfold splice
  rw [h1, h2, List.append_assoc]
  rfl
theorem Blk.setCells : ∀ (vs : List Value) (o : Nat) {w : World} {cs : List Value}, Blk w g t cs.toArray → o + vs.length ≤ cs.length → Blk (w.setCells g o vs) g t (splice cs o vs).toArray
  | [], o, _, cs, h, _ => by rw [splice_nil]; exact h
  | v :: r, o, w, cs, h, hl => by
    have h1 := h.set_ o v
    rw [List.setIfInBounds_toArray] at h1
    have := Blk.setCells r (o + 1) h1 (by simp at hl ⊢; omega)
    rw [splice_cons _ _ _ _ (by simp at hl; omega)] at this
    exact this
end
end Go.Proofs.YtnmpfbffacljfaaDoor
