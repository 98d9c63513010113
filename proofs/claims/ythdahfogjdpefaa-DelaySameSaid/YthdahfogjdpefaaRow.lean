/- Whole arrays: rows of cells by a function of the place, loaded and stored as one. Plain lemmas, no program. -/
import Derived.Deep.MidRow
import Derived.Deep.WholeRow
import Derived.Test.YthdahfogjdpefaaMem
namespace Go.Proofs.Ythdahfogjdpefaa
open Go.RowKit

/-- n cells, each by its place. -/
def rowf (n : Nat) (f : Nat → Value) : Array Value := Array.ofFn (n := n) fun i => f i.val
section
variable {n : Nat} {f g : Nat → Value}
theorem rowf_size (n : Nat) (f : Nat → Value) : (rowf n f).size = n := by simp [rowf]
theorem rowf_get {i : Nat} (h : i < n) : (rowf n f)[i]? = some (f i) := by simp [rowf, h]
theorem rowf_ext (h : ∀ i, i < n → f i = g i) : rowf n f = rowf n g := by
  apply Array.ext
  · simp [rowf]
  · intro i h1 h2
    simp [rowf] at h1 ⊢
    exact h i h1
theorem rowf_set {k : Nat} {v : Value} : (rowf n f).setIfInBounds k v = rowf n (fun i => if i = k then v else f i) := by
  apply Array.ext
  · simp [rowf]
  · intro i h1 h2
    simp [rowf] at h1 ⊢
    have h1' : i < (Array.ofFn (n := n) fun i => f i.val).size := by simpa using h1
    rw [Array.getElem_setIfInBounds h1']
    by_cases hk : k = i
    · subst hk; simp
    · rw [if_neg hk, if_neg (fun h => hk h.symm)]; simp
theorem rowf_one (h : ∀ i, (f i).oneCell' = true) : ∀ u ∈ (rowf n f).toList, u.oneCell' = true := by
  intro u hu
  simp [rowf] at hu
  obtain ⟨i, rfl⟩ := hu
  exact h i
theorem rowf_all (h : ∀ i, (f i).oneCell' = true) : (rowf n f).all (·.oneCell') = true :=
  Array.all_eq_true_iff_forall_mem.2 (fun v hv => rowf_one h v (by simpa using hv))
theorem row_ne {a : Array Value} {n : Nat} (h : a.size = n + 1) : a ≠ #[] := by
  intro e
  rw [e] at h
  cases h
theorem rowf_const (n : Nat) (v : Value) : rowf n (fun _ => v) = Array.replicate n v := by
  apply Array.ext <;> simp [rowf]
end

section
variable {P : Program} (w : World)
@[go_sem high] theorem run_min_nat (ts : Array TypeId) (t : TypeId) (k k' : IntKind) (x y : Nat) : (Builtin.min_ ts t #[.int k (x : Int), .int k' (y : Int)]).run P w = .ok (.int k ((min x y : Nat) : Int)) w := by
  rw [run_min_int2]
  congr 2
  split <;> omega
@[go_sem high] theorem run_max_nat (ts : Array TypeId) (t : TypeId) (k k' : IntKind) (x y : Nat) : (Builtin.max_ ts t #[.int k (x : Int), .int k' (y : Int)]).run P w = .ok (.int k ((max x y : Nat) : Int)) w := by
  rw [run_max_int2]
  congr 2
  split <;> omega
end

section
variable {P : Program} {S : Nat → Prop} {w w' : World} {g : Nat} {t : TypeId} {cs cs' : Array Value}
/-- The whole block, as the walk asks for it. -/
theorem Blk.run_load (hb : Blk w g t cs) (n : Nat) (hn : cs.size = n) : (loadCellsFrom ⟨g, 0, none⟩ 0 n #[]).run P w = .ok cs w := by
  subst hn
  have := run_loadCells_list (P := P) w ⟨g, 0, none⟩ cs.toList (fun j v hv => by
    have hadd : (⟨g, 0, none⟩ : Addr).add j = ⟨g, j, none⟩ := by unfold Addr.add; split <;> simp_all
    rw [hadd, hb.cell]
    simpa using hv)
  simpa [loadCells] using this
theorem Blk.run_store (hb : Blk w g t cs) (ho : cs.size = cs'.size) (h1 : cs'.all (·.oneCell') = true) : (storeCells ⟨g, 0, none⟩ cs'.toList 0).run P w = .ok () (w.setRow g cs') := by
  have := run_storeCells_from (P := P) g t cs'.toList 0 cs w hb (by simp [ho]) (fun v hv => (Array.all_eq_true_iff_forall_mem.1 h1) v (by simpa using hv))
  rw [this]
  simp
theorem Blk.setRow (hb : Blk w g t cs) (cs' : Array Value) : Blk (w.setRow g cs') g t cs' := setRow_heap w g cs cs' t (0, 0) hb
theorem Blk.setRow_far {g' : Nat} (hb : Blk w g t cs) (h : g ≠ g') (cs' : Array Value) : Blk (w.setRow g' cs') g t cs := (setRow_other w g' g cs' h).trans hb
/-- A part of a block. -/
theorem Blk.range (hb : Blk w g t cs) (o : Nat) (vs : List Value) (h : ∀ j v, vs[j]? = some v → cs[o + j]? = some v) : w.rangeAt g o vs := fun j v hv => by
  rw [hb.cell]; exact h j v hv
theorem Blk.there (hb : Blk w g t cs) (o n : Nat) (h : o + n ≤ cs.size) : w.there g o n := fun j hj => by
  refine ⟨?_, hb.frozen _⟩
  rw [hb.cell, Array.getElem?_eq_getElem (by omega)]; rfl
/-- A whole array's load and store, kept whole in a walk (a chapter says of which types: 'big'). -/
def bigLoad (t : TypeId) (x : Value) : Sem Value := Instr.loadAt t x
def bigStore (t : TypeId) (x v : Value) : Sem Unit := Instr.storeAt t x v
theorem Blk.big_load (hb : Blk w g t cs) {ty : TypeId} {d : TypeDesc} (hu : P.underlying ty = some d) (hd : d.isRow = true) (hi : (P.info? ty).map (·.size) = some cs.size) :
    (bigLoad ty (.pointer (some ⟨g, 0, none⟩))).run P w = .ok (.agg cs) w := by
  have := run_loadAt_mid (P := P) w g 0 ty cs.toList d (hb.range 0 _ fun j v hv => by simpa using hv) hu hd (by simpa using hi)
  simpa [bigLoad] using this
theorem Blk.big_store (hb : Blk w g t cs) {ty : TypeId} (ho : cs.size = cs'.size) (hi : (P.info? ty).map (·.size) = some cs'.size) (h1 : cs'.all (·.oneCell') = true) :
    (bigStore ty (.pointer (some ⟨g, 0, none⟩)) (.agg cs')).run P w = .ok () (w.setRow g cs') := by
  simp only [bigStore, Instr.storeAt, Instr.sureAddr, Sem.run_bind, Sem.run_pure, Result.andThen_ok, run_storeVar_row w g t ty cs cs' hb hi ho h1]
theorem Blk.results (hb : Blk w g t cs) {fn : Func} {p : Tmp} {ty : TypeId} {d : TypeDesc} (h : fn.results = #[.cell p ty]) (tmps : Array Value) (hp : tmps.getD p undef = .pointer (some ⟨g, 0, none⟩))
    (hu : P.underlying ty = some d) (hd : d.isRow = true) (hi : (P.info? ty).map (·.size) = some cs.size) : (results fn tmps).run P w = .ok (.agg cs) w :=
  results_cell_row h tmps w g t cs (0, 0) d hp hb hu (by cases d <;> simp_all [TypeDesc.isRow]) hi
end
end Go.Proofs.Ythdahfogjdpefaa
