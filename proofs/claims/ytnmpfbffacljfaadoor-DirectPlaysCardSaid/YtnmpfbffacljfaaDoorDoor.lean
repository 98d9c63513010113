/- What the row's list of the two tables of package sha gives to a walk, and a world for the witness. -/
import Derived.Test.YtnmpfbffacljfaaDoorCards
import Derived.Test.YtnmpfbffacljfaaDoorTie
import Derived.Test.YtnmpfbffacljfaaDoorShaM
import Derived.Stop.LaidErr
import Derived.Lib.LaidTab
namespace Go.Proofs.YtnmpfbffacljfaaDoor
open Go.RowKit

theorem gFirst : Tryd.prog.globalNamed "hourglass/sha.first" = some 0 := by kernel_rfl
theorem gSteady : Tryd.prog.globalNamed "hourglass/sha.steady" = some 1 := by kernel_rfl
theorem gFirstType : (Tryd.prog.globals[0]?).map (·.type) = some 97 := by kernel_rfl
theorem gSteadyType : (Tryd.prog.globals[1]?).map (·.type) = some 134 := by kernel_rfl
theorem cellsF : Tryd.prog.cellsOf 97 = 8 := by kernel_rfl
theorem cellsS : Tryd.prog.cellsOf 134 = 64 := by kernel_rfl
theorem cellsU : Tryd.prog.cellsOf 35 = 1 := by kernel_rfl
def firstZ : List Int := H0.map fun x => (un x : Int)
def steadyZ : List Int := KT.map fun x => (un x : Int)
theorem first_tab {H : Type} : (Rows.laid_hourglass_sha_first : DataW H) = Lib.tabData .u32 firstZ := by kernel_rfl
theorem steady_tab {H : Type} : (Rows.laid_hourglass_sha_steady : DataW H) = Lib.tabData .u32 steadyZ := by kernel_rfl

theorem range_of_tab {W : World} {name : String} {g : Nat} {l : List UInt32} (hg : Tryd.prog.globalNamed name = some g) (h : Lib.TabIs Tryd.prog W name .u32 (l.map fun x => (un x : Int))) : W.rangeAt g 0 (l.map v32) := by
  intro j v hv
  have := World.var?_cell hg h j
  rw [Nat.zero_add, this]
  simp only [List.getElem?_map, Option.map_eq_some_iff] at hv
  obtain ⟨x, hx, rfl⟩ := hv
  simp [hx, v32]

theorem glob_of_laid {W : World} (h : laidMet Tryd.prog [("hourglass/sha.first", Rows.laid_hourglass_sha_first), ("hourglass/sha.steady", Rows.laid_hourglass_sha_steady)] W) : Glob W ∧ 2 ≤ W.heap.size := by
  rw [first_tab, steady_tab] at h
  have g1 := Lib.tabIs_of_head gFirst gFirstType Tryd.underlying97 Tryd.underlying35 cellsU cellsF h
  have g2 := Lib.tabIs_of_head gSteady gSteadyType Tryd.underlying134 Tryd.underlying35 cellsU cellsS h.tail
  have G : Glob W := ⟨range_of_tab gFirst g1, range_of_tab gSteady g2⟩
  exact ⟨G, World.block_lt_of_cell? W _ (G.ka (i := 0) (by omega))⟩

/-- A world for the witness: the settled one, the tables holding what their initialisers lay. -/
def layIn (c : Array Value) : Obj → Obj
  | .cells _ t frozen => .cells c t frozen
  | o => o
noncomputable def laidWorld (os : Os) : World :=
  { World.holding Tryd.prog os ⟨#[], #[], []⟩ with heap := ((World.holding Tryd.prog os ⟨#[], #[], []⟩).heap.modify 0 (layIn (H0.map v32).toArray)).modify 1 (layIn (KT.map v32).toArray) }
end Go.Proofs.YtnmpfbffacljfaaDoor
