/- Package direct: slices of records of the call's own (of the program's, and of the document's: ..D). -/
import Derived.Test.YtnmpfbffacljfaaDoorDirM
import Derived.Great.BuildSlice
namespace Go.Proofs.YtnmpfbffacljfaaDoor
open Go.RowKit

/-- Slices of records. -/
abbrev OwR (w : World) (base : Nat) (A : Option Addr) (c : Nat) (l : List Rc) : Prop := OwO 37 4 w base A l.length c (rcs l)
theorem rcinfo : (Tryd.prog.info? 37).map (fun i => (i.zero, i.size, i.bytes)) = some (some (.agg #[.int .u16 0, .int .u32 0, .int .u32 0, .int .u32 0]), 4, 16) := by kernel_rfl
/-- Where an element is. -/
theorem OwR.at_ {w : World} {base : Nat} {A : Option Addr} {c : Nat} {l : List Rc} (h : OwR w base A c l) (i : Nat) (hi : i < l.length) :
    A.isSome = true ∧ ∃ g o, (A.getD default).add (i * 4) = ⟨g, o, none⟩ ∧ ob A = some g ∧ w.cell? ⟨g, o, none⟩ = some (.int .u16 l[i].ad) ∧ w.cell? ⟨g, o + 1, none⟩ = some (.int .u32 l[i].fr) ∧ w.cell? ⟨g, o + 2, none⟩ = some (.int .u32 l[i].up) ∧ w.cell? ⟨g, o + 3, none⟩ = some (.int .u32 l[i].ln) := by
  have hle := h.le
  rcases h.ex with ⟨_, h0⟩ | ⟨g, off, cur, rfl, hb, hg, h1, h2⟩
  · omega
  · have key : ∀ j, j < 4 → w.cell? ⟨g, off + i * 4 + j, none⟩ = (rcL l[i])[j]? := by
      intro j hj
      rw [← rcs_get l i hi j hj, ← h2, List.getElem?_take, if_pos (by omega), List.getElem?_drop, hg.cell, Array.getElem?_toList]
      congr 1
      omega
    exact ⟨rfl, g, off + i * 4, addr_add g off (i * 4), rfl, key 0 (by decide), key 1 (by decide), key 2 (by decide), key 3 (by decide)⟩
def bigBuildR (n : Nat) (x : Array (Nat × Value)) : Sem Value := Instr.buildSlice 22 n x
@[go_sem ↓] theorem big_buildR (x : Array (Nat × Value)) : Instr.buildSlice 22 1 x = bigBuildR 1 x := rfl
@[go_sem] theorem build_r (w : World) (a b u l : Int) : (bigBuildR 1 #[(0, .agg #[.int .u16 a, .int .u32 b, .int .u32 u, .int .u32 l])]).run Tryd.prog w = .ok (.slice (some ⟨w.heap.size, 0, none⟩) 1 1) (w.alloc (.cells #[.int .u16 a, .int .u32 b, .int .u32 u, .int .u32 l] 37)) := by
  obtain ⟨ie, hie, hz, hs, _⟩ := info_parts rcinfo
  refine run_buildSlice w 22 37 1 _ #[.int .u16 a, .int .u32 b, .int .u32 u, .int .u32 l] ie _ Tryd.underlying22 hie hz (by rw [hs]; decide) (by rw [hs]; decide) ?_
  rw [hs]
  have hf := Great.fill_whole (s := 4) (by decide) [.agg #[.int .u16 a, .int .u32 b, .int .u32 u, .int .u32 l]] ((Array.range (1 * 4)).map ((Value.agg #[.int .u16 0, .int .u32 0, .int .u32 0, .int .u32 0]).cells[· % (Value.agg #[.int .u16 0, .int .u32 0, .int .u32 0, .int .u32 0]).cells.size]!)) (fun v hv => by rw [List.mem_singleton.1 hv]; rfl) (by simp)
  refine hf.trans ?_
  rfl
theorem run_apR (ty : TypeId) {w : World} {base : Nat} {A : Option Addr} {c : Nat} {l : List Rc} (hown : OwR w base A c l) {B : Addr} {m : List Rc} (hr : ∀ j u, (rcs m)[j]? = some u → w.cell? (B.add j) = some u) (d n k : Nat) (hn : l.length = n) (hm : m.length = k) (hlen : n + k ≤ 900000) (hbase : base ≤ w.heap.size) :
    ∃ A' c' w', (Builtin.append_ #[22, 22] ty #[.slice A n c, .slice (some B) k d]).run Tryd.prog w = .ok (.slice A' (n + k) c') w' ∧ OwR w' base A' c' (l ++ m) ∧ Ext (fun k => ob A = some k) w w' ∧ (ob A' = ob A ∨ ob A' = some w.heap.size) := by
  subst hn hm
  obtain ⟨A', c', w', hrun, h2, h3, h4⟩ := run_apO (P := Tryd.prog) Tryd.underlying22 rcinfo rfl ty hown hr (m := m.length) (rcs_len m) (rcs_one m) d (by omega) (by decide) hbase
  refine ⟨A', c', w', hrun, ?_, h3, h4⟩
  unfold OwR
  rw [List.length_append, rcs_app]
  exact h2
section
variable {w : World} {ops : Array Oper} {rest : List Oper} {o : Oper} {a : Act} {Q : Exit → Act → World → Prop}
theorem wp_apR (hgd : o.guard = none) (s x : Operand) (ho : o.op = .call { callee := .builtin .append, args := #[s, x], argTypes := #[22, 22] })
    {base : Nat} {A : Option Addr} {c : Nat} {l : List Rc} (n : Nat) (hs : a.eval s = .slice A n c) (hown : OwR w base A c l) (hn : l.length = n)
    {g : Nat} {t : Rc} (d : Nat) (hx : a.eval x = .slice (some ⟨g, 0, none⟩) 1 d) (hr : Blk w g 37 (rcA t)) (hlen : n ≤ 800000) (hbase : base ≤ w.heap.size)
    (h : ∀ A' c' w', OwR w' base A' c' (l ++ [t]) → Ext (fun k => ob A = some k) w w' → (ob A' = ob A ∨ ob A' = some w.heap.size) →
      wpList Tryd.prog ops Q rest (a.put o.dst (.slice A' (n + 1) c')) w') : wpList Tryd.prog ops Q (o :: rest) a w := by
  have hcell : ∀ j u, (rcs [t])[j]? = some u → w.cell? ((⟨g, 0, none⟩ : Addr).add j) = some u := by
    intro j u hu
    rw [addr_add, Nat.zero_add, hr.cell]
    have e : rcs [t] = rcL t := by unfold rcs; simp
    rw [e] at hu
    rw [← hu]
    simp [rcL, rcA]
  obtain ⟨A', c', w', hrun, h2, h3, h4⟩ := run_apR o.type hown hcell d n 1 hn rfl (by omega) hbase
  refine wpList_plain hgd fun K hK => ?_
  unfold Oper.wp execOp
  simp only [ho, resolve, invoke, builtin, Sem.run_bind, Sem.run_pure, Result.andThen_ok, List.map_toArray, List.map_cons, List.map_nil, hs, hx, hrun]
  exact hK _ _ (h A' c' w' h2 h3 h4)
end

/-- Slices of records. -/
abbrev OwRD (w : World) (base : Nat) (A : Option Addr) (c : Nat) (l : List Rc) : Prop := OwO 40 4 w base A l.length c (rcs l)
theorem rcinfoD : (Tryd.prog.info? 40).map (fun i => (i.zero, i.size, i.bytes)) = some (some (.agg #[.int .u16 0, .int .u32 0, .int .u32 0, .int .u32 0]), 4, 16) := by kernel_rfl
/-- Where an element is. -/
theorem OwRD.at_ {w : World} {base : Nat} {A : Option Addr} {c : Nat} {l : List Rc} (h : OwRD w base A c l) (i : Nat) (hi : i < l.length) :
    A.isSome = true ∧ ∃ g o, (A.getD default).add (i * 4) = ⟨g, o, none⟩ ∧ ob A = some g ∧ w.cell? ⟨g, o, none⟩ = some (.int .u16 l[i].ad) ∧ w.cell? ⟨g, o + 1, none⟩ = some (.int .u32 l[i].fr) ∧ w.cell? ⟨g, o + 2, none⟩ = some (.int .u32 l[i].up) ∧ w.cell? ⟨g, o + 3, none⟩ = some (.int .u32 l[i].ln) := by
  have hle := h.le
  rcases h.ex with ⟨_, h0⟩ | ⟨g, off, cur, rfl, hb, hg, h1, h2⟩
  · omega
  · have key : ∀ j, j < 4 → w.cell? ⟨g, off + i * 4 + j, none⟩ = (rcL l[i])[j]? := by
      intro j hj
      rw [← rcs_get l i hi j hj, ← h2, List.getElem?_take, if_pos (by omega), List.getElem?_drop, hg.cell, Array.getElem?_toList]
      congr 1
      omega
    exact ⟨rfl, g, off + i * 4, addr_add g off (i * 4), rfl, key 0 (by decide), key 1 (by decide), key 2 (by decide), key 3 (by decide)⟩
def bigBuildRD (n : Nat) (x : Array (Nat × Value)) : Sem Value := Instr.buildSlice 30 n x
@[go_sem ↓] theorem big_buildRD (x : Array (Nat × Value)) : Instr.buildSlice 30 1 x = bigBuildRD 1 x := rfl
@[go_sem] theorem build_rD (w : World) (a b u l : Int) : (bigBuildRD 1 #[(0, .agg #[.int .u16 a, .int .u32 b, .int .u32 u, .int .u32 l])]).run Tryd.prog w = .ok (.slice (some ⟨w.heap.size, 0, none⟩) 1 1) (w.alloc (.cells #[.int .u16 a, .int .u32 b, .int .u32 u, .int .u32 l] 40)) := by
  obtain ⟨ie, hie, hz, hs, _⟩ := info_parts rcinfoD
  refine run_buildSlice w 30 40 1 _ #[.int .u16 a, .int .u32 b, .int .u32 u, .int .u32 l] ie _ Tryd.underlying30 hie hz (by rw [hs]; decide) (by rw [hs]; decide) ?_
  rw [hs]
  have hf := Great.fill_whole (s := 4) (by decide) [.agg #[.int .u16 a, .int .u32 b, .int .u32 u, .int .u32 l]] ((Array.range (1 * 4)).map ((Value.agg #[.int .u16 0, .int .u32 0, .int .u32 0, .int .u32 0]).cells[· % (Value.agg #[.int .u16 0, .int .u32 0, .int .u32 0, .int .u32 0]).cells.size]!)) (fun v hv => by rw [List.mem_singleton.1 hv]; rfl) (by simp)
  refine hf.trans ?_
  rfl
theorem run_apRD (ty : TypeId) {w : World} {base : Nat} {A : Option Addr} {c : Nat} {l : List Rc} (hown : OwRD w base A c l) {B : Addr} {m : List Rc} (hr : ∀ j u, (rcs m)[j]? = some u → w.cell? (B.add j) = some u) (d n k : Nat) (hn : l.length = n) (hm : m.length = k) (hlen : n + k ≤ 900000) (hbase : base ≤ w.heap.size) :
    ∃ A' c' w', (Builtin.append_ #[30, 30] ty #[.slice A n c, .slice (some B) k d]).run Tryd.prog w = .ok (.slice A' (n + k) c') w' ∧ OwRD w' base A' c' (l ++ m) ∧ Ext (fun k => ob A = some k) w w' ∧ (ob A' = ob A ∨ ob A' = some w.heap.size) := by
  subst hn hm
  obtain ⟨A', c', w', hrun, h2, h3, h4⟩ := run_apO (P := Tryd.prog) Tryd.underlying30 rcinfoD rfl ty hown hr (m := m.length) (rcs_len m) (rcs_one m) d (by omega) (by decide) hbase
  refine ⟨A', c', w', hrun, ?_, h3, h4⟩
  unfold OwRD
  rw [List.length_append, rcs_app]
  exact h2
section
variable {w : World} {ops : Array Oper} {rest : List Oper} {o : Oper} {a : Act} {Q : Exit → Act → World → Prop}
theorem wp_apRD (hgd : o.guard = none) (s x : Operand) (ho : o.op = .call { callee := .builtin .append, args := #[s, x], argTypes := #[30, 30] })
    {base : Nat} {A : Option Addr} {c : Nat} {l : List Rc} (n : Nat) (hs : a.eval s = .slice A n c) (hown : OwRD w base A c l) (hn : l.length = n)
    {g : Nat} {t : Rc} (d : Nat) (hx : a.eval x = .slice (some ⟨g, 0, none⟩) 1 d) (hr : Blk w g 40 (rcA t)) (hlen : n ≤ 800000) (hbase : base ≤ w.heap.size)
    (h : ∀ A' c' w', OwRD w' base A' c' (l ++ [t]) → Ext (fun k => ob A = some k) w w' → (ob A' = ob A ∨ ob A' = some w.heap.size) →
      wpList Tryd.prog ops Q rest (a.put o.dst (.slice A' (n + 1) c')) w') : wpList Tryd.prog ops Q (o :: rest) a w := by
  have hcell : ∀ j u, (rcs [t])[j]? = some u → w.cell? ((⟨g, 0, none⟩ : Addr).add j) = some u := by
    intro j u hu
    rw [addr_add, Nat.zero_add, hr.cell]
    have e : rcs [t] = rcL t := by unfold rcs; simp
    rw [e] at hu
    rw [← hu]
    simp [rcL, rcA]
  obtain ⟨A', c', w', hrun, h2, h3, h4⟩ := run_apRD o.type hown hcell d n 1 hn rfl (by omega) hbase
  refine wpList_plain hgd fun K hK => ?_
  unfold Oper.wp execOp
  simp only [ho, resolve, invoke, builtin, Sem.run_bind, Sem.run_pure, Result.andThen_ok, List.map_toArray, List.map_cons, List.map_nil, hs, hx, hrun]
  exact hK _ _ (h A' c' w' h2 h3 h4)
end

end Go.Proofs.YtnmpfbffacljfaaDoor
