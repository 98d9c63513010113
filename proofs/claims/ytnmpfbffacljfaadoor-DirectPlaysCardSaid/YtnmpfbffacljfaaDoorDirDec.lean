/- Records that came in. -/
import Derived.Test.YtnmpfbffacljfaaDoorDec
import Derived.Test.YtnmpfbffacljfaaDoorDirU
namespace Go.Proofs.YtnmpfbffacljfaaDoor
open Go.RowKit

theorem Dec.nat16 {P : Program} {w : World} {t : TypeId} {cs : List Value} (h : Dec P w t cs) (ht : P.underlying t = some (.int .u16)) : ∃ n : Nat, cs = [.int .u16 n] ∧ n < 65536 := by
  obtain ⟨n, rfl, hw⟩ := h.int ht
  simp [Lit.wf, IntKind.min, IntKind.max, IntKind.signed, IntKind.bits] at hw
  exact ⟨n.toNat, by rw [Int.toNat_of_nonneg hw.1], by omega⟩
theorem wf16 {a : Int} (hw : (Lit.int .u16 a).wf = true) : ∃ n : Nat, a = n ∧ n < 65536 := by
  simp [Lit.wf, IntKind.min, IntKind.max, IntKind.signed, IntKind.bits] at hw
  exact ⟨a.toNat, by omega, by omega⟩
theorem Dec.nat32 {P : Program} {w : World} {t : TypeId} {cs : List Value} (h : Dec P w t cs) (ht : P.underlying t = some (.int .u32)) : ∃ n : Nat, cs = [.int .u32 n] ∧ n < 4294967296 := by
  obtain ⟨n, rfl, hw⟩ := h.int ht
  simp [Lit.wf, IntKind.min, IntKind.max, IntKind.signed, IntKind.bits] at hw
  exact ⟨n.toNat, by rw [Int.toNat_of_nonneg hw.1], by omega⟩
theorem wf32 {a : Int} (hw : (Lit.int .u32 a).wf = true) : ∃ n : Nat, a = n ∧ n < 4294967296 := by
  simp [Lit.wf, IntKind.min, IntKind.max, IntKind.signed, IntKind.bits] at hw
  exact ⟨a.toNat, by omega, by omega⟩
theorem cut_list {L r s : List Value} {o n : Nat} (h : (L.drop o).take n = r) (o2 : Nat) (h2 : o + n = o2) (h3 : L.drop o2 = s) : L.drop o = r ++ s := by
  subst h h2 h3
  rw [← List.drop_drop, List.take_append_drop]
section
variable {w : World}
theorem Dec.rcells {cs : List Value} (h : Dec Tryd.prog w 37 cs) : ∃ r : Rc, r.ok ∧ cs = rcL r := by
  obtain ⟨hl, hf⟩ := h.struct Tryd.underlying37
  rw [show Tryd.prog.cellsOf 37 = 4 by kernel_rfl] at hl
  have h0 : Dec Tryd.prog w 25 ((cs.drop 0).take (Tryd.prog.cellsOf 25)) := hf 0 _ rfl
  rw [show Tryd.prog.cellsOf 25 = 1 by kernel_rfl] at h0
  obtain ⟨n0, e0, b0⟩ := h0.nat16 Tryd.underlying25
  have h1 : Dec Tryd.prog w 35 ((cs.drop 1).take (Tryd.prog.cellsOf 35)) := hf 1 _ rfl
  rw [show Tryd.prog.cellsOf 35 = 1 by kernel_rfl] at h1
  obtain ⟨n1, e1, b1⟩ := h1.nat32 Tryd.underlying35
  have h2 : Dec Tryd.prog w 35 ((cs.drop 2).take (Tryd.prog.cellsOf 35)) := hf 2 _ rfl
  rw [show Tryd.prog.cellsOf 35 = 1 by kernel_rfl] at h2
  obtain ⟨n2, e2, b2⟩ := h2.nat32 Tryd.underlying35
  have h3 : Dec Tryd.prog w 35 ((cs.drop 3).take (Tryd.prog.cellsOf 35)) := hf 3 _ rfl
  rw [show Tryd.prog.cellsOf 35 = 1 by kernel_rfl] at h3
  obtain ⟨n3, e3, b3⟩ := h3.nat32 Tryd.underlying35
  refine ⟨⟨n0, n1, n2, n3⟩, ⟨b0, b1, b2, b3⟩, ?_⟩
  have hnil : cs.drop 4 = [] := List.drop_of_length_le (by omega)
  have := cut_list e0 1 rfl (cut_list e1 2 rfl (cut_list e2 3 rfl (cut_list e3 4 rfl hnil)))
  rw [List.drop_zero] at this
  rw [this]
  rfl
theorem Dec.oneRc {a : Array Value} (h : Dec Tryd.prog w 37 a.toList) : ∃ r : Rc, r.ok ∧ a = rcA r := by
  obtain ⟨r, h1, h2⟩ := h.rcells
  exact ⟨r, h1, Array.toList_inj.1 h2⟩
end
/-- Records that came in: n of them, from A on. -/
structure InR (w : World) (A : Option Addr) (n : Nat) (l : List Rc) : Prop where
  len : l.length = n
  ok : ∀ r ∈ l, r.ok
  at_ : ∀ i (h : i < l.length), A.isSome = true ∧ (∀ k, ob A = some k → k < w.heap.size) ∧ ∀ j u, (rcL l[i])[j]? = some u → w.cell? (((A.getD default).add (i * 4)).add j) = some u
theorem InR.facts {w : World} {A : Option Addr} {n : Nat} {l : List Rc} (h : InR w A n l) (i : Nat) (hi : i < l.length) : A.isSome = true ∧ ∀ W, Ext Non w W → W.cell? ((A.getD default).add (i * 4)) = some (.int .u16 l[i].ad) ∧
    W.cell? ⟨((A.getD default).add (i * 4)).block, ((A.getD default).add (i * 4)).off + 1, none⟩ = some (.int .u32 l[i].fr) ∧ W.cell? ⟨((A.getD default).add (i * 4)).block, ((A.getD default).add (i * 4)).off + 2, none⟩ = some (.int .u32 l[i].up) ∧
    W.cell? ⟨((A.getD default).add (i * 4)).block, ((A.getD default).add (i * 4)).off + 3, none⟩ = some (.int .u32 l[i].ln) := by
  obtain ⟨hA, _, hc⟩ := h.at_ i hi
  refine ⟨hA, fun W x => ?_⟩
  have key : ∀ j u, (rcL l[i])[j]? = some u → W.cell? (((A.getD default).add (i * 4)).add j) = some u := fun j u hu => x.cell (hc j u hu) (fun h => h)
  exact ⟨key 0 _ rfl, key 1 _ rfl, key 2 _ rfl, key 3 _ rfl⟩
theorem Dec.recs {w : World} {A : Option Addr} {n c : Nat} (h : Dec Tryd.prog w 22 [.slice A n c]) : ∃ l, InR w A n l := by
  obtain ⟨A', n', c', e, hl, hm, hx⟩ := h.cells Tryd.underlying22 (s := 4) (by kernel_rfl)
  injection e with e _
  injection e with e1 e2 e3
  subst e1 e2 e3
  have key : ∀ i : Fin n, ∃ r : Rc, r.ok ∧ A.isSome = true ∧ ∀ j u, (rcL r)[j]? = some u → w.cell? ((A.getD default).add (i.val * 4 + j)) = some u := fun i => by
    obtain ⟨hA, cs, _, hc, hd⟩ := hx i.val i.isLt
    obtain ⟨r, hr, rfl⟩ := hd.rcells
    exact ⟨r, hr, hA, hc⟩
  obtain ⟨f, hf⟩ := Classical.axiomOfChoice key
  refine ⟨List.ofFn f, by simp, fun r hr => ?_, fun i hi => ?_⟩
  · rw [List.mem_ofFn] at hr
    obtain ⟨i, rfl⟩ := hr
    exact (hf i).1
  · have hin : i < n := by simpa using hi
    obtain ⟨_, hA, hc⟩ := hf ⟨i, hin⟩
    have hc' : ∀ j u, (rcL (List.ofFn f)[i])[j]? = some u → w.cell? (((A.getD default).add (i * 4)).add j) = some u := fun j u hu => by
      rw [add_of_add]
      refine hc j u ?_
      simpa using hu
    refine ⟨hA, fun k hk => ?_, hc'⟩
    have h0 := World.block_lt_of_cell? w _ (hc' 0 _ rfl)
    rw [block_of_add, block_of_add] at h0
    cases A with
    | none => cases hA
    | some a =>
      have hk : a.block = k := by simpa [ob] using hk
      subst hk
      exact h0
/-- Numbers that came in. -/
structure InE (w : World) (A : Option Addr) (n : Nat) (l : List Nat) : Prop where
  len : l.length = n
  ok : ∀ x ∈ l, x < 4294967296
  at_ : ∀ i (h : i < l.length), A.isSome = true ∧ ∀ W, Ext Non w W → W.cell? ((A.getD default).add i) = some (.int .u32 l[i])
theorem Dec.nums {w : World} {A : Option Addr} {n c : Nat} (h : Dec Tryd.prog w 23 [.slice A n c]) : ∃ l, InE w A n l := by
  obtain ⟨A', n', c', e, hl, hm, hx⟩ := h.cells Tryd.underlying23 (s := 1) (by kernel_rfl)
  injection e with e _
  injection e with e1 e2 e3
  subst e1 e2 e3
  have key : ∀ i : Fin n, ∃ x : Nat, x < 4294967296 ∧ A.isSome = true ∧ w.cell? ((A.getD default).add i.val) = some (.int .u32 x) := fun i => by
    obtain ⟨hA, cs, _, hc, hd⟩ := hx i.val i.isLt
    obtain ⟨x, rfl, hx⟩ := hd.nat32 Tryd.underlying35
    have := hc 0 _ rfl
    rw [Nat.mul_one, Nat.add_zero] at this
    exact ⟨x, hx, hA, this⟩
  obtain ⟨f, hf⟩ := Classical.axiomOfChoice key
  refine ⟨List.ofFn f, by simp, fun r hr => ?_, fun i hi => ?_⟩
  · rw [List.mem_ofFn] at hr
    obtain ⟨i, rfl⟩ := hr
    exact (hf i).1
  · have hin : i < n := by simpa using hi
    obtain ⟨_, hA, hc⟩ := hf ⟨i, hin⟩
    refine ⟨hA, fun W x => ?_⟩
    have := x.cell hc (fun h => h)
    simpa using this
end Go.Proofs.YtnmpfbffacljfaaDoor
