/- What came in, opened by its type: integers, bools, strings, slices, structs. Plain lemmas, no program. -/
import Derived.Deep.Slices
import Derived.ChangeArms
import Derived.ChangeShapes
import Derived.WideShapes
import Derived.Test.YtnmpfbffacljfaaDoorMem
namespace Go.Proofs.YtnmpfbffacljfaaDoor
open Go.RowKit Go.ChangeShapes

/-- These cells read as data of type t. -/
def Dec (P : Program) (w : World) (t : TypeId) (cs : List Value) : Prop :=
  ∃ (H : Type) (enc : TypeId × Value → H) (fuel : Nat) (x : DataW H × List MemPlace), DataW.trod enc P w 0 (fun _ => true) true fuel t cs = some x

section
variable {P : Program} {w : World} {t e : TypeId} {cs : List Value} {k : IntKind}
theorem Dec.of {H : Type} {enc : TypeId × Value → H} {v : Value} {d : DataW H} {ps : List MemPlace} (h : DataW.Trod enc P w 0 (fun _ => true) true t v d ps) : Dec P w t v.cells.toList :=
  let ⟨fuel, hf⟩ := h
  ⟨H, enc, fuel, _, hf⟩
theorem Dec.int (h : Dec P w t cs) (ht : P.underlying t = some (.int k)) : ∃ n, cs = [.int k n] ∧ (Lit.int k n).wf = true := by
  obtain ⟨H, enc, fuel, x, h⟩ := h
  obtain ⟨n, h1, _, h2⟩ := DataW.trod_int ht h
  exact ⟨n, h1, h2⟩
theorem Dec.bool (h : Dec P w t cs) (ht : P.underlying t = some .bool) : ∃ b, cs = [.bool b] := by
  obtain ⟨H, enc, fuel, x, h⟩ := h
  obtain ⟨n, h1, _⟩ := DataW.trod_bool ht h
  exact ⟨n, h1⟩
theorem Dec.string (h : Dec P w t cs) (ht : P.underlying t = some .string) : ∃ s : ByteArray, cs = [.string s] ∧ s.size ≤ maxLen := by
  obtain ⟨H, enc, fuel, x, h⟩ := h
  obtain ⟨n, h1, _, h2⟩ := DataW.trod_string ht h
  exact ⟨n, h1, h2⟩
theorem Dec.slice (h : Dec P w t cs) (ht : P.underlying t = some (.slice e)) : ∃ A len cap, cs = [.slice A len cap] ∧ len ≤ cap ∧ cap ≤ maxLen ∧
    ∀ i, i < len → ∃ a cs', A = some a ∧ w.cells? 0 (a.add (i * P.cellsOf e)) (P.cellsOf e) = some cs' ∧ Dec P w e cs' := by
  obtain ⟨H, enc, fuel, x, h⟩ := h
  rcases Deep.open_slice ht h with ⟨rfl, _⟩ | ⟨a, len, cap, m, n, D, Pl, rfl, _, hl, hm, hmm, _, hx⟩
  · exact ⟨none, 0, 0, rfl, Nat.le_refl _, by simp [maxLen], fun i hi => absurd hi (Nat.not_lt_zero _)⟩
  · refine ⟨some a, len, cap, rfl, hl, hm, fun i hi => ?_⟩
    have hlm : len ≤ m := by rw [hmm]; split <;> omega
    obtain ⟨cs', h1, h2⟩ := hx i (by omega)
    exact ⟨a, cs', rfl, h1, H, enc, n, _, h2⟩
theorem Dec.struct {fs : Array Field} (h : Dec P w t cs) (ht : P.underlying t = some (.struct fs)) : cs.length = P.cellsOf t ∧
    ∀ (i : Nat) (f : Field), fs[i]? = some f → Dec P w f.type ((cs.drop f.offset).take (P.cellsOf f.type)) := by
  obtain ⟨H, enc, fuel, x, h⟩ := h
  obtain ⟨xs, n, _, _, hl, hsz, hf⟩ := DataW.trod_struct ht h
  refine ⟨hl, fun i f hif => ?_⟩
  have := hf i f hif
  have hi : i < xs.length := by rw [hsz]; exact (Array.getElem?_eq_some_iff.1 hif).1
  rw [List.getElem?_eq_getElem hi] at this
  exact ⟨H, enc, n, _, this⟩
/-- A slice whose elements are one cell each: the list of what they read as, by a reading φ of one cell. -/
theorem Dec.row (h : Dec P w t cs) (ht : P.underlying t = some (.slice e)) (hc : P.cellsOf e = 1) {α : Type} (f : α → Value) (Φ : α → Prop) (hφ : ∀ cs, Dec P w e cs → ∃ x, cs = [f x] ∧ Φ x) :
    ∃ (A : Option Addr) (len cap : Nat) (l : List α), cs = [.slice A len cap] ∧ l.length = len ∧ len ≤ cap ∧ cap ≤ maxLen ∧ (∀ x ∈ l, Φ x) ∧ Rd w (· < w.heap.size) A (l.map f) := by
  obtain ⟨A, len, cap, rfl, hl, hm, hx⟩ := h.slice ht
  have key : ∀ n, n ≤ len → ∃ l : List α, l.length = n ∧ (∀ x ∈ l, Φ x) ∧ ∀ i (u : Value), (l.map f)[i]? = some u → ∃ a, A = some a ∧ w.cell? (a.add i) = some u := by
    intro n
    induction n with
    | zero => exact fun _ => ⟨[], rfl, by simp, by simp⟩
    | succ n ih =>
      intro hn
      obtain ⟨l, hll, hlφ, hlc⟩ := ih (by omega)
      obtain ⟨a, cs', ha, hcell, hd⟩ := hx n (by omega)
      obtain ⟨x, rfl, hxφ⟩ := hφ _ hd
      rw [hc, Nat.mul_one] at hcell
      refine ⟨l ++ [x], by simp [hll], ?_, ?_⟩
      · intro y hy
        rcases List.mem_append.1 hy with h | h
        · exact hlφ y h
        · rw [List.mem_singleton.1 h]; exact hxφ
      · intro i u hu
        rw [List.map_append] at hu
        by_cases hi : i < n
        · rw [List.getElem?_append_left (by simp [hll]; exact hi)] at hu
          exact hlc i u hu
        · rw [List.getElem?_append_right (by simp [hll]; omega)] at hu
          have hi0 : i = n := by
            rcases Nat.lt_or_ge n i with h | h
            · rw [List.getElem?_eq_none (by simp [hll]; omega)] at hu; cases hu
            · omega
          subst hi0
          simp [hll] at hu
          subst hu
          exact ⟨a, ha, cell_of_cells?_one hcell⟩
  obtain ⟨l, hll, hlφ, hlc⟩ := key len (Nat.le_refl _)
  refine ⟨A, len, cap, l, rfl, hll, hl, hm, hlφ, ?_⟩
  cases l with
  | nil => exact .inl rfl
  | cons x l =>
    obtain ⟨a, ha, h0⟩ := hlc 0 (f x) rfl
    refine .inr ⟨a, ha, ?_, fun j u hu => ?_⟩
    · have := World.block_lt_of_cell? w _ h0
      rwa [block_of_add] at this
    · obtain ⟨a', ha', hc'⟩ := hlc j u hu
      rw [ha] at ha'
      injection ha' with ha'
      subst ha'
      exact hc'
theorem Dec.bytes (h : Dec P w t cs) (ht : P.underlying t = some (.slice e)) (he : P.underlying e = some (.int .u8)) (hc : P.cellsOf e = 1) :
    ∃ (A : Option Addr) (len cap : Nat) (l : List UInt8), cs = [.slice A len cap] ∧ l.length = len ∧ len ≤ cap ∧ cap ≤ maxLen ∧ Rd w (· < w.heap.size) A (bvs l) := by
  obtain ⟨A, len, cap, l, h1, h2, h3, h4, _, h5⟩ := h.row ht hc bv (fun _ => True) (fun cs hd => by
    obtain ⟨n, rfl, hw⟩ := hd.int he
    simp [Lit.wf, IntKind.min, IntKind.max, IntKind.signed, IntKind.bits] at hw
    exact ⟨UInt8.ofNat n.toNat, by simp [bv]; omega, trivial⟩)
  exact ⟨A, len, cap, l, h1, h2, h3, h4, h5⟩
/-- As Dec.bytes, at a slice that is named. -/
theorem Dec.row1 {A : Option Addr} {len cap : Nat} (h : Dec P w t [.slice A len cap]) (ht : P.underlying t = some (.slice e)) (he : P.underlying e = some (.int .u8)) (hc : P.cellsOf e = 1) :
    ∃ l : List UInt8, l.length = len ∧ len ≤ cap ∧ Rd w (· < w.heap.size) A (bvs l) := by
  obtain ⟨A0, n0, k0, l0, e0, hl0, hc0, _, r0⟩ := h.bytes ht he hc
  injection e0 with e0 _; injection e0 with e1 e2 e3; subst e1 e2 e3
  exact ⟨l0, hl0, hc0, r0⟩
/-- A slice of elements of s cells each: cells of element i, and its reading. -/
theorem Dec.cells (h : Dec P w t cs) (ht : P.underlying t = some (.slice e)) {s : Nat} (hs : P.cellsOf e = s) : ∃ A len cap, cs = [.slice A len cap] ∧ len ≤ cap ∧ cap ≤ maxLen ∧
    ∀ i, i < len → A.isSome = true ∧ ∃ cs' : List Value, cs'.length = s ∧ (∀ j u, cs'[j]? = some u → w.cell? ((A.getD default).add (i * s + j)) = some u) ∧ Dec P w e cs' := by
  obtain ⟨A, len, cap, rfl, hl, hm, hx⟩ := h.slice ht
  refine ⟨A, len, cap, rfl, hl, hm, fun i hi => ?_⟩
  obtain ⟨a, cs', rfl, h1, h2⟩ := hx i hi
  rw [hs] at h1
  obtain ⟨_, hlen, hcell⟩ := World.cells?_some h1
  refine ⟨rfl, cs', hlen, fun j u hu => ?_, h2⟩
  have := hcell j (by rw [← hlen]; exact (List.getElem?_eq_some_iff.1 hu).1)
  show w.cell? (a.add (i * s + j)) = some u
  rw [← add_of_add, this, hu]
end
end Go.Proofs.YtnmpfbffacljfaaDoor
