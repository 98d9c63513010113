/- Slices of the call's own that may begin within their block; elements of any number of cells; append. Plain lemmas, no program. -/
import Derived.Test.YtnmpfbffacljfaaDoorByte
import Derived.Deep.AppendSrc
namespace Go.Proofs.YtnmpfbffacljfaaDoor
open Go.RowKit

/-- n elements of s cells each, in a block of the call's own, from anywhere in it. -/
structure OwO (E : TypeId) (s : Nat) (w : World) (base : Nat) (A : Option Addr) (n c : Nat) (xs : List Value) : Prop where
  size : xs.length = n * s
  le : n ≤ c
  max : c ≤ maxLen
  ex : (A = none ∧ c = 0) ∨ ∃ g off cur, A = some ⟨g, off, none⟩ ∧ base ≤ g ∧ Blk w g E cur ∧ off + c * s ≤ cur.size ∧ (cur.toList.drop off).take (n * s) = xs
section
variable {E : TypeId} {s : Nat} {S : Nat → Prop} {w w' : World} {base : Nat} {A : Option Addr} {n c : Nat} {xs : List Value} {P : Program}
theorem OwO.nil (w : World) (base : Nat) : OwO E s w base none 0 0 [] := ⟨by simp, Nat.le_refl _, Nat.zero_le _, .inl ⟨rfl, rfl⟩⟩
theorem OwO.ext (h : OwO E s w base A n c xs) (hx : Ext S w w') (hS : ∀ k, ob A = some k → ¬ S k) : OwO E s w' base A n c xs := by
  refine ⟨h.size, h.le, h.max, ?_⟩
  rcases h.ex with h | ⟨g, off, cur, rfl, hb, hg, h1, h2⟩
  · exact .inl h
  · exact .inr ⟨g, off, cur, rfl, hb, hg.ext hx (hS g rfl), h1, h2⟩
theorem OwO.extN (h : OwO E s w base A n c xs) (hx : Ext Non w w') : OwO E s w' base A n c xs := h.ext hx (fun _ _ h => h)
theorem OwO.lt (h : OwO E s w base A n c xs) {k : Nat} (hk : ob A = some k) : base ≤ k ∧ k < w.heap.size := by
  rcases h.ex with ⟨rfl, _⟩ | ⟨g, off, cur, rfl, hb, hg, _⟩
  · cases hk
  · injection hk with hk
    subst hk
    exact ⟨hb, hg.lt⟩
theorem OwO.lower (h : OwO E s w base A n c xs) {base' : Nat} (hb : ∀ k, ob A = some k → base' ≤ k) : OwO E s w base' A n c xs := by
  refine ⟨h.size, h.le, h.max, ?_⟩
  rcases h.ex with h | ⟨g, off, cur, rfl, _, r⟩
  · exact .inl h
  · exact .inr ⟨g, off, cur, rfl, hb g rfl, r⟩
theorem OwO.rd (h : OwO E s w base A n c xs) : Rd w (fun k => ob A = some k) A xs := by
  rcases h.ex with ⟨rfl, h0⟩ | ⟨g, off, cur, rfl, hb, hg, h1, h2⟩
  · left
    have := h.le
    have := h.size
    have hn : n = 0 := by omega
    rw [hn, Nat.zero_mul] at this
    exact List.eq_nil_of_length_eq_zero this
  · have := Rd.of_blk (D := fun k => ob (some (⟨g, off, none⟩ : Addr)) = some k) hg rfl off (n * s)
    rw [h2] at this
    exact this
/-- s[k:] -/
theorem OwO.drop (h : OwO E s w base A n c xs) (k : Nat) (hk : k ≤ n) (hs : A.isSome = true) (hlt : k < c) : OwO E s w base (A.map (·.add (k * s))) (n - k) (c - k) (xs.drop (k * s)) := by
  have h1 := h.size
  have h2 := h.le
  have h3 := h.max
  have e : (n - k) * s = n * s - k * s := Nat.sub_mul ..
  have e' : (c - k) * s = c * s - k * s := Nat.sub_mul ..
  have hkc : k * s ≤ c * s := Nat.mul_le_mul_right _ (by omega)
  refine ⟨by rw [List.length_drop, h1, e], by omega, by omega, ?_⟩
  rcases h.ex with ⟨rfl, _⟩ | ⟨g, off, cur, rfl, hb, hg, h4, h5⟩
  · cases hs
  · refine .inr ⟨g, off + k * s, cur, ?_, hb, hg, ?_, ?_⟩
    · simp only [Option.map_some]
      unfold Addr.add
      split
      · rename_i e0; rw [e0, Nat.add_zero]
      · rfl
    · omega
    · rw [← h5, List.drop_take, List.drop_drop, e]

theorem run_apO {T : TypeId} {z : Value} {bytes : Nat} (hT : P.underlying T = some (.slice E)) (hE : (P.info? E).map (fun i => (i.zero, i.size, i.bytes)) = some (some z, s, bytes)) (hz : z.cells.size = s)
    (ty : TypeId) (h : OwO E s w base A n c xs) {B : Addr} {m : Nat} {ys : List Value} (hr : ∀ j u, ys[j]? = some u → w.cell? (B.add j) = some u) (hl : ys.length = m * s) (h1 : ∀ u ∈ ys, u.oneCell' = true) (d : Nat)
    (hlen : n + m ≤ 1000000) (hb : bytes ≤ 1000000) (hbase : base ≤ w.heap.size) :
    ∃ A' c' w', (Builtin.append_ #[T, T] ty #[.slice A n c, .slice (some B) m d]).run P w = .ok (.slice A' (n + m) c') w' ∧ OwO E s w' base A' (n + m) c' (xs ++ ys) ∧
      Ext (fun k => ob A = some k) w w' ∧ (ob A' = ob A ∨ ob A' = some w.heap.size) := by
  obtain ⟨i, hi, hz0, hz1, hz2⟩ := info_parts hE
  have hxs := h.size
  have hsl : (xs ++ ys).length = (n + m) * s := by rw [List.length_append, hxs, hl, Nat.add_mul]
  by_cases hroom : n + m ≤ c
  · rcases h.ex with ⟨rfl, h0⟩ | ⟨g, off, cur, rfl, hbg, hg, h4, h5⟩
    · -- nil: nothing is appended
      have hm : m = 0 := by omega
      have hn : n = 0 := by omega
      subst hm hn
      have hy : ys = [] := List.eq_nil_of_length_eq_zero (by simpa using hl)
      have hx0 : xs = [] := List.eq_nil_of_length_eq_zero (by simpa using hxs)
      subst hy hx0
      have hfc := run_firstCells_some (P := P) w i.size 0 B 0 d [] (by simp) (fun j u hu => by simp at hu)
      refine ⟨none, c, w, ?_, by simpa using h, Ext.refl _ _, .inl rfl⟩
      simp [Builtin.append_, run_underlying hT, sizeOf, typeInfo, hi, Builtin.lenOf, hfc]
    · have hf := run_firstCells_some (P := P) w i.size m B m d ys (by rw [hz1]; exact hl) hr
      have hcm : (n + m) * s ≤ c * s := Nat.mul_le_mul_right _ hroom
      rw [Nat.add_mul] at hcm
      have hst := run_storeCells_at P g (off + n * i.size) E ys 0 cur w hg (by rw [hz1]; omega) h1
      simp only [Nat.add_zero] at hst
      have hrun : (Builtin.append_ #[T, T] ty #[.slice (some ⟨g, off, none⟩) n c, .slice (some B) m d]).run P w =
          .ok (.slice (some ⟨g, off, none⟩) (n + m) c) (w.setRow g (cur.toList.take (off + n * i.size) ++ ys ++ cur.toList.drop (off + n * i.size + ys.length)).toArray) := by
        simp [Builtin.append_, run_underlying hT, sizeOf, typeInfo, hi, Builtin.lenOf, hroom, hf, Addr.add_lit, hst]
      rw [hz1] at hrun
      refine ⟨_, _, _, hrun, ⟨hsl, hroom, h.max, .inr ⟨g, off, _, rfl, hbg, setRow_heap w g cur _ E (0, 0) hg, ?_, ?_⟩⟩, ((Ext.refl (fun k => ob (some (⟨g, off, none⟩ : Addr)) = some k) w).setRow (.inr rfl) _), .inl rfl⟩
      · simp only [List.size_toArray, List.length_append, List.length_take, List.length_drop, Array.length_toList]
        omega
      · rw [List.append_assoc, List.drop_append, List.drop_take]
        have e0 : off - (List.take (off + n * s) cur.toList).length = 0 := by
          rw [List.length_take, Array.length_toList]; omega
        rw [e0, List.drop_zero, show off + n * s - off = n * s from by omega, h5]
        rw [Nat.add_mul, ← List.append_assoc, List.take_append_of_le_length (by rw [List.length_append]; omega), List.take_of_length_le (by rw [List.length_append]; omega)]
  · have hlt : n ≤ c := h.le
    have hmul : (n + m) * bytes ≤ 1000000 * 1000000 := Nat.mul_le_mul hlen hb
    have hfit : Builtin.nextslicecap (n + m) c * i.bytes ≤ 281474976710656 := growslice_fits (by omega) (by rw [hz2]; omega)
    have hold : (Builtin.firstCells i.size n (.slice A n c)).run P w.drew = .ok xs.toArray w.drew := by
      rcases h.rd with rfl | ⟨a, rfl, _, hc⟩
      · cases A with
        | none => exact run_firstCells_none w.drew i.size n n c
        | some a => exact run_firstCells_some w.drew i.size n a n c [] (by rw [hz1]; exact hxs) (fun j u hu => by simp at hu)
      · exact run_firstCells_some w.drew i.size n a n c xs (by rw [hz1]; exact hxs) (by simpa using hc)
    have hrun := run_append_grow_src (P := P) w T T ty E i z hT hi hz0 A n c xs hold (.slice (some B) m d) m ys (Src.ofSlice w hT B m d ys (by rw [hz1]; exact hl) hr h1) (by omega) (by omega) hfit
    have hcap := grownCap_le_maxLen w (n + m) c E (by simp only [maxLen]; omega)
    have hge : n + m ≤ grownCap w (n + m) c E := by simp only [grownCap, Question.cut]; omega
    refine ⟨_, _, _, hrun, ⟨hsl, hge, hcap, .inr ⟨w.heap.size, 0, _, rfl, hbase, heap_alloc_new _ _, ?_, ?_⟩⟩, ?_, .inr rfl⟩
    · rw [Array.size_append, size_zeroCells, List.size_toArray, hsl, hz]
      have : (grownCap w (n + m) c E - (n + m)) * s = grownCap w (n + m) c E * s - (n + m) * s := Nat.sub_mul ..
      have : (n + m) * s ≤ grownCap w (n + m) c E * s := Nat.mul_le_mul_right _ hge
      omega
    · rw [List.drop_zero, Array.toList_append, List.take_append_of_le_length (Nat.le_of_eq (by simpa using hsl.symm))]
      exact List.take_of_length_le (Nat.le_of_eq (by simpa using hsl))
    · exact ((Ext.refl _ w).drew).alloc _
end
end Go.Proofs.YtnmpfbffacljfaaDoor
