/- An array of 256 bytes is written into a slice of the call's own. -/
import Derived.Test.YtcdpmedmhindaaaPieO
namespace Go.Proofs.Ytcdpmedmhindaaa
open Go.RowKit

theorem splice_drop {α : Type} (L : List α) (o x : Nat) (v : List α) (h : o + x ≤ L.length) : (splice L (o + x) v).drop o = splice (L.drop o) x v := by
  unfold splice
  rw [List.drop_append_of_le_length (by simp; omega), List.drop_take, List.drop_drop, Nat.add_sub_cancel_left, Nat.add_assoc]
theorem splice_take {α : Type} (L : List α) (x n : Nat) (v : List α) (h : x + v.length ≤ n) (hn : n ≤ L.length) : (splice L x v).take n = splice (L.take n) x v := by
  unfold splice
  have h1 : (L.take x).length = x := by rw [List.length_take]; omega
  rw [List.take_append, h1, List.take_of_length_le (by omega), List.take_append, List.take_of_length_le (by omega : v.length ≤ n - x), List.take_take, Nat.min_eq_left (by omega), List.drop_take, Nat.sub_sub]
theorem splice_tail {α : Type} (s L v : List α) (x k : Nat) (hs : s.length = k) : splice (s ++ L) (k + x) v = s ++ splice L x v := by
  subst hs
  unfold splice
  rw [List.take_append, List.take_of_length_le (by omega), Nat.add_sub_cancel_left, List.drop_append, List.drop_of_length_le (by omega), List.nil_append, List.append_assoc, Nat.add_assoc, Nat.add_sub_cancel_left]
theorem flat_set : ∀ (ls : List (List UInt8)) (i : Nat) (t : List UInt8), (∀ s ∈ ls, s.length = 256) → t.length = 256 → i < ls.length → (ls.set i t).flatten = splice ls.flatten (i * 256) t
  | [], _, _, _, _, h => by simp at h
  | s :: r, 0, t, hs, ht, _ => by
    have := hs s (by simp)
    unfold splice
    simp only [List.set_cons_zero, List.flatten_cons, Nat.zero_mul, List.take_zero, List.nil_append, Nat.zero_add, ht]
    rw [List.drop_append, this, List.drop_of_length_le (by omega)]
    simp
  | s :: r, i + 1, t, hs, ht, hi => by
    have h1 := hs s (by simp)
    rw [List.set_cons_succ, List.flatten_cons, List.flatten_cons, show (i + 1) * 256 = 256 + i * 256 from by omega, splice_tail s _ t _ _ h1,
      flat_set r i t (fun x hx => hs x (by simp [hx])) ht (by simpa using hi)]
theorem bvs_splice (L v : List UInt8) (x : Nat) : splice (bvs L) x (bvs v) = bvs (splice L x v) := by
  simp [splice, bvs, List.map_take, List.map_drop]
theorem flat_len : ∀ ls : List (List UInt8), (∀ s ∈ ls, s.length = 256) → ls.flatten.length = ls.length * 256
  | [], _ => rfl
  | s :: r, h => by
    rw [List.flatten_cons, List.length_append, h s (by simp), flat_len r (fun x hx => h x (by simp [hx])), List.length_cons]
    omega
set_option maxRecDepth 100000 in
theorem OwA.store {w : World} {base : Nat} {A : Option Addr} {c : Nat} {ls : List (List UInt8)} (h : OwA w base A c ls) (i : Nat) (hi : i < ls.length) (t : List UInt8) (ht : t.length = 256) :
    A.isSome = true ∧ ∃ w', (bigStore 35 (.pointer (some ((A.getD default).add (i * 256)))) (.agg (ba t))).run Try.prog w = .ok () w' ∧ OwA w' base A c (ls.set i t) ∧ Ext (fun k => ob A = some k) w w' := by
  have hle := h.own.le
  rcases h.own.ex with ⟨_, h0⟩ | ⟨g, off, cur, rfl, hb, hg, h1, h2⟩
  · omega
  have hsz : i * 256 + 256 ≤ c * 256 := by omega
  have hA : ((some (⟨g, off, none⟩ : Addr)).getD default).add (i * 256) = ⟨g, off + i * 256, none⟩ := addr_add g off (i * 256)
  rw [hA]
  have hth := hg.there (off + i * 256) (ba t).size (by rw [ba_size, ht]; omega)
  have hst := run_storeAt_mid (P := Try.prog) w g (off + i * 256) 35 (ba t) hth (by rw [ba_size, ht]; kernel_rfl) (ba_all t)
  refine ⟨rfl, _, hst, ?_, ?_⟩
  · have hB := Blk.setCells (g := g) (t := 35) (bvs t) (off + i * 256) (w := w) (cs := cur.toList) (by simpa using hg) (by rw [bvs_length, ht, Array.length_toList]; omega)
    refine ⟨fun s hs => ?_, ⟨?_, by rw [List.length_set]; exact hle, h.own.max, .inr ⟨g, off, _, rfl, hb, hB, ?_, ?_⟩⟩⟩
    · rcases List.mem_or_eq_of_mem_set hs with hs | rfl
      · exact h.each s hs
      · exact ht
    · rw [bvs_length, flat_len _ (fun s hs => by
        rcases List.mem_or_eq_of_mem_set hs with hs | rfl
        · exact h.each s hs
        · exact ht)]
    · unfold splice
      simp only [List.size_toArray, List.length_append, List.length_take, List.length_drop, bvs_length, ht, Array.length_toList]
      omega
    · have hcl : off + c * 256 ≤ cur.toList.length := by rw [Array.length_toList]; exact h1
      show ((splice cur.toList (off + i * 256) (bvs t)).drop off).take ((ls.set i t).length * 256) = _
      rw [List.length_set, splice_drop _ _ _ _ (by omega), splice_take _ _ _ _ (by rw [bvs_length, ht]; omega) (by rw [List.length_drop]; omega), h2, bvs_splice, flat_set ls i t h.each ht hi]
  · exact Ext.setCells (S := fun k => ob (some (⟨g, off, none⟩ : Addr)) = some k) (Ext.refl _ w) g (.inr rfl) (bvs t) (off + i * 256) (Ext.refl _ w)
end Go.Proofs.Ytcdpmedmhindaaa
