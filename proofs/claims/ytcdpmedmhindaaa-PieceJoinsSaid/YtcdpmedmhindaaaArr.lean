/- Arrays of bytes that came in. Plain lemmas. -/
import Derived.OpenShut
import Derived.Test.YtcdpmedmhindaaaDec
import Derived.Test.YtcdpmedmhindaaaByte
namespace Go.Proofs.Ytcdpmedmhindaaa
open Go.RowKit

theorem okWide_array {P : Program} {w : World} {r : Reach} {base : Nat} {t : TypeId} {v : Value} {n : Nat} {e : TypeId} (ht : P.underlying t = some (.array n e)) (h : Value.okWide P w r base t v) : ∃ cs, v = .agg cs ∧ cs.size = P.cellsOf t := by
  simp only [Value.okWide, ht] at h
  obtain ⟨cs, h1, h2, _⟩ := h
  exact ⟨cs, h1, h2⟩
theorem Dec.array {P : Program} {w : World} {t e : TypeId} {cs : List Value} {n : Nat} (h : Dec P w t cs) (ht : P.underlying t = some (.array n e)) : cs.length = P.cellsOf t ∧ ∀ i, i < n → Dec P w e ((cs.drop (i * P.cellsOf e)).take (P.cellsOf e)) := by
  obtain ⟨H, enc, fuel, x, h⟩ := h
  obtain ⟨xs, m, _, _, hl, hsz, hx⟩ := DataW.trod_array ht h
  refine ⟨hl, fun i hi => ?_⟩
  have := hx i hi
  rw [List.getElem?_eq_getElem (by omega)] at this
  exact ⟨H, enc, m, _, this⟩
theorem Dec.barr {P : Program} {w : World} {t e : TypeId} {a : Array Value} {n : Nat} (h : Dec P w t a.toList) (ht : P.underlying t = some (.array n e)) (he : P.underlying e = some (.int .u8)) (hc : P.cellsOf e = 1) (hn : P.cellsOf t = n) : ∃ l : List UInt8, a = ba l ∧ l.length = n := by
  obtain ⟨hl, hx⟩ := h.array ht
  rw [hn] at hl
  rw [hc] at hx
  have key : ∀ k, k ≤ n → ∃ l : List UInt8, l.length = k ∧ a.toList.take k = bvs l := by
    intro k
    induction k with
    | zero => exact fun _ => ⟨[], rfl, rfl⟩
    | succ k ih =>
      intro hk
      obtain ⟨l, h1, h2⟩ := ih (by omega)
      obtain ⟨z, h3, hw⟩ := (hx k (by omega)).int he
      simp [Lit.wf, IntKind.min, IntKind.max, IntKind.signed, IntKind.bits] at hw
      rw [Nat.mul_one] at h3
      refine ⟨l ++ [UInt8.ofNat z.toNat], by simp [h1], ?_⟩
      rw [List.take_add_one, bvs_append, ← h2]
      congr 1
      have h4 : a.toList[k]? = some (.int .u8 z) := by
        have := congrArg List.head? h3
        simpa [List.head?_take, List.head?_drop] using this
      rw [h4]
      simp [bvs, bv]
      omega
  obtain ⟨l, h1, h2⟩ := key n (Nat.le_refl _)
  refine ⟨l, ?_, h1⟩
  rw [List.take_of_length_le (by omega)] at h2
  unfold ba
  rw [← h2]
end Go.Proofs.Ytcdpmedmhindaaa
