/- Bytes of a string, as a slice of its own. Plain lemmas. -/
import Derived.Lib.ConvBytes
import Derived.Test.YtnmpfbffacljfaaDoorByte
namespace Go.Proofs.YtnmpfbffacljfaaDoor
open Go.RowKit

theorem bytesWorld_ext (w : World) (e : TypeId) (s : ByteArray) : Ext Non w (Lib.bytesWorld w e s) :=
  ⟨by simp [Lib.bytesWorld, World.freeze, World.alloc, World.drew, -World.alloc_eq, -World.drew_eq], by simp [Lib.bytesWorld, World.freeze, World.alloc, World.drew, -World.alloc_eq, -World.drew_eq],
    by simp [Lib.bytesWorld, World.freeze, World.alloc, World.drew, -World.alloc_eq, -World.drew_eq], by rw [Lib.bytesWorld_size]; omega, fun k hk _ => Lib.bytesWorld_at_old w e s k hk⟩
/-- '[]byte(s)' of a string that is no constant. -/
theorem conv_bytes (w : World) (l : List UInt8) : ∃ c w', (convert 9 50 (.string (str l))).run Tryd.prog w = .ok (.slice (some ⟨w.heap.size, 0, none⟩) l.length c) w' ∧ l.length ≤ c ∧ Ext Non w w' ∧ w'.heap.size = w.heap.size + 1 ∧
    Rd w' (fun k => k = w.heap.size) (some ⟨w.heap.size, 0, none⟩) (bvs l) := by
  refine ⟨grownCap w (str l).size 0 5, Lib.bytesWorld w 5 (str l), ?_, ?_, bytesWorld_ext w _ _, Lib.bytesWorld_size w _ _, .inr ⟨_, rfl, rfl, fun j u hu => ?_⟩⟩
  · have := Lib.run_convert_string_bytes (P := Tryd.prog) w 9 50 5 (str l) Tryd.underlying9 Tryd.underlying50 Tryd.underlying5
    rw [str_size] at this
    rw [str_size]
    exact this
  · rw [str_size]
    exact grownCap_ge w l.length 0 5
  · have hj : j < l.length := by
      rcases Nat.lt_or_ge j l.length with h | h
      · exact h
      · rw [List.getElem?_eq_none (by simp [bvs]; omega)] at hu
        cases hu
    have e : (⟨w.heap.size, 0, none⟩ : Addr).add j = ⟨w.heap.size, j, none⟩ := by unfold Addr.add; split <;> simp_all
    rw [e, Lib.bytesWorld_cell w _ _ j (by rw [str_size]; exact hj), ← hu]
    simp [bvs, bv, str, hj, List.getD]
end Go.Proofs.YtnmpfbffacljfaaDoor
