/- Pieces that came in. -/
import Derived.Test.YtcdpmedmhindaaaArr
import Derived.Test.YtcdpmedmhindaaaPieA
namespace Go.Proofs.Ytcdpmedmhindaaa
open Go.RowKit

theorem Dec.nat16 {P : Program} {w : World} {t : TypeId} {cs : List Value} (h : Dec P w t cs) (ht : P.underlying t = some (.int .u16)) : ∃ n : Nat, cs = [.int .u16 n] ∧ n < 65536 := by
  obtain ⟨n, rfl, hw⟩ := h.int ht
  simp [Lit.wf, IntKind.min, IntKind.max, IntKind.signed, IntKind.bits] at hw
  exact ⟨n.toNat, by rw [Int.toNat_of_nonneg hw.1], by omega⟩
theorem Dec.nat32 {P : Program} {w : World} {t : TypeId} {cs : List Value} (h : Dec P w t cs) (ht : P.underlying t = some (.int .u32)) : ∃ n : Nat, cs = [.int .u32 n] ∧ n < 4294967296 := by
  obtain ⟨n, rfl, hw⟩ := h.int ht
  simp [Lit.wf, IntKind.min, IntKind.max, IntKind.signed, IntKind.bits] at hw
  exact ⟨n.toNat, by rw [Int.toNat_of_nonneg hw.1], by omega⟩
theorem cut_list {L r s : List Value} {o n : Nat} (h : (L.drop o).take n = r) (o2 : Nat) (h2 : o + n = o2) (h3 : L.drop o2 = s) : L.drop o = r ++ s := by
  subst h h2 h3
  rw [← List.drop_drop, List.take_append_drop]
section
variable {w : World}
theorem Dec.pieceL {cs : List Value} (h : Dec Try.prog w 45 cs) : ∃ (p : Pc) (A : Option Addr) (c : Nat), p.ok ∧ cs = (pcA p A c).toList ∧ p.b.length ≤ c ∧ c ≤ maxLen ∧ Rd w (· < w.heap.size) A (bvs p.b) := by
  obtain ⟨hl, hf⟩ := h.struct Try.underlying45
  rw [show Try.prog.cellsOf 45 = 7 by kernel_rfl] at hl
  have h0 : Dec Try.prog w 3 ((cs.drop 0).take (Try.prog.cellsOf 3)) := hf 0 _ rfl
  rw [show Try.prog.cellsOf 3 = 1 by kernel_rfl] at h0
  have h1 : Dec Try.prog w 22 ((cs.drop 1).take (Try.prog.cellsOf 22)) := hf 1 _ rfl
  rw [show Try.prog.cellsOf 22 = 1 by kernel_rfl] at h1
  have h2 : Dec Try.prog w 30 ((cs.drop 2).take (Try.prog.cellsOf 30)) := hf 2 _ rfl
  rw [show Try.prog.cellsOf 30 = 1 by kernel_rfl] at h2
  have h3 : Dec Try.prog w 31 ((cs.drop 3).take (Try.prog.cellsOf 31)) := hf 3 _ rfl
  rw [show Try.prog.cellsOf 31 = 1 by kernel_rfl] at h3
  have h4 : Dec Try.prog w 3 ((cs.drop 4).take (Try.prog.cellsOf 3)) := hf 4 _ rfl
  rw [show Try.prog.cellsOf 3 = 1 by kernel_rfl] at h4
  have h5 : Dec Try.prog w 3 ((cs.drop 5).take (Try.prog.cellsOf 3)) := hf 5 _ rfl
  rw [show Try.prog.cellsOf 3 = 1 by kernel_rfl] at h5
  have h6 : Dec Try.prog w 24 ((cs.drop 6).take (Try.prog.cellsOf 24)) := hf 6 _ rfl
  rw [show Try.prog.cellsOf 24 = 1 by kernel_rfl] at h6
  obtain ⟨n0, e0, _⟩ := h0.int Try.underlying3
  obtain ⟨n4, e4, _⟩ := h4.int Try.underlying3
  obtain ⟨n5, e5, _⟩ := h5.int Try.underlying3
  obtain ⟨n1, e1, b1⟩ := h1.nat32 Try.underlying22
  obtain ⟨n2, e2, b2⟩ := h2.nat16 Try.underlying30
  obtain ⟨n3, e3, b3⟩ := h3.nat16 Try.underlying31
  obtain ⟨A, n, c, l, e6, hln, hc, hcm, r⟩ := h6.bytes Try.underlying24 Try.underlying5 (by kernel_rfl)
  subst hln
  refine ⟨⟨n0, n1, n2, n3, n4, n5, l⟩, A, c, ⟨b1, b2, b3⟩, ?_, hc, hcm, r⟩
  have hnil : cs.drop 7 = [] := List.drop_of_length_le (by omega)
  have := cut_list e0 1 rfl (cut_list e1 2 rfl (cut_list e2 3 rfl (cut_list e3 4 rfl (cut_list e4 5 rfl (cut_list e5 6 rfl (cut_list e6 7 rfl hnil))))))
  rw [List.drop_zero] at this
  rw [this]
  rfl
theorem Dec.piece {a : Array Value} (h : Dec Try.prog w 45 a.toList) : ∃ (p : Pc) (A : Option Addr) (c : Nat), p.ok ∧ a = pcA p A c ∧ p.b.length ≤ c ∧ c ≤ maxLen ∧ Rd w (· < w.heap.size) A (bvs p.b) := by
  obtain ⟨p, A, c, h1, h2, h3⟩ := h.pieceL
  exact ⟨p, A, c, h1, Array.toList_inj.1 h2, h3⟩
end
end Go.Proofs.Ytcdpmedmhindaaa
