/- Slots and packets that came in. -/
import Derived.Test.YtgfjpoopghdilaaArr
import Derived.Test.YtgfjpoopghdilaaSlotP
namespace Go.Proofs.Ytgfjpoopghdilaa
open Go.RowKit

theorem Dec.nat8 {P : Program} {w : World} {t : TypeId} {cs : List Value} (h : Dec P w t cs) (ht : P.underlying t = some (.int .u8)) : ∃ n : Nat, cs = [.int .u8 n] ∧ n < 256 := by
  obtain ⟨n, rfl, hw⟩ := h.int ht
  simp [Lit.wf, IntKind.min, IntKind.max, IntKind.signed, IntKind.bits] at hw
  exact ⟨n.toNat, by rw [Int.toNat_of_nonneg hw.1], by omega⟩
theorem Dec.nat16 {P : Program} {w : World} {t : TypeId} {cs : List Value} (h : Dec P w t cs) (ht : P.underlying t = some (.int .u16)) : ∃ n : Nat, cs = [.int .u16 n] ∧ n < 65536 := by
  obtain ⟨n, rfl, hw⟩ := h.int ht
  simp [Lit.wf, IntKind.min, IntKind.max, IntKind.signed, IntKind.bits] at hw
  exact ⟨n.toNat, by rw [Int.toNat_of_nonneg hw.1], by omega⟩
theorem Dec.nat32 {P : Program} {w : World} {t : TypeId} {cs : List Value} (h : Dec P w t cs) (ht : P.underlying t = some (.int .u32)) : ∃ n : Nat, cs = [.int .u32 n] ∧ n < 4294967296 := by
  obtain ⟨n, rfl, hw⟩ := h.int ht
  simp [Lit.wf, IntKind.min, IntKind.max, IntKind.signed, IntKind.bits] at hw
  exact ⟨n.toNat, by rw [Int.toNat_of_nonneg hw.1], by omega⟩
theorem Dec.nat64 {P : Program} {w : World} {t : TypeId} {cs : List Value} (h : Dec P w t cs) (ht : P.underlying t = some (.int .u64)) : ∃ n : Nat, cs = [.int .u64 n] ∧ n < 18446744073709551616 := by
  obtain ⟨n, rfl, hw⟩ := h.int ht
  simp [Lit.wf, IntKind.min, IntKind.max, IntKind.signed, IntKind.bits] at hw
  exact ⟨n.toNat, by rw [Int.toNat_of_nonneg hw.1], by omega⟩
theorem Dec.arr_of {P : Program} {w : World} {t e : TypeId} {cs : List Value} {n : Nat} (h : Dec P w t cs) (ht : P.underlying t = some (.array n e)) (he : P.underlying e = some (.int .u8)) (hc : P.cellsOf e = 1) (hn : P.cellsOf t = n) : ∃ l : List UInt8, cs = bvs l ∧ l.length = n := by
  have h' : Dec P w t cs.toArray.toList := h
  obtain ⟨l, e1, e2⟩ := h'.barr ht he hc hn
  refine ⟨l, ?_, e2⟩
  have := congrArg Array.toList e1
  simpa [ba] using this
theorem cut_list {L r s : List Value} {o n : Nat} (h : (L.drop o).take n = r) (o2 : Nat) (h2 : o + n = o2) (h3 : L.drop o2 = s) : L.drop o = r ++ s := by
  subst h h2 h3
  rw [← List.drop_drop, List.take_append_drop]
section
variable {w : World} {a : Array Value}
theorem Dec.slot (h : Dec Try.prog w 32 a.toList) : ∃ s : Sl, s.ok ∧ a = sl s := by
  obtain ⟨hl, hf⟩ := h.struct Try.underlying32
  rw [show Try.prog.cellsOf 32 = 40 by kernel_rfl] at hl
  have h0 : Dec Try.prog w 4 ((a.toList.drop 0).take (Try.prog.cellsOf 4)) := hf 0 _ rfl
  rw [show Try.prog.cellsOf 4 = 1 by kernel_rfl] at h0
  have h1 : Dec Try.prog w 23 ((a.toList.drop 1).take (Try.prog.cellsOf 23)) := hf 1 _ rfl
  rw [show Try.prog.cellsOf 23 = 1 by kernel_rfl] at h1
  have h2 : Dec Try.prog w 24 ((a.toList.drop 2).take (Try.prog.cellsOf 24)) := hf 2 _ rfl
  rw [show Try.prog.cellsOf 24 = 1 by kernel_rfl] at h2
  have h3 : Dec Try.prog w 25 ((a.toList.drop 3).take (Try.prog.cellsOf 25)) := hf 3 _ rfl
  rw [show Try.prog.cellsOf 25 = 1 by kernel_rfl] at h3
  have h4 : Dec Try.prog w 26 ((a.toList.drop 4).take (Try.prog.cellsOf 26)) := hf 4 _ rfl
  rw [show Try.prog.cellsOf 26 = 1 by kernel_rfl] at h4
  have h7 : Dec Try.prog w 30 ((a.toList.drop 37).take (Try.prog.cellsOf 30)) := hf 7 _ rfl
  rw [show Try.prog.cellsOf 30 = 1 by kernel_rfl] at h7
  have h8 : Dec Try.prog w 30 ((a.toList.drop 38).take (Try.prog.cellsOf 30)) := hf 8 _ rfl
  rw [show Try.prog.cellsOf 30 = 1 by kernel_rfl] at h8
  have h9 : Dec Try.prog w 26 ((a.toList.drop 39).take (Try.prog.cellsOf 26)) := hf 9 _ rfl
  rw [show Try.prog.cellsOf 26 = 1 by kernel_rfl] at h9
  have h5 : Dec Try.prog w 28 ((a.toList.drop 5).take (Try.prog.cellsOf 28)) := hf 5 _ rfl
  rw [show Try.prog.cellsOf 28 = 16 by kernel_rfl] at h5
  obtain ⟨l5, e5, b5⟩ := h5.arr_of Try.underlying28 Try.underlying5 (by kernel_rfl) (by kernel_rfl)
  have h6 : Dec Try.prog w 29 ((a.toList.drop 21).take (Try.prog.cellsOf 29)) := hf 6 _ rfl
  rw [show Try.prog.cellsOf 29 = 16 by kernel_rfl] at h6
  obtain ⟨l6, e6, b6⟩ := h6.arr_of Try.underlying29 Try.underlying5 (by kernel_rfl) (by kernel_rfl)
  obtain ⟨n0, e0⟩ := h0.bool Try.underlying4
  obtain ⟨n1, e1, b1⟩ := h1.nat16 Try.underlying23
  obtain ⟨n2, e2, b2⟩ := h2.nat16 Try.underlying24
  obtain ⟨n3, e3, b3⟩ := h3.nat16 Try.underlying25
  obtain ⟨n4, e4, b4⟩ := h4.nat32 Try.underlying26
  obtain ⟨n7, e7, b7⟩ := h7.nat64 Try.underlying30
  obtain ⟨n8, e8, b8⟩ := h8.nat64 Try.underlying30
  obtain ⟨n9, e9, b9⟩ := h9.nat32 Try.underlying26
  refine ⟨⟨n0, n1, n2, n3, n4, l5, l6, n7, n8, n9⟩, ⟨b1, b2, b3, b4, b5, b6, b7, b8, b9⟩, ?_⟩
  have hnil : a.toList.drop 40 = [] := List.drop_of_length_le (by omega)
  have := cut_list e0 1 rfl (cut_list e1 2 rfl (cut_list e2 3 rfl (cut_list e3 4 rfl (cut_list e4 5 rfl (cut_list e5 21 rfl (cut_list e6 37 rfl (cut_list e7 38 rfl (cut_list e8 39 rfl (cut_list e9 40 rfl hnil)))))))))
  rw [List.drop_zero] at this
  apply Array.toList_inj.1
  rw [this]
  rfl
theorem Dec.packet (h : Dec Try.prog w 50 a.toList) : ∃ s : Pk, s.ok ∧ a = pk s := by
  obtain ⟨hl, hf⟩ := h.struct Try.underlying50
  rw [show Try.prog.cellsOf 50 = 610 by kernel_rfl] at hl
  have h0 : Dec Try.prog w 25 ((a.toList.drop 0).take (Try.prog.cellsOf 25)) := hf 0 _ rfl
  rw [show Try.prog.cellsOf 25 = 1 by kernel_rfl] at h0
  have h1 : Dec Try.prog w 26 ((a.toList.drop 1).take (Try.prog.cellsOf 26)) := hf 1 _ rfl
  rw [show Try.prog.cellsOf 26 = 1 by kernel_rfl] at h1
  have h2 : Dec Try.prog w 28 ((a.toList.drop 2).take (Try.prog.cellsOf 28)) := hf 2 _ rfl
  rw [show Try.prog.cellsOf 28 = 16 by kernel_rfl] at h2
  obtain ⟨l2, e2, b2⟩ := h2.arr_of Try.underlying28 Try.underlying5 (by kernel_rfl) (by kernel_rfl)
  have h3 : Dec Try.prog w 29 ((a.toList.drop 18).take (Try.prog.cellsOf 29)) := hf 3 _ rfl
  rw [show Try.prog.cellsOf 29 = 16 by kernel_rfl] at h3
  obtain ⟨l3, e3, b3⟩ := h3.arr_of Try.underlying29 Try.underlying5 (by kernel_rfl) (by kernel_rfl)
  have h4 : Dec Try.prog w 47 ((a.toList.drop 34).take (Try.prog.cellsOf 47)) := hf 4 _ rfl
  rw [show Try.prog.cellsOf 47 = 320 by kernel_rfl] at h4
  obtain ⟨l4, e4, b4⟩ := h4.arr_of Try.underlying47 Try.underlying5 (by kernel_rfl) (by kernel_rfl)
  have h5 : Dec Try.prog w 48 ((a.toList.drop 354).take (Try.prog.cellsOf 48)) := hf 5 _ rfl
  rw [show Try.prog.cellsOf 48 = 256 by kernel_rfl] at h5
  obtain ⟨l5, e5, b5⟩ := h5.arr_of Try.underlying48 Try.underlying5 (by kernel_rfl) (by kernel_rfl)
  obtain ⟨n0, e0, b0⟩ := h0.nat16 Try.underlying25
  obtain ⟨n1, e1, b1⟩ := h1.nat32 Try.underlying26
  refine ⟨⟨n0, n1, l2, l3, l4, l5⟩, ⟨b0, b1, b2, b3, b4, b5⟩, ?_⟩
  have hnil : a.toList.drop 610 = [] := List.drop_of_length_le (by omega)
  have := cut_list e0 1 rfl (cut_list e1 2 rfl (cut_list e2 18 rfl (cut_list e3 34 rfl (cut_list e4 354 rfl (cut_list e5 610 rfl hnil)))))
  rw [List.drop_zero] at this
  apply Array.toList_inj.1
  rw [this]
  simp [pk, pkL]
end
end Go.Proofs.Ytgfjpoopghdilaa
