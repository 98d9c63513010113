/- The document's Root. -/
import Derived.Test.YtbhplepbccgecaaDoorRef03R
namespace Go.Proofs.YtbhplepbccgecaaDoor
open Go.RowKit

/-- The bits that are tried. -/
def bitv (j : Nat) : Nat := 68719476736 / 2 ^ j
attribute [local irreducible] bitv rootL
theorem bitv_def (j : Nat) : bitv j = 68719476736 / 2 ^ j := by unfold bitv; rfl
theorem L64_rd {w : World} {g : Nat} {l : List Nat} (B : Blk w g 32 (L64 l).toArray) (D : Nat → Prop) (hD : D g) : Rd w D (some ⟨g, 0, none⟩) (L64 l) :=
  .inr ⟨_, rfl, hD, fun j u hu => by
    have e : (⟨g, 0, none⟩ : Addr).add j = ⟨g, j, none⟩ := by unfold Addr.add; split <;> simp_all
    rw [e, B.cell, List.getElem?_toArray]
    exact hu⟩
theorem digL_len (n : Nat) : (digL n).length = 4 := rfl
theorem overL_t (x p : Nat) : overL x p true = abvL (timesL (timesL (digL x) (digL x)) (digL x)) [0, 0, 0, 0, 0, 0, p] 12 := by
  have e : (powL x true).length = 12 := by show (timesL (timesL (digL x) (digL x)) (digL x)).length = 12; rw [timesL_len, timesL_len]; rfl
  unfold overL
  rw [e]
  rfl
theorem overL_f (x p : Nat) : overL x p false = abvL (timesL (digL x) (digL x)) [0, 0, 0, 0, p] 8 := by
  have e : (powL x false).length = 8 := by show (timesL (digL x) (digL x)).length = 8; rw [timesL_len]; rfl
  unfold overL
  rw [e]
  rfl
attribute [local irreducible] overL abvL timesL digL powL
set_option maxRecDepth 100000 in
set_option maxHeartbeats 600000 in
theorem root_true (w : World) (p : Nat) (hp : p ≤ 1000) :
    Calls Tryd.prog 18 #[.int .u64 (p : Int), .bool true] w fun e w' => e = .returned (.int .u32 ((rootL p true 37 % 4294967296 : Nat) : Int)) ∧ Ext Non w w' := by
  have hlt := rootL_lt p true
  go_enter Tryd.func18, Tryd.ntmps18
  go_wp2_with fail
  have BM : Blk ((w.alloc (.cells #[.int .u64 0, .int .u64 0, .int .u64 0, .int .u64 0, .int .u64 (p : Int)] 32)).alloc (.cells #[.int .u64 0, .int .u64 0, .int .u64 0, .int .u64 0, .int .u64 0, .int .u64 0, .int .u64 (p : Int)] 32)) (w.heap.size + 1) 32 (L64 [0, 0, 0, 0, 0, 0, p]).toArray := by
    have := Blk.new (w.alloc (.cells #[.int .u64 0, .int .u64 0, .int .u64 0, .int .u64 0, .int .u64 (p : Int)] 32)) 32 (L64 [0, 0, 0, 0, 0, 0, p]).toArray
    rw [World.size_alloc] at this
    exact this
  have XM : Ext Non w ((w.alloc (.cells #[.int .u64 0, .int .u64 0, .int .u64 0, .int .u64 0, .int .u64 (p : Int)] 32)).alloc (.cells #[.int .u64 0, .int .u64 0, .int .u64 0, .int .u64 0, .int .u64 0, .int .u64 0, .int .u64 (p : Int)] 32)) := ((Ext.refl _ _).alloc _).alloc _
  generalize (w.alloc (.cells #[.int .u64 0, .int .u64 0, .int .u64 0, .int .u64 0, .int .u64 (p : Int)] 32)).alloc (.cells #[.int .u64 0, .int .u64 0, .int .u64 0, .int .u64 0, .int .u64 0, .int .u64 0, .int .u64 (p : Int)] 32) = wm at *
  generalize hgm : (w.heap.size + 1) = gm at *
  have HL := Lib.hid hlt
  have RM := L64_rd BM (· < wm.heap.size) BM.lt
  clear hlt hgm BM
  go_loopw [6, 7] (fun x b wr => ∃ j : Nat, j ≤ 37 ∧ x = .int .u64 (rootL p true j : Int) ∧ b = .int .u64 (bitv j : Int) ∧ Ext Non wm wr) (fun _ b _ => (intOf b).toNat)
  case atStart => exact ⟨0, by omega, by unfold rootL; rfl, by rw [bitv_def]; rfl, Ext.refl _ _⟩
  case round =>
    obtain ⟨j, hj, rfl, rfl, X⟩ := hrel
    have hl := HL.out j hj
    obtain ⟨x, hx⟩ : ∃ x, rootL p true j = x := ⟨_, rfl⟩
    obtain ⟨bit, hbit⟩ : ∃ b, bitv j = b := ⟨_, rfl⟩
    have hx37 : x ≤ 137438953472 := by have := Nat.two_pow_pos (37 - j); rw [hx] at hl; omega
    rw [hx, hbit]
    by_cases hj37 : j = 37
    · have hb0 : bit = 0 := by rw [← hbit, hj37, bitv_def]
      subst hb0
      have hR : (x % 4294967296 : Nat) = rootL p true 37 % 4294967296 := by rw [← hx, hj37]
      have e1 : IntKind.u32.wrap ((x : Int) % 4294967296) = ((x % 4294967296 : Nat) : Int) := by rw [IntKind.wrap_u32]; omega
      have HR := Lib.hid hR
      clear hR hx
      go_wp2_with fail
      go_ret
      exact ⟨by rw [← HR.out]; go_num, XM.transN X⟩
    · have hb2 : 2 ^ (36 - j) = bit := by
        rw [← hbit, bitv_def, show (68719476736 : Nat) = 2 ^ (36 - j) * 2 ^ j from by rw [← Nat.pow_add, show 36 - j + j = 36 from by omega]]
        exact (Nat.mul_div_cancel _ (Nat.two_pow_pos j)).symm
      have hb3 : bit / 2 = bitv (j + 1) := by rw [← hbit, bitv_def, bitv_def, Nat.div_div_eq_div_mul, Nat.pow_succ]
      have hb1 : 1 ≤ bit := by rw [← hb2]; exact Nat.two_pow_pos _
      have hb4 : bit ≤ 68719476736 := by rw [← hbit, bitv_def]; exact Nat.div_le_self _ _
      have i1 : (0 : Int) < (bit : Int) := by omega
      obtain ⟨y, hy⟩ : ∃ y, x + bit = y := ⟨_, rfl⟩
      have e1 : IntKind.u64.wrap ((x : Int) + (bit : Int)) = (y : Int) := by rw [IntKind.wrap_u64]; omega
      have e2 : IntKind.u64.wrap ((bit : Int) / 2) = ((bit / 2 : Nat) : Int) := by rw [IntKind.wrap_u64]; omega
      have RM1 := RM.extN X
      have hov := overL_t y p
      have hst : rootL p true (j + 1) = if overL y p true then x else y := by
        unfold rootL
        show (if overL (rootL p true j + 2 ^ (36 - j)) p true then rootL p true j else rootL p true j + 2 ^ (36 - j)) = _
        rw [hx, hb2, hy]
      have HS := Lib.hid hst
      have HO := Lib.hid hov
      have HB := Lib.hid hb3
      have HX := Lib.hid hx
      have hj36 : j + 1 ≤ 37 := by omega
      clear hst hov hb3 hx hb2 hbit hj37 hl
      go_wp2_with fail
      have ctr := digits_calls wr y (by omega)
      with_reducible refine Calls.mono ctr ?_
      clear ctr
      rintro e w1 ⟨g1, rfl, hg1, B1, x1⟩
      have R1 := L64_rd B1 (· < w1.heap.size) B1.lt
      have RM2 := RM1.extN x1
      clear B1
      go_wp2_with fail
      have ctr := times_calls w1 (· < w1.heap.size) (· < w1.heap.size) (some ⟨g1, 0, none⟩) (some ⟨g1, 0, none⟩) (digL y) (digL y) 4 4 4 4 (digL_len y) (digL_len y) (by omega) (by omega) R1 R1
      with_reducible refine Calls.mono ctr ?_
      clear ctr
      rintro e w2 ⟨g2, rfl, hg2, B2, x2⟩
      have R2 := L64_rd B2 (· < w2.heap.size) B2.lt
      have R12 := R1.extN x2
      have RM3 := RM2.extN x2
      clear B2 R1 RM1 RM2
      go_wp2_with fail
      have ctr := times_calls w2 (· < w2.heap.size) (· < w1.heap.size) (some ⟨g2, 0, none⟩) (some ⟨g1, 0, none⟩) (timesL (digL y) (digL y)) (digL y) 8 4 8 4 (by rw [timesL_len, digL_len]) (digL_len y) (by omega) (by omega) R2 R12
      with_reducible refine Calls.mono ctr ?_
      clear ctr
      rintro e w3 ⟨g3, rfl, hg3, B3, x3⟩
      have R3 := L64_rd B3 (· < w3.heap.size) B3.lt
      have RM4 := RM3.extN x3
      clear B3 R2 R12 RM3
      go_wp2_with fail
      have ctr := above_calls w3 (· < w3.heap.size) (· < wm.heap.size) (some ⟨g3, 0, none⟩) (some ⟨gm, 0, none⟩) (timesL (timesL (digL y) (digL y)) (digL y)) [0, 0, 0, 0, 0, 0, p] 12 7 12 7 (by rw [timesL_len, timesL_len, digL_len]) rfl (by omega) (by omega) R3 RM4
      with_reducible refine Calls.mono ctr ?_
      clear ctr
      rintro e w4 ⟨rfl, x4⟩
      have X4 : Ext Non wm w4 := (((X.transN x1).transN x2).transN x3).transN x4
      clear R3 RM4 x1 x2 x3 x4 X
      rw [show max 12 7 = 12 from rfl]
      have hov := HO.out
      cases hv : overL y p true
      · have hst := HS.out
        rw [hv] at hov hst
        have HS1 := Lib.hid hst
        have HV := Lib.hid hov.symm
        clear hst hov hv HS HO
        rw [HV.out]
        go_wp2_with fail
        exact ⟨⟨j + 1, hj36, by rw [HS1.out]; simp, by rw [← HB.out]; go_num, X4⟩, by simp [intOf]; omega⟩
      · have hst := HS.out
        rw [hv] at hov hst
        have HS1 := Lib.hid hst
        have HV := Lib.hid hov.symm
        clear hst hov hv HS HO
        rw [HV.out]
        go_wp2_with fail
        exact ⟨⟨j + 1, hj36, by rw [HS1.out]; simp, by rw [← HB.out]; go_num, X4⟩, by simp [intOf]; omega⟩
set_option maxRecDepth 100000 in
set_option maxHeartbeats 600000 in
theorem root_false (w : World) (p : Nat) (hp : p ≤ 1000) :
    Calls Tryd.prog 18 #[.int .u64 (p : Int), .bool false] w fun e w' => e = .returned (.int .u32 ((rootL p false 37 % 4294967296 : Nat) : Int)) ∧ Ext Non w w' := by
  have hlt := rootL_lt p false
  go_enter Tryd.func18, Tryd.ntmps18
  go_wp2_with fail
  have BM : Blk (w.alloc (.cells #[.int .u64 0, .int .u64 0, .int .u64 0, .int .u64 0, .int .u64 (p : Int)] 32)) w.heap.size 32 (L64 [0, 0, 0, 0, p]).toArray := Blk.new w 32 (L64 [0, 0, 0, 0, p]).toArray
  have XM : Ext Non w (w.alloc (.cells #[.int .u64 0, .int .u64 0, .int .u64 0, .int .u64 0, .int .u64 (p : Int)] 32)) := (Ext.refl _ _).alloc _
  generalize w.alloc (.cells #[.int .u64 0, .int .u64 0, .int .u64 0, .int .u64 0, .int .u64 (p : Int)] 32) = wm at *
  generalize hgm : w.heap.size = gm at *
  have HL := Lib.hid hlt
  have RM := L64_rd BM (· < wm.heap.size) BM.lt
  clear hlt hgm BM
  go_loopw [6, 7] (fun x b wr => ∃ j : Nat, j ≤ 37 ∧ x = .int .u64 (rootL p false j : Int) ∧ b = .int .u64 (bitv j : Int) ∧ Ext Non wm wr) (fun _ b _ => (intOf b).toNat)
  case atStart => exact ⟨0, by omega, by unfold rootL; rfl, by rw [bitv_def]; rfl, Ext.refl _ _⟩
  case round =>
    obtain ⟨j, hj, rfl, rfl, X⟩ := hrel
    have hl := HL.out j hj
    obtain ⟨x, hx⟩ : ∃ x, rootL p false j = x := ⟨_, rfl⟩
    obtain ⟨bit, hbit⟩ : ∃ b, bitv j = b := ⟨_, rfl⟩
    have hx37 : x ≤ 137438953472 := by have := Nat.two_pow_pos (37 - j); rw [hx] at hl; omega
    rw [hx, hbit]
    by_cases hj37 : j = 37
    · have hb0 : bit = 0 := by rw [← hbit, hj37, bitv_def]
      subst hb0
      have hR : (x % 4294967296 : Nat) = rootL p false 37 % 4294967296 := by rw [← hx, hj37]
      have e1 : IntKind.u32.wrap ((x : Int) % 4294967296) = ((x % 4294967296 : Nat) : Int) := by rw [IntKind.wrap_u32]; omega
      have HR := Lib.hid hR
      clear hR hx
      go_wp2_with fail
      go_ret
      exact ⟨by rw [← HR.out]; go_num, XM.transN X⟩
    · have hb2 : 2 ^ (36 - j) = bit := by
        rw [← hbit, bitv_def, show (68719476736 : Nat) = 2 ^ (36 - j) * 2 ^ j from by rw [← Nat.pow_add, show 36 - j + j = 36 from by omega]]
        exact (Nat.mul_div_cancel _ (Nat.two_pow_pos j)).symm
      have hb3 : bit / 2 = bitv (j + 1) := by rw [← hbit, bitv_def, bitv_def, Nat.div_div_eq_div_mul, Nat.pow_succ]
      have hb1 : 1 ≤ bit := by rw [← hb2]; exact Nat.two_pow_pos _
      have hb4 : bit ≤ 68719476736 := by rw [← hbit, bitv_def]; exact Nat.div_le_self _ _
      have i1 : (0 : Int) < (bit : Int) := by omega
      obtain ⟨y, hy⟩ : ∃ y, x + bit = y := ⟨_, rfl⟩
      have e1 : IntKind.u64.wrap ((x : Int) + (bit : Int)) = (y : Int) := by rw [IntKind.wrap_u64]; omega
      have e2 : IntKind.u64.wrap ((bit : Int) / 2) = ((bit / 2 : Nat) : Int) := by rw [IntKind.wrap_u64]; omega
      have RM1 := RM.extN X
      have hov := overL_f y p
      have hst : rootL p false (j + 1) = if overL y p false then x else y := by
        unfold rootL
        show (if overL (rootL p false j + 2 ^ (36 - j)) p false then rootL p false j else rootL p false j + 2 ^ (36 - j)) = _
        rw [hx, hb2, hy]
      have HS := Lib.hid hst
      have HO := Lib.hid hov
      have HB := Lib.hid hb3
      have HX := Lib.hid hx
      have hj36 : j + 1 ≤ 37 := by omega
      clear hst hov hb3 hx hb2 hbit hj37 hl
      go_wp2_with fail
      have ctr := digits_calls wr y (by omega)
      with_reducible refine Calls.mono ctr ?_
      clear ctr
      rintro e w1 ⟨g1, rfl, hg1, B1, x1⟩
      have R1 := L64_rd B1 (· < w1.heap.size) B1.lt
      have RM2 := RM1.extN x1
      clear B1
      go_wp2_with fail
      have ctr := times_calls w1 (· < w1.heap.size) (· < w1.heap.size) (some ⟨g1, 0, none⟩) (some ⟨g1, 0, none⟩) (digL y) (digL y) 4 4 4 4 (digL_len y) (digL_len y) (by omega) (by omega) R1 R1
      with_reducible refine Calls.mono ctr ?_
      clear ctr
      rintro e w2 ⟨g2, rfl, hg2, B2, x2⟩
      have R2 := L64_rd B2 (· < w2.heap.size) B2.lt
      have RM3 := RM2.extN x2
      clear B2 R1 RM1 RM2
      go_wp2_with fail
      have ctr := above_calls w2 (· < w2.heap.size) (· < wm.heap.size) (some ⟨g2, 0, none⟩) (some ⟨gm, 0, none⟩) (timesL (digL y) (digL y)) [0, 0, 0, 0, p] 8 5 8 5 (by rw [timesL_len, digL_len]) rfl (by omega) (by omega) R2 RM3
      with_reducible refine Calls.mono ctr ?_
      clear ctr
      rintro e w4 ⟨rfl, x4⟩
      have X4 : Ext Non wm w4 := ((X.transN x1).transN x2).transN x4
      clear R2 RM3 x1 x2 x4 X
      rw [show max 8 5 = 8 from rfl]
      have hov := HO.out
      cases hv : overL y p false
      · have hst := HS.out
        rw [hv] at hov hst
        have HS1 := Lib.hid hst
        have HV := Lib.hid hov.symm
        clear hst hov hv HS HO
        rw [HV.out]
        go_wp2_with fail
        exact ⟨⟨j + 1, hj36, by rw [HS1.out]; simp, by rw [← HB.out]; go_num, X4⟩, by simp [intOf]; omega⟩
      · have hst := HS.out
        rw [hv] at hov hst
        have HS1 := Lib.hid hst
        have HV := Lib.hid hov.symm
        clear hst hov hv HS HO
        rw [HV.out]
        go_wp2_with fail
        exact ⟨⟨j + 1, hj36, by rw [HS1.out]; simp, by rw [← HB.out]; go_num, X4⟩, by simp [intOf]; omega⟩
end Go.Proofs.YtbhplepbccgecaaDoor
