/- Layer 10's statements: what must be in any case. -/
import Derived.Test.YtgfjpoopghdilaaSlotD
namespace Go.Proofs.Ytgfjpoopghdilaa
open Go.RowKit

/-- The block of bytes of the call's own. -/
theorem OwB.at_ {w : World} {base : Nat} {A : Option Addr} {c : Nat} {l : List UInt8} (h : OwB w base A c l) (hl : 0 < l.length) : ∃ g, A = some ⟨g, 0, none⟩ ∧ base ≤ g ∧ ∀ i, i < l.length → w.cell? ⟨g, i, none⟩ = some (.int .u8 ((l.getD i 0).toNat : Int)) := by
  cases A with
  | none =>
    rcases h.rd with h | ⟨a, h, _⟩
    · have := congrArg List.length h
      rw [bvs_length] at this
      exact absurd hl (by rw [this]; decide)
    · cases h
  | some a =>
    obtain ⟨cs, hb, ha, hcs, ht⟩ := h.blk (k := a.block) rfl
    have hg := h.lt (k := a.block) rfl
    generalize a.block = g at *
    refine ⟨g, ha, hg.1, fun i hi => ?_⟩
    rw [hb.cell]
    have hv := bvs_get l i hi
    rw [← ht, List.getElem?_take, if_pos hi] at hv
    rw [show l.getD i 0 = l[i] from by simp [List.getD, hi]]
    simpa using hv
def ex1 : Sl := ⟨true, 0, 5, 0, 0, zeros 16, zeros 16, 1, 2, 3⟩
def ex2 : Sl := ⟨true, 0, 5, 1, 0, zeros 16, zeros 16, 1, 2, 3⟩
def ex3 : Pk := ⟨258, 0, zeros 16, zeros 16, zeros 320, zeros 256⟩
theorem ex1_ok : ex1.ok := ⟨by decide, by decide, by decide, by decide, zeros_length 16, zeros_length 16, by decide, by decide, by decide⟩
theorem ex2_ok : ex2.ok := ⟨by decide, by decide, by decide, by decide, zeros_length 16, zeros_length 16, by decide, by decide, by decide⟩
theorem ex3_ok : ex3.ok := ⟨by decide, by decide, zeros_length 16, zeros_length 16, zeros_length 320, zeros_length 256⟩
theorem ex1_r : right ex1 = true := by decide +kernel
theorem ex1_e : ence ex1 = 0 := by decide +kernel
theorem ex2_e : ence ex2 = 1 := by decide +kernel
theorem ex0_e : ence sl0 = 0 := by decide +kernel
theorem ex1_d : dece ((encb ex1).set 63 1) = 3 := by decide +kernel
theorem ex3_b : (pkb ex3).getD 0 0 = 1 ∧ (pkb ex3).getD 1 0 = 2 := by decide +kernel
theorem ex1_b : (((((sl sl0).setIfInBounds 0 (.bool true)).setIfInBounds 2 (.int .u16 5)).setIfInBounds 37 (.int .u64 1)).setIfInBounds 38 (.int .u64 2)).setIfInBounds 39 (.int .u32 3) = sl ex1 := by
  have e0 := sl_set0 sl0 true
  have e1 := sl_set2 (⟨true, 0, 0, 0, 0, zeros 16, zeros 16, 0, 0, 0⟩ : Sl) 5
  have e2 := sl_set37 (s := ⟨true, 0, 5, 0, 0, zeros 16, zeros 16, 0, 0, 0⟩) ⟨by decide, by decide, by decide, by decide, zeros_length 16, zeros_length 16, by decide, by decide, by decide⟩ 1
  have e3 := sl_set38 (s := ⟨true, 0, 5, 0, 0, zeros 16, zeros 16, 1, 0, 0⟩) ⟨by decide, by decide, by decide, by decide, zeros_length 16, zeros_length 16, by decide, by decide, by decide⟩ 2
  have e4 := sl_set39 (s := ⟨true, 0, 5, 0, 0, zeros 16, zeros 16, 1, 2, 0⟩) ⟨by decide, by decide, by decide, by decide, zeros_length 16, zeros_length 16, by decide, by decide, by decide⟩ 3
  refine (congrArg (fun a : Array Value => (((a.setIfInBounds 2 (.int .u16 5)).setIfInBounds 37 (.int .u64 1)).setIfInBounds 38 (.int .u64 2)).setIfInBounds 39 (.int .u32 3)) e0).trans ?_
  refine (congrArg (fun a : Array Value => ((a.setIfInBounds 37 (.int .u64 1)).setIfInBounds 38 (.int .u64 2)).setIfInBounds 39 (.int .u32 3)) e1).trans ?_
  refine (congrArg (fun a : Array Value => (a.setIfInBounds 38 (.int .u64 2)).setIfInBounds 39 (.int .u32 3)) e2).trans ?_
  exact (congrArg (fun a : Array Value => a.setIfInBounds 39 (.int .u32 3)) e3).trans e4
theorem ex3_s : (pk pk0).setIfInBounds 0 (.int .u16 258) = pk ex3 := pk_set0 (s := pk0) 258
set_option maxRecDepth 100000 in
set_option maxHeartbeats 4000000 in
theorem shown_calls (w : World) : Calls Try.prog 12 #[] w fun e w' => e = .returned (.bool true) ∧ Ext Non w w' := by
  have eb := ex1_b
  have ep := ex3_s
  have ok0 := sl0_ok
  have ok1 := ex1_ok
  have ok2 := ex2_ok
  have n1 := sl_ne ex1
  have n0 := sl_ne sl0
  have n3 := pk_ne pk0
  have n4 := row_ne (zrow_size 64)
  have L1 := encb_len ok1
  have B1 := Blk.new w 32 (sl ex1)
  have ld1 := load_sl ok1 B1
  have X1 : Ext Non w (w.alloc (.cells (sl ex1) 32)) := (Ext.refl Non w).alloc _
  go_enter Try.func12, Try.ntmps12
  go_wp2_with fail
  have ctr := encode_calls (w.alloc (.cells (sl ex1) 32)) ok1
  with_reducible refine Calls.mono ctr ?_
  clear ctr
  rintro e w1 ⟨rfl, x1⟩
  rw [ex1_e]
  have st := store_b64 w1 L1
  have B2 := (B1.extN_ x1).alloc (.cells (ba (encb ex1)) 33)
  have E2 := Blk.new w1 33 (ba (encb ex1))
  have X2 : Ext Non w (w1.alloc (.cells (ba (encb ex1)) 33)) := (X1.transN x1).alloc _
  have ld2 := load_b64 E2 L1
  have n2 := ba64_ne L1
  obtain ⟨d1, d2⟩ := dec_enc ok1 ex1_r
  clear B1 ld1 X1 x1
  go_wp2_with fail
  have ctr := decode_calls (w1.alloc (.cells (ba (encb ex1)) 33)) L1
  with_reducible refine Calls.mono ctr ?_
  clear ctr
  rintro e w3 ⟨rfl, x3⟩
  rw [d1, d2]
  clear st d1 d2 ld2
  have B3 := (B2.extN_ x3).alloc (.cells (sl ex1) 32)
  have E3 := (E2.extN_ x3).alloc (.cells (sl ex1) 32)
  have C3 := Blk.new w3 32 (sl ex1)
  have X3 : Ext Non w (w3.alloc (.cells (sl ex1) 32)) := (X2.transN x3).alloc _
  have c3 := (B3.cell 3).trans (sl_get3 ok1)
  have f3 := B3.frozen 3
  have hw1 : w.heap.size < w1.heap.size := by
    have := B2.ne_ E2 (by decide)
    have := B2.lt
    rw [World.size_alloc] at this
    omega
  have hw3 : w1.heap.size < w3.heap.size := Nat.lt_of_lt_of_le (by rw [World.size_alloc]; exact Nat.lt_succ_self _) x3.size
  have B4 : Blk ((w3.alloc (.cells (sl ex1) 32)).setCell ⟨w.heap.size, 3, none⟩ (.int .u16 1)) w.heap.size 32 (sl ex2) := by
    have := B3.set_ 3 (.int .u16 ((1 : Nat) : Int))
    rw [sl_set3] at this
    exact this
  have E4 := E3.far (p := ⟨w.heap.size, 3, none⟩) (by show w1.heap.size ≠ w.heap.size; omega) (.int .u16 1)
  have C4 := C3.far (p := ⟨w.heap.size, 3, none⟩) (by show w3.heap.size ≠ w.heap.size; omega) (.int .u16 1)
  have X4 := X3.setCell (p := ⟨w.heap.size, 3, none⟩) (.inl (Nat.le_refl _)) (.int .u16 1)
  have ld4 := load_sl ok2 B4
  clear B2 E2 X2 B3 E3 C3 X3 x3
  go_wp2_with fail
  clear c3 f3
  have ctr := encode_calls ((w3.alloc (.cells (sl ex1) 32)).setCell ⟨w.heap.size, 3, none⟩ (.int .u16 1)) ok2
  with_reducible refine Calls.mono ctr ?_
  clear ctr
  rintro e w5 ⟨rfl, x5⟩
  clear ld4 B4
  rw [ex2_e]
  have L2 := encb_len ok2
  have n5 := ba64_ne L2
  have st := store_b64 w5 L2
  have E5 := (E4.extN_ x5).alloc (.cells (ba (encb ex2)) 33)
  have C5 := (C4.extN_ x5).alloc (.cells (ba (encb ex2)) 33)
  have X5 : Ext Non w (w5.alloc (.cells (ba (encb ex2)) 33)) := (X4.transN x5).alloc _
  generalize w1.heap.size = g1 at *
  generalize w3.heap.size = g3 at *
  have hd : ∃ z : UInt8, (encb ex1).getD 63 0 = z := ⟨_, rfl⟩
  obtain ⟨z, hz⟩ := hd
  have c5 : (w5.alloc (.cells (ba (encb ex2)) 33)).cell? ⟨g1, 63, none⟩ = some (.int .u8 (z.toNat : Int)) := by rw [E5.cell, ba_get _ _ (by rw [L1]; decide), hz]
  have f5 := E5.frozen 63
  have E6 : Blk ((w5.alloc (.cells (ba (encb ex2)) 33)).setCell ⟨g1, 63, none⟩ (.int .u8 1)) g1 33 (ba ((encb ex1).set 63 1)) := by
    have := E5.set_ 63 (.int .u8 (((1 : UInt8).toNat : Nat) : Int))
    rw [ba_set] at this
    exact this
  have L3 : ((encb ex1).set 63 1).length = 64 := by rw [List.length_set]; exact L1
  have n6 := ba64_ne L3
  have ld6 := load_b64 E6 L3
  have C6 := C5.far (p := ⟨g1, 63, none⟩) (by show g3 ≠ g1; omega) (.int .u8 1)
  have X6 := X5.setCell (p := ⟨g1, 63, none⟩) (.inl (by show w.heap.size ≤ g1; omega)) (.int .u8 1)
  clear E4 C4 X4 x5 E5 C5 X5 hz
  go_wp2_with fail
  clear st c5 f5
  have ctr := decode_calls ((w5.alloc (.cells (ba (encb ex2)) 33)).setCell ⟨g1, 63, none⟩ (.int .u8 1)) L3
  with_reducible refine Calls.mono ctr ?_
  clear ctr
  rintro e w7 ⟨rfl, x7⟩
  rw [ex1_d]
  have okd := decs_ok L3
  have n7 := sl_ne (decs ((encb ex1).set 63 1))
  have C7 := (C6.extN_ x7).alloc (.cells (sl (decs ((encb ex1).set 63 1))) 32)
  have X7 : Ext Non w (w7.alloc (.cells (sl (decs ((encb ex1).set 63 1))) 32)) := (X6.transN x7).alloc _
  clear ld6 E6 C6 X6 x7
  go_wp2_with fail
  generalize decs ((encb ex1).set 63 1) = sd at *
  generalize w7.alloc (.cells (sl sd) 32) = v7 at *
  have ctr := pack_calls v7 ex3_ok
  with_reducible refine Calls.mono ctr ?_
  clear ctr
  rintro e w8 ⟨A, c, rfl, O, x8⟩
  have C8 := C7.extN_ x8
  have X8 := X7.transN x8
  clear C7 X7 x8
  have hc614 := O.len.1
  rw [pkb_len ex3_ok] at hc614
  have hc1 : (1 : Int) ≤ (c : Int) := by omega
  go_wp2_with fail
  have ctr := unpack_short w8 A 1 c (by decide)
  with_reducible refine Calls.mono ctr ?_
  clear ctr
  rintro e w9 ⟨rfl, x9⟩
  have st := store_pk w9 pk0_ok
  have C9 := (C8.extN_ x9).alloc (.cells (pk pk0) 50)
  have O9 := (O.extN x9).alloc (.cells (pk pk0) 50)
  have X9 : Ext Non w (w9.alloc (.cells (pk pk0) 50)) := (X8.transN x9).alloc _
  have c2 := (C9.cell 2).trans (sl_get2 ok1)
  have c0 := (C9.cell 0).trans (sl_get0 ok1)
  have c39 := (C9.cell 39).trans (sl_get39 ok1)
  have LP := pkb_len ex3_ok
  obtain ⟨gp, rfl, _, hcp⟩ := O9.at_ (by omega)
  have p0 := hcp 0 (by omega)
  have p1 := hcp 1 (by omega)
  rw [ex3_b.1] at p0
  rw [ex3_b.2] at p1
  clear C8 O X8 x9 C9 O9 LP hcp
  go_wp2_with fail
  have ctr := right_calls (w9.alloc (.cells (pk pk0) 50)) ok0
  with_reducible refine Calls.mono ctr ?_
  clear ctr
  rintro e w10 ⟨rfl, x10⟩
  rw [ex0_e]
  have X10 := X9.transN x10
  clear c0 c2 c39 p0 p1 st
  go_wp2_with fail
  go_ret
  exact ⟨rfl, X10⟩
end Go.Proofs.Ytgfjpoopghdilaa
