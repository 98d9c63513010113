/- Contracts of package slot: slots of bytes. -/
import Derived.Test.YtgfjpoopghdilaaSlotB
namespace Go.Proofs.Ytgfjpoopghdilaa
open Go.RowKit

section
variable {w : World} {p : Nat} {D : Nat → Prop} {l : List UInt8} {a : Nat}
theorem u64_at (hr : Rdr w p D (l.drop a)) (hp : ¬ D p) (n : Nat) (hn : num ((l.drop a).take 8) = n) (b : Nat) (hb : a + 8 = b) (hl : b ≤ l.length) :
    Calls Try.prog 25 #[.pointer (some ⟨p, 0, none⟩)] w fun e w' => e = .returned (.tuple #[.int .u64 n, .int .i64 0]) ∧ Rdr w' p D (l.drop b) ∧ Ext (One p) w w' := by
  subst hn hb
  have := u64_calls hr hp (by rw [List.length_drop]; omega)
  rw [List.drop_drop] at this
  exact this
theorem u32_at (hr : Rdr w p D (l.drop a)) (hp : ¬ D p) (n : Nat) (hn : num ((l.drop a).take 4) = n) (b : Nat) (hb : a + 4 = b) (hl : b ≤ l.length) :
    Calls Try.prog 26 #[.pointer (some ⟨p, 0, none⟩)] w fun e w' => e = .returned (.tuple #[.int .u32 n, .int .i64 0]) ∧ Rdr w' p D (l.drop b) ∧ Ext (One p) w w' := by
  subst hn hb
  have := u32_calls hr hp (by rw [List.length_drop]; omega)
  rw [List.drop_drop] at this
  exact this
theorem u16_at (hr : Rdr w p D (l.drop a)) (hp : ¬ D p) (n : Nat) (hn : num ((l.drop a).take 2) = n) (b : Nat) (hb : a + 2 = b) (hl : b ≤ l.length) :
    Calls Try.prog 24 #[.pointer (some ⟨p, 0, none⟩)] w fun e w' => e = .returned (.tuple #[.int .u16 n, .int .i64 0]) ∧ Rdr w' p D (l.drop b) ∧ Ext (One p) w w' := by
  subst hn hb
  have := u16_calls hr hp (by rw [List.length_drop]; omega)
  rw [List.drop_drop] at this
  exact this
theorem u8_at (hr : Rdr w p D (l.drop a)) (hp : ¬ D p) (n : Nat) (hn : num ((l.drop a).take 1) = n) (b : Nat) (hb : a + 1 = b) (hl : b ≤ l.length) :
    Calls Try.prog 23 #[.pointer (some ⟨p, 0, none⟩)] w fun e w' => e = .returned (.tuple #[.int .u8 n, .int .i64 0]) ∧ Rdr w' p D (l.drop b) ∧ Ext (One p) w w' := by
  subst hn hb
  have := u8_calls hr hp (by rw [List.length_drop]; omega)
  rw [List.drop_drop] at this
  exact this
theorem fill_at (hr : Rdr w p D (l.drop a)) (hp : ¬ D p) {g : Nat} {t : TypeId} {pre post : List Value} {dst : List UInt8} (hb : Blk w g t (pre ++ (bvs dst ++ post)).toArray) (hg : g ≠ p) (hD : ¬ D g) (o L : Nat) (ho : pre.length = o) (hL : dst.length = L) (m : List UInt8) (hm : (l.drop a).take L = m) (b : Nat) (hab : a + L = b) (hl : b ≤ l.length) :
    Calls Try.prog 40 #[.pointer (some ⟨p, 0, none⟩), .slice (some ⟨g, o, none⟩) L L] w fun e w' => (∃ v, e = .returned v) ∧ Rdr w' p D (l.drop b) ∧ Blk w' g t (pre ++ (bvs m ++ post)).toArray ∧ Ext (Two p g) w w' := by
  subst hm hab
  have := fill_calls hr hp hb hg hD o L ho hL (by rw [List.length_drop]; omega)
  rw [List.drop_drop] at this
  exact this
end
set_option maxRecDepth 100000 in
set_option maxHeartbeats 4000000 in
theorem slread_calls {w : World} {D0 : Nat → Prop} {A : Option Addr} {l : List UInt8} (c : Nat) (hr : Rd w D0 A (bvs l)) (hl : l.length = 64) :
    Calls Try.prog 33 #[.slice A 64 c] w fun e w' => e = .returned (.agg (sl (rdsl l))) ∧ Ext Non w w' := by
  have ne := sl_ne sl0
  have X0 : Ext Non w (w.alloc (.cells (sl sl0) 32)) := (Ext.refl Non w).alloc _
  have B0 := Blk.new w 32 (sl sl0)
  have hs0 : (w.alloc (.cells (sl sl0) 32)).heap.size = w.heap.size + 1 := World.size_alloc _ _
  obtain ⟨g, hg⟩ : ∃ g, w.heap.size = g := ⟨_, rfl⟩
  have hrd : rdsl l = rdsl l := rfl
  have okz := rdsl_ok hl
  obtain ⟨kd, hkd⟩ : ∃ n, num ((l.drop 0).take 1) = n := ⟨_, rfl⟩
  have bkd := num_lt' (l := l) (a := 0) (k := 1) (by omega)
  rw [hkd] at bkd
  obtain ⟨tw, htw⟩ : ∃ n, num ((l.drop 1).take 2) = n := ⟨_, rfl⟩
  have btw := num_lt' (l := l) (a := 1) (k := 2) (by omega)
  rw [htw] at btw
  obtain ⟨lo, hlo⟩ : ∃ n, num ((l.drop 3).take 8) = n := ⟨_, rfl⟩
  have blo := num_lt' (l := l) (a := 3) (k := 8) (by omega)
  rw [hlo] at blo
  obtain ⟨hi, hhi⟩ : ∃ n, num ((l.drop 11).take 8) = n := ⟨_, rfl⟩
  have bhi := num_lt' (l := l) (a := 11) (k := 8) (by omega)
  rw [hhi] at bhi
  obtain ⟨dl, hdl⟩ : ∃ n, num ((l.drop 19).take 4) = n := ⟨_, rfl⟩
  have bdl := num_lt' (l := l) (a := 19) (k := 4) (by omega)
  rw [hdl] at bdl
  obtain ⟨wh, hwh⟩ : ∃ n, num ((l.drop 23).take 2) = n := ⟨_, rfl⟩
  have bwh := num_lt' (l := l) (a := 23) (k := 2) (by omega)
  rw [hwh] at bwh
  obtain ⟨ep, hep⟩ : ∃ n, num ((l.drop 25).take 4) = n := ⟨_, rfl⟩
  have bep := num_lt' (l := l) (a := 25) (k := 4) (by omega)
  rw [hep] at bep
  obtain ⟨no, hno⟩ : ∃ n, (l.drop 29).take 16 = n := ⟨_, rfl⟩
  have lno : no.length = 16 := by rw [← hno]; simp; omega
  obtain ⟨mc, hmc⟩ : ∃ n, (l.drop 45).take 16 = n := ⟨_, rfl⟩
  have lmc : mc.length = 16 := by rw [← hmc]; simp; omega
  have hz : rdsl l = ⟨kd == 1, if kd == 1 then 0 else tw, if kd == 1 then tw else 0, wh, ep, no, mc, lo, hi, dl⟩ := by
    unfold rdsl
    rw [htw, hlo, hhi, hdl, hwh, hep, hno, hmc, show num (l.take 1) = kd from hkd]
  have HZ := Lib.hid hz
  clear hz hrd okz
  go_enter Try.func33, Try.ntmps33
  go_wp2_with fail
  have ctr := read_calls c 64 (hr.extN X0) hl (by rw [hl]; decide)
  with_reducible refine Calls.mono ctr ?_
  clear ctr
  rintro e w1 ⟨p, rfl, R1, hp, x1⟩
  have B1 := B0.extN_ x1
  have X1 := X0.transN x1
  rw [hs0] at hp R1
  rw [hg] at B1 R1 hp
  have hgp : ¬ One p g := fun h => by have h : g = p := h; omega
  have hpD : ¬ (g + 1 ≤ p ∧ p < p) := fun h => by omega
  have hDg : ∀ k, (g + 1 ≤ k ∧ k < p) → ¬ One g k := fun k hk h => by have h : k = g := h; omega
  have hxp : ∀ i, i < w.heap.size → One p i → Non i := fun i hi h => by have h : i = p := h; omega
  have hgw : w.heap.size ≤ g := Nat.le_of_eq hg
  have R1' : Rdr w1 p (fun k => g + 1 ≤ k ∧ k < p) (l.drop 0) := R1
  clear B0 X0 R1 x1 hs0
  go_wp2_with fail
  have ctr := u8_at R1' hpD kd hkd 1 rfl (by omega)
  with_reducible refine Calls.mono ctr ?_
  clear ctr
  rintro e w2 ⟨rfl, R2, x2⟩
  have B2 := B1.ext x2 hgp
  have X2 := X1.trans x2 hxp
  clear R1' B1 X1 x2
  go_wp2_with fail
  have ctr := u16_at R2 hpD tw htw 3 rfl (by omega)
  with_reducible refine Calls.mono ctr ?_
  clear ctr
  rintro e w3 ⟨rfl, R3, x3⟩
  have B3 := B2.ext x3 hgp
  have X3 := X2.trans x3 hxp
  have c3 := (B3.cell 0).trans (sl_get0 sl0_ok)
  have f3 := B3.frozen 0
  have s5 := fun W => run_arr_all (P := Try.prog) W Try.underlying28 s8 g 5 (by decide)
  have s21 := fun W => run_arr_all (P := Try.prog) W Try.underlying29 s8 g 21 (by decide)
  have hxt : ∀ i, i < w.heap.size → Two p g i → Non i := fun i hi h => by
    rcases h with h | h
    · omega
    · omega
  have hgp' : g ≠ p := hgp
  have hDg' : ¬ (g + 1 ≤ g ∧ g < p) := fun h => by omega
  clear R2 B2 X2 x3
  by_cases hk1 : kd = 1
  · subst hk1
    have okq : ∀ (wh ep : Nat) (no mc : List UInt8) (lo hi dl : Nat), wh < 65536 → ep < 4294967296 → no.length = 16 → mc.length = 16 → lo < 18446744073709551616 → hi < 18446744073709551616 → dl < 4294967296 → (⟨true, 0, tw, wh, ep, no, mc, lo, hi, dl⟩ : Sl).ok :=
      fun wh ep no mc lo hi dl h1 h2 h3 h4 h5 h6 h7 => ⟨by first | exact btw | exact Nat.succ_pos _, by first | exact btw | exact Nat.succ_pos _, h1, h2, h3, h4, h5, h6, h7⟩
    have z16 := zeros_length 16
    have C3 : Blk (w3.setCell ⟨g, 0, none⟩ (.bool true)) g 32 (sl ⟨true, 0, 0, 0, 0, zeros 16, zeros 16, 0, 0, 0⟩) := by
      have := B3.set_ 0 (.bool true)
      rw [sl_set0] at this
      exact this
    have ok3 : (⟨true, 0, 0, 0, 0, zeros 16, zeros 16, 0, 0, 0⟩ : Sl).ok := ⟨by decide, by decide, by decide, by decide, z16, z16, by decide, by decide, by decide⟩
    have c0 := (C3.cell 0).trans (sl_get0 ok3)
    have c2 := (C3.cell 2).trans (sl_get2 ok3)
    have f2 := C3.frozen 2
    have D3 : Blk ((w3.setCell ⟨g, 0, none⟩ (.bool true)).setCell ⟨g, 2, none⟩ (.int .u16 tw)) g 32 (sl ⟨true, 0, tw, 0, 0, zeros 16, zeros 16, 0, 0, 0⟩) := by
      have := C3.set_ 2 (.int .u16 tw)
      rw [sl_set2] at this
      exact this
    have Q3 := (R3.ext (Ext.setN (g := g) (Ext.refl Non w3) 0 (.bool true)) (fun h => hgp h.symm) hDg).ext (Ext.setN (g := g) (Ext.refl Non _) 2 (.int .u16 tw)) (fun h => hgp h.symm) hDg
    have Y3 := (X3.setCell (p := ⟨g, 0, none⟩) (.inl hgw) (.bool true)).setCell (p := ⟨g, 2, none⟩) (.inl hgw) (.int .u16 tw)
    clear R3 B3 X3 C3
    go_wp2_with fail
    clear c3 f3 c0 c2 f2
    have ctr := u64_at Q3 hpD lo hlo 11 rfl (by omega)
    with_reducible refine Calls.mono ctr ?_
    clear ctr
    rintro e w4 ⟨rfl, R4, x4⟩
    have B4 := D3.ext x4 hgp
    have c4 := (B4.cell 37).trans (sl_get37 (okq 0 0 _ _ 0 0 0 (by decide) (by decide) z16 z16 (by decide) (by decide) (by decide)))
    have f4 := B4.frozen 37
    have C4 := B4.set_ 37 (.int .u64 lo)
    rw [sl_set37 (okq 0 0 _ _ 0 0 0 (by decide) (by decide) z16 z16 (by decide) (by decide) (by decide))] at C4
    have Q4 := R4.ext (Ext.setN (g := g) (Ext.refl Non w4) 37 (.int .u64 lo)) (fun h => hgp h.symm) hDg
    have X4 := (Y3.trans x4 hxp).setCell (p := ⟨g, 37, none⟩) (.inl hgw) (.int .u64 lo)
    clear Q3 D3 Y3 B4 R4 x4
    go_wp2_with fail
    clear c4 f4
    have ctr := u64_at Q4 hpD hi hhi 19 rfl (by omega)
    with_reducible refine Calls.mono ctr ?_
    clear ctr
    rintro e w5 ⟨rfl, R5, x5⟩
    have B5 := C4.ext x5 hgp
    have c5 := (B5.cell 38).trans (sl_get38 (okq 0 0 _ _ lo 0 0 (by decide) (by decide) z16 z16 blo (by decide) (by decide)))
    have f5 := B5.frozen 38
    have C5 := B5.set_ 38 (.int .u64 hi)
    rw [sl_set38 (okq 0 0 _ _ lo 0 0 (by decide) (by decide) z16 z16 blo (by decide) (by decide))] at C5
    have Q5 := R5.ext (Ext.setN (g := g) (Ext.refl Non w5) 38 (.int .u64 hi)) (fun h => hgp h.symm) hDg
    have X5 := (X4.trans x5 hxp).setCell (p := ⟨g, 38, none⟩) (.inl hgw) (.int .u64 hi)
    clear Q4 C4 X4 B5 R5 x5
    go_wp2_with fail
    clear c5 f5
    have ctr := u32_at Q5 hpD dl hdl 23 rfl (by omega)
    with_reducible refine Calls.mono ctr ?_
    clear ctr
    rintro e w6 ⟨rfl, R6, x6⟩
    have B6 := C5.ext x6 hgp
    have c6 := (B6.cell 39).trans (sl_get39 (okq 0 0 _ _ lo hi 0 (by decide) (by decide) z16 z16 blo bhi (by decide)))
    have f6 := B6.frozen 39
    have C6 := B6.set_ 39 (.int .u32 dl)
    rw [sl_set39 (okq 0 0 _ _ lo hi 0 (by decide) (by decide) z16 z16 blo bhi (by decide))] at C6
    have Q6 := R6.ext (Ext.setN (g := g) (Ext.refl Non w6) 39 (.int .u32 dl)) (fun h => hgp h.symm) hDg
    have X6 := (X5.trans x6 hxp).setCell (p := ⟨g, 39, none⟩) (.inl hgw) (.int .u32 dl)
    clear Q5 C5 X5 B6 R6 x6
    go_wp2_with fail
    clear c6 f6
    have ctr := u16_at Q6 hpD wh hwh 25 rfl (by omega)
    with_reducible refine Calls.mono ctr ?_
    clear ctr
    rintro e w7 ⟨rfl, R7, x7⟩
    have B7 := C6.ext x7 hgp
    have c7 := (B7.cell 3).trans (sl_get3 (okq 0 0 _ _ lo hi dl (by decide) (by decide) z16 z16 blo bhi bdl))
    have f7 := B7.frozen 3
    have C7 := B7.set_ 3 (.int .u16 wh)
    rw [sl_set3] at C7
    have Q7 := R7.ext (Ext.setN (g := g) (Ext.refl Non w7) 3 (.int .u16 wh)) (fun h => hgp h.symm) hDg
    have X7 := (X6.trans x7 hxp).setCell (p := ⟨g, 3, none⟩) (.inl hgw) (.int .u16 wh)
    clear Q6 C6 X6 B7 R7 x7
    go_wp2_with fail
    clear c7 f7
    have ctr := u32_at Q7 hpD ep hep 29 rfl (by omega)
    with_reducible refine Calls.mono ctr ?_
    clear ctr
    rintro e w8 ⟨rfl, R8, x8⟩
    have B8 := C7.ext x8 hgp
    have c8 := (B8.cell 4).trans (sl_get4 (okq wh 0 _ _ lo hi dl bwh (by decide) z16 z16 blo bhi bdl))
    have f8 := B8.frozen 4
    have C8 := B8.set_ 4 (.int .u32 ep)
    rw [sl_set4] at C8
    have Q8 := R8.ext (Ext.setN (g := g) (Ext.refl Non w8) 4 (.int .u32 ep)) (fun h => hgp h.symm) hDg
    have X8 := (X7.trans x8 hxp).setCell (p := ⟨g, 4, none⟩) (.inl hgw) (.int .u32 ep)
    clear Q7 C7 X7 B8 R8 x8
    go_wp2_with fail
    clear c8 f8
    have F8 : Blk _ g 32 (([.bool true, .int .u16 (0 : Nat), .int .u16 (tw : Nat), .int .u16 wh, .int .u32 ep] : List Value) ++ (bvs (zeros 16) ++ (bvs (zeros 16) ++ ([.int .u64 lo, .int .u64 hi, .int .u32 dl] : List Value)))).toArray := C8
    have ctr := fill_at Q8 hpD F8 hgp' hDg' 5 16 rfl z16 no hno 45 rfl (by omega)
    with_reducible refine Calls.mono ctr ?_
    clear ctr
    rintro e w9 ⟨⟨u9, rfl⟩, R9, B9, x9⟩
    have X9 := X8.trans x9 hxt
    have F9 : Blk w9 g 32 ((([.bool true, .int .u16 (0 : Nat), .int .u16 (tw : Nat), .int .u16 wh, .int .u32 ep] : List Value) ++ bvs no) ++ (bvs (zeros 16) ++ ([.int .u64 lo, .int .u64 hi, .int .u32 dl] : List Value))).toArray := by
      rw [List.append_assoc]
      exact B9
    clear Q8 F8 X8 x9 B9 C8
    go_wp2_with fail
    have ctr := fill_at R9 hpD F9 hgp' hDg' 21 16 (by simp [bvs_length, lno]) z16 mc hmc 61 rfl (by omega)
    with_reducible refine Calls.mono ctr ?_
    clear ctr
    rintro e w10 ⟨⟨u10, rfl⟩, R10, B10, x10⟩
    have X10 := X9.trans x10 hxt
    have okf := okq wh ep no mc lo hi dl bwh bep lno lmc blo bhi bdl
    have F10 : Blk w10 g 32 (sl ⟨true, 0, tw, wh, ep, no, mc, lo, hi, dl⟩) := by
      rw [List.append_assoc] at B10
      exact B10
    have ld := load_sl okf F10
    have st := F10.big_store (P := Try.prog) (ty := 32) (cs' := sl ⟨true, 0, tw, wh, ep, no, mc, lo, hi, dl⟩) rfl (sl_inf okf) (sl_all _)
    have B11 := F10.setRow (sl ⟨true, 0, tw, wh, ep, no, mc, lo, hi, dl⟩)
    have X11 := X10.setRow (.inl hgw) (g := g) (sl ⟨true, 0, tw, wh, ep, no, mc, lo, hi, dl⟩)
    clear R9 F9 X9 x10 B10 R10 X10 F10
    go_wp2_with fail
    exact bodyPost_ret (B11.results Try.results33 _ rfl Try.underlying32 rfl (sl_inf okf)) rfl ⟨by rw [HZ.out]; rfl, X11⟩
  · have i1 : ¬ ((kd : Int) = 1) := by omega
    have hkf : (kd == 1) = false := beq_eq_false_iff_ne.2 hk1
    rw [hkf] at HZ
    clear hkf hk1
    have okq : ∀ (wh ep : Nat) (no mc : List UInt8) (lo hi dl : Nat), wh < 65536 → ep < 4294967296 → no.length = 16 → mc.length = 16 → lo < 18446744073709551616 → hi < 18446744073709551616 → dl < 4294967296 → (⟨false, tw, 0, wh, ep, no, mc, lo, hi, dl⟩ : Sl).ok :=
      fun wh ep no mc lo hi dl h1 h2 h3 h4 h5 h6 h7 => ⟨by first | exact btw | exact Nat.succ_pos _, by first | exact btw | exact Nat.succ_pos _, h1, h2, h3, h4, h5, h6, h7⟩
    have z16 := zeros_length 16
    have C3 : Blk (w3.setCell ⟨g, 0, none⟩ (.bool false)) g 32 (sl ⟨false, 0, 0, 0, 0, zeros 16, zeros 16, 0, 0, 0⟩) := by
      have := B3.set_ 0 (.bool false)
      rw [sl_set0] at this
      exact this
    have ok3 : (⟨false, 0, 0, 0, 0, zeros 16, zeros 16, 0, 0, 0⟩ : Sl).ok := ⟨by decide, by decide, by decide, by decide, z16, z16, by decide, by decide, by decide⟩
    have c0 := (C3.cell 0).trans (sl_get0 ok3)
    have c2 := (C3.cell 1).trans (sl_get1 ok3)
    have f2 := C3.frozen 1
    have D3 : Blk ((w3.setCell ⟨g, 0, none⟩ (.bool false)).setCell ⟨g, 1, none⟩ (.int .u16 tw)) g 32 (sl ⟨false, tw, 0, 0, 0, zeros 16, zeros 16, 0, 0, 0⟩) := by
      have := C3.set_ 1 (.int .u16 tw)
      rw [sl_set1] at this
      exact this
    have Q3 := (R3.ext (Ext.setN (g := g) (Ext.refl Non w3) 0 (.bool false)) (fun h => hgp h.symm) hDg).ext (Ext.setN (g := g) (Ext.refl Non _) 1 (.int .u16 tw)) (fun h => hgp h.symm) hDg
    have Y3 := (X3.setCell (p := ⟨g, 0, none⟩) (.inl hgw) (.bool false)).setCell (p := ⟨g, 1, none⟩) (.inl hgw) (.int .u16 tw)
    clear R3 B3 X3 C3
    go_wp2_with fail
    clear c3 f3 c0 c2 f2
    have ctr := u64_at Q3 hpD lo hlo 11 rfl (by omega)
    with_reducible refine Calls.mono ctr ?_
    clear ctr
    rintro e w4 ⟨rfl, R4, x4⟩
    have B4 := D3.ext x4 hgp
    have c4 := (B4.cell 37).trans (sl_get37 (okq 0 0 _ _ 0 0 0 (by decide) (by decide) z16 z16 (by decide) (by decide) (by decide)))
    have f4 := B4.frozen 37
    have C4 := B4.set_ 37 (.int .u64 lo)
    rw [sl_set37 (okq 0 0 _ _ 0 0 0 (by decide) (by decide) z16 z16 (by decide) (by decide) (by decide))] at C4
    have Q4 := R4.ext (Ext.setN (g := g) (Ext.refl Non w4) 37 (.int .u64 lo)) (fun h => hgp h.symm) hDg
    have X4 := (Y3.trans x4 hxp).setCell (p := ⟨g, 37, none⟩) (.inl hgw) (.int .u64 lo)
    clear Q3 D3 Y3 B4 R4 x4
    go_wp2_with fail
    clear c4 f4
    have ctr := u64_at Q4 hpD hi hhi 19 rfl (by omega)
    with_reducible refine Calls.mono ctr ?_
    clear ctr
    rintro e w5 ⟨rfl, R5, x5⟩
    have B5 := C4.ext x5 hgp
    have c5 := (B5.cell 38).trans (sl_get38 (okq 0 0 _ _ lo 0 0 (by decide) (by decide) z16 z16 blo (by decide) (by decide)))
    have f5 := B5.frozen 38
    have C5 := B5.set_ 38 (.int .u64 hi)
    rw [sl_set38 (okq 0 0 _ _ lo 0 0 (by decide) (by decide) z16 z16 blo (by decide) (by decide))] at C5
    have Q5 := R5.ext (Ext.setN (g := g) (Ext.refl Non w5) 38 (.int .u64 hi)) (fun h => hgp h.symm) hDg
    have X5 := (X4.trans x5 hxp).setCell (p := ⟨g, 38, none⟩) (.inl hgw) (.int .u64 hi)
    clear Q4 C4 X4 B5 R5 x5
    go_wp2_with fail
    clear c5 f5
    have ctr := u32_at Q5 hpD dl hdl 23 rfl (by omega)
    with_reducible refine Calls.mono ctr ?_
    clear ctr
    rintro e w6 ⟨rfl, R6, x6⟩
    have B6 := C5.ext x6 hgp
    have c6 := (B6.cell 39).trans (sl_get39 (okq 0 0 _ _ lo hi 0 (by decide) (by decide) z16 z16 blo bhi (by decide)))
    have f6 := B6.frozen 39
    have C6 := B6.set_ 39 (.int .u32 dl)
    rw [sl_set39 (okq 0 0 _ _ lo hi 0 (by decide) (by decide) z16 z16 blo bhi (by decide))] at C6
    have Q6 := R6.ext (Ext.setN (g := g) (Ext.refl Non w6) 39 (.int .u32 dl)) (fun h => hgp h.symm) hDg
    have X6 := (X5.trans x6 hxp).setCell (p := ⟨g, 39, none⟩) (.inl hgw) (.int .u32 dl)
    clear Q5 C5 X5 B6 R6 x6
    go_wp2_with fail
    clear c6 f6
    have ctr := u16_at Q6 hpD wh hwh 25 rfl (by omega)
    with_reducible refine Calls.mono ctr ?_
    clear ctr
    rintro e w7 ⟨rfl, R7, x7⟩
    have B7 := C6.ext x7 hgp
    have c7 := (B7.cell 3).trans (sl_get3 (okq 0 0 _ _ lo hi dl (by decide) (by decide) z16 z16 blo bhi bdl))
    have f7 := B7.frozen 3
    have C7 := B7.set_ 3 (.int .u16 wh)
    rw [sl_set3] at C7
    have Q7 := R7.ext (Ext.setN (g := g) (Ext.refl Non w7) 3 (.int .u16 wh)) (fun h => hgp h.symm) hDg
    have X7 := (X6.trans x7 hxp).setCell (p := ⟨g, 3, none⟩) (.inl hgw) (.int .u16 wh)
    clear Q6 C6 X6 B7 R7 x7
    go_wp2_with fail
    clear c7 f7
    have ctr := u32_at Q7 hpD ep hep 29 rfl (by omega)
    with_reducible refine Calls.mono ctr ?_
    clear ctr
    rintro e w8 ⟨rfl, R8, x8⟩
    have B8 := C7.ext x8 hgp
    have c8 := (B8.cell 4).trans (sl_get4 (okq wh 0 _ _ lo hi dl bwh (by decide) z16 z16 blo bhi bdl))
    have f8 := B8.frozen 4
    have C8 := B8.set_ 4 (.int .u32 ep)
    rw [sl_set4] at C8
    have Q8 := R8.ext (Ext.setN (g := g) (Ext.refl Non w8) 4 (.int .u32 ep)) (fun h => hgp h.symm) hDg
    have X8 := (X7.trans x8 hxp).setCell (p := ⟨g, 4, none⟩) (.inl hgw) (.int .u32 ep)
    clear Q7 C7 X7 B8 R8 x8
    go_wp2_with fail
    clear c8 f8
    have F8 : Blk _ g 32 (([.bool false, .int .u16 (tw : Nat), .int .u16 (0 : Nat), .int .u16 wh, .int .u32 ep] : List Value) ++ (bvs (zeros 16) ++ (bvs (zeros 16) ++ ([.int .u64 lo, .int .u64 hi, .int .u32 dl] : List Value)))).toArray := C8
    have ctr := fill_at Q8 hpD F8 hgp' hDg' 5 16 rfl z16 no hno 45 rfl (by omega)
    with_reducible refine Calls.mono ctr ?_
    clear ctr
    rintro e w9 ⟨⟨u9, rfl⟩, R9, B9, x9⟩
    have X9 := X8.trans x9 hxt
    have F9 : Blk w9 g 32 ((([.bool false, .int .u16 (tw : Nat), .int .u16 (0 : Nat), .int .u16 wh, .int .u32 ep] : List Value) ++ bvs no) ++ (bvs (zeros 16) ++ ([.int .u64 lo, .int .u64 hi, .int .u32 dl] : List Value))).toArray := by
      rw [List.append_assoc]
      exact B9
    clear Q8 F8 X8 x9 B9 C8
    go_wp2_with fail
    have ctr := fill_at R9 hpD F9 hgp' hDg' 21 16 (by simp [bvs_length, lno]) z16 mc hmc 61 rfl (by omega)
    with_reducible refine Calls.mono ctr ?_
    clear ctr
    rintro e w10 ⟨⟨u10, rfl⟩, R10, B10, x10⟩
    have X10 := X9.trans x10 hxt
    have okf := okq wh ep no mc lo hi dl bwh bep lno lmc blo bhi bdl
    have F10 : Blk w10 g 32 (sl ⟨false, tw, 0, wh, ep, no, mc, lo, hi, dl⟩) := by
      rw [List.append_assoc] at B10
      exact B10
    have ld := load_sl okf F10
    have st := F10.big_store (P := Try.prog) (ty := 32) (cs' := sl ⟨false, tw, 0, wh, ep, no, mc, lo, hi, dl⟩) rfl (sl_inf okf) (sl_all _)
    have B11 := F10.setRow (sl ⟨false, tw, 0, wh, ep, no, mc, lo, hi, dl⟩)
    have X11 := X10.setRow (.inl hgw) (g := g) (sl ⟨false, tw, 0, wh, ep, no, mc, lo, hi, dl⟩)
    clear R9 F9 X9 x10 B10 R10 X10 F10
    go_wp2_with fail
    exact bodyPost_ret (B11.results Try.results33 _ rfl Try.underlying32 rfl (sl_inf okf)) rfl ⟨by rw [HZ.out]; rfl, X11⟩

theorem store_b64 (w : World) {l : List UInt8} (h : l.length = 64) : (bigStore 33 (.pointer (some ⟨w.heap.size, 0, none⟩)) (.agg (ba l))).run Try.prog (w.alloc (.cells (zrow 64) 33)) = .ok () (w.alloc (.cells (ba l) 33)) := by
  rw [Blk.big_store (P := Try.prog) (Blk.new w 33 (zrow 64)) (by rw [zrow_size, ba_size, h]) (b64_inf h) (ba_all _), World.setRow_alloc_new]
theorem load_b64 {w : World} {g : Nat} {l : List UInt8} (hb : Blk w g 33 (ba l)) (h : l.length = 64) : (bigLoad 33 (.pointer (some ⟨g, 0, none⟩))).run Try.prog w = .ok (.agg (ba l)) w :=
  hb.big_load Try.underlying33 rfl (b64_inf h)
theorem neq_b64 (w : World) {l m : List UInt8} (hl : l.length = 64) (hm : m.length = 64) : (binOp .neq 33 (.agg (ba l)) (.agg (ba m))).run Try.prog w = .ok (.bool (!(l == m))) w :=
  run_neq_bytes w Try.underlying33 Try.underlying5 s8 Try.isAgg5 _ _ hl hm
theorem eql_b64 (w : World) {l m : List UInt8} (hl : l.length = 64) (hm : m.length = 64) : (binOp .eql 33 (.agg (ba l)) (.agg (ba m))).run Try.prog w = .ok (.bool (l == m)) w :=
  run_eql_bytes w Try.underlying33 Try.underlying5 s8 Try.isAgg5 _ _ hl hm
theorem ba64_ne {l : List UInt8} (h : l.length = 64) : ba l ≠ #[] := row_ne (n := 63) (by rw [ba_size, h])
theorem rd_arr {w : World} {g : Nat} {t : TypeId} {l : List UInt8} (h : Blk w g t (ba l)) : Rd w (fun k => k = g) (some ⟨g, 0, none⟩) (bvs l) :=
  Blk.sub (cs := bvs l) h [] l [] (by simp) 0 rfl

set_option maxRecDepth 100000 in
set_option maxHeartbeats 4000000 in
theorem decode_calls (w : World) {l : List UInt8} (hl : l.length = 64) : Calls Try.prog 17 #[.agg (ba l)] w fun e w' => e = .returned (.tuple #[.agg (sl (decs l)), .int .i64 (dece l : Nat)]) ∧ Ext Non w w' := by
  have ne := ba64_ne hl
  have ne2 := sl_ne sl0
  have ne3 := row_ne (zrow_size 64)
  have okr := rdsl_ok hl
  have ne4 := sl_ne (rdsl l)
  have X0 : Ext Non w ((w.alloc (.cells (ba l) 33)).alloc (.cells (sl sl0) 32)) := ((Ext.refl Non w).alloc _).alloc _
  have A0 := (Blk.new w 33 (ba l)).alloc (.cells (sl sl0) 32)
  have B0 := Blk.new (w.alloc (.cells (ba l) 33)) 32 (sl sl0)
  rw [World.size_alloc] at B0
  have sa := fun W => run_arr_all (P := Try.prog) W Try.underlying33 s8 w.heap.size 0 (by decide)
  have rd0 := rd_arr A0
  go_enter Try.func17, Try.ntmps17
  go_upto_region 1 with (fail)
  generalize (w.alloc (.cells (ba l) 33)).alloc (.cells (sl sl0) 32) = v at *
  go_wp2_with fail
  have ctr := slread_calls 64 rd0 hl
  with_reducible refine Calls.mono ctr ?_
  clear ctr
  rintro e w1 ⟨rfl, x1⟩
  have A1 := (A0.extN_ x1).alloc (.cells (sl (rdsl l)) 32)
  have B1 := (B0.extN_ x1).alloc (.cells (sl (rdsl l)) 32)
  have C1 := Blk.new w1 32 (sl (rdsl l))
  have X1 : Ext Non w (w1.alloc (.cells (sl (rdsl l)) 32)) := (X0.transN x1).alloc _
  have ld := load_sl okr C1
  clear rd0 x1 X0 A0 B0
  go_upto_region 2 with (fail)
  generalize w1.alloc (.cells (sl (rdsl l)) 32) = v1 at *
  generalize w1.heap.size = g1 at *
  go_wp2_with fail
  have ctr := encode_calls v1 okr
  with_reducible refine Calls.mono ctr ?_
  clear ctr
  rintro e w2 ⟨rfl, x2⟩
  have hel := encb_len okr
  have st2 := store_b64 w2 hel
  have A2 := (A1.extN_ x2).alloc (.cells (ba (encb (rdsl l))) 33)
  have B2 := (B1.extN_ x2).alloc (.cells (ba (encb (rdsl l))) 33)
  have C2 := (C1.extN_ x2).alloc (.cells (ba (encb (rdsl l))) 33)
  have D2 := Blk.new w2 33 (ba (encb (rdsl l)))
  have X2 : Ext Non w (w2.alloc (.cells (ba (encb (rdsl l))) 33)) := (X1.transN x2).alloc _
  have ld2 := load_b64 D2 hel
  have ld3 := load_b64 A2 hl
  have ld4 := load_sl okr C2
  have nb := fun W => neq_b64 W hel hl
  clear ld x2 X1 A1 B1 C1
  go_upto_region 3 with (fail)
  clear st2
  generalize w2.alloc (.cells (ba (encb (rdsl l))) 33) = v2 at *
  generalize w2.heap.size = g2 at *
  have B6 := B2
  have X6 := X2
  clear A2 B2 C2 D2 X2
  by_cases hr : right (rdsl l) = true
  · have e0 : ence (rdsl l) = 0 := by unfold ence; rw [if_pos hr]
    have e3 : encb (rdsl l) = slb (rdsl l) := by unfold encb; rw [if_pos hr]
    by_cases hd : slb (rdsl l) = l
    · have hcond : (right (rdsl l) && decide (slb (rdsl l) = l)) = true := by rw [hr, decide_eq_true hd]; rfl
      have e1 : dece l = 0 := by unfold dece; rw [if_pos hcond]
      have e2 : decs l = rdsl l := by unfold decs; rw [if_pos hcond]
      have hbq : (encb (rdsl l) == l) = true := by rw [e3, hd]; exact beq_self_eq_true l
      simp only [hbq, e0] at nb ⊢
      clear hbq hd e3 hcond
      have st := B6.big_store (P := Try.prog) (ty := 32) (cs' := sl (rdsl l)) (by rw [sl_size sl0_ok]; try exact (sl_size okr).symm) (sl_inf okr) (sl_all _)
      have B7 := B6.setRow (sl (rdsl l))
      have X7 := X6.setRow (.inl (Nat.le_succ _)) (g := w.heap.size + 1) (sl (rdsl l))
      go_wp2_with fail
      exact bodyPost_ret (B7.results2 Try.results17 _ _ rfl rfl Try.underlying32 rfl (sl_inf okr)) rfl ⟨by rw [e1, e2]; rfl, X7⟩
    · have hcond : (right (rdsl l) && decide (slb (rdsl l) = l)) = false := by rw [decide_eq_false hd, Bool.and_false]
      have e1 : dece l = 3 := by unfold dece; rw [hcond]; rfl
      have e2 : decs l = sl0 := by unfold decs; rw [hcond]; rfl
      have hbq : (encb (rdsl l) == l) = false := by rw [e3]; exact beq_eq_false_iff_ne.2 hd
      simp only [hbq, e0] at nb ⊢
      clear hbq hd e3 hcond
      have st := B6.big_store (P := Try.prog) (ty := 32) (cs' := sl sl0) (by rw [sl_size sl0_ok]; try exact (sl_size sl0_ok).symm) (sl_inf sl0_ok) (sl_all _)
      have B7 := B6.setRow (sl sl0)
      have X7 := X6.setRow (.inl (Nat.le_succ _)) (g := w.heap.size + 1) (sl sl0)
      go_wp2_with fail
      exact bodyPost_ret (B7.results2 Try.results17 _ _ rfl rfl Try.underlying32 rfl (sl_inf sl0_ok)) rfl ⟨by rw [e1, e2]; rfl, X7⟩
  · have e0 : ence (rdsl l) = 1 := by unfold ence; rw [if_neg hr]
    have hcond : (right (rdsl l) && decide (slb (rdsl l) = l)) = false := by rw [Bool.eq_false_iff.2 hr, Bool.false_and]
    have e1 : dece l = 3 := by unfold dece; rw [hcond]; rfl
    have e2 : decs l = sl0 := by unfold decs; rw [hcond]; rfl
    simp only [e0]
    clear hcond
    have st := B6.big_store (P := Try.prog) (ty := 32) (cs' := sl sl0) (by rw [sl_size sl0_ok]; try exact (sl_size sl0_ok).symm) (sl_inf sl0_ok) (sl_all _)
    have B7 := B6.setRow (sl sl0)
    have X7 := X6.setRow (.inl (Nat.le_succ _)) (g := w.heap.size + 1) (sl sl0)
    go_wp2_with fail
    exact bodyPost_ret (B7.results2 Try.results17 _ _ rfl rfl Try.underlying32 rfl (sl_inf sl0_ok)) rfl ⟨by rw [e1, e2]; rfl, X7⟩
end Go.Proofs.Ytgfjpoopghdilaa
