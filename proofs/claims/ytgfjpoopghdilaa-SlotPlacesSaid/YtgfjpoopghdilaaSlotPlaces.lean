/- The law SlotPlaces: each field of a slot stands in its place. -/
import Derived.Test.YtgfjpoopghdilaaConv
import Derived.Test.YtgfjpoopghdilaaSlotBack
namespace Go.Proofs.Ytgfjpoopghdilaa
open Go.RowKit

/-- The bytes of a slot, part by part. -/
theorem slb_parts {s : Sl} (h : s.ok) : num ((slb s).take 1) = (if s.last then 1 else 0) ∧ num (((slb s).drop 1).take 2) = (if s.last then s.box else s.next) ∧ num (((slb s).drop 3).take 8) = s.lo ∧ num (((slb s).drop 11).take 8) = s.hi ∧ num (((slb s).drop 19).take 4) = s.delay ∧
    num (((slb s).drop 23).take 2) = s.who ∧ num (((slb s).drop 25).take 4) = s.epoch ∧ ((slb s).drop 29).take 16 = s.nonce ∧ ((slb s).drop 45).take 16 = s.mac ∧ (slb s).drop 61 = zeros 3 := by
  have a1 : ∀ x y : Nat, x ≤ y → ∀ l m : List UInt8, l.length = x → (l ++ m).drop y = m.drop (y - x) := by
    intro x y hxy l m hl
    rw [List.drop_append, List.drop_of_length_le (by omega), List.nil_append, hl]
  have a2 : ∀ x : Nat, ∀ l m : List UInt8, l.length = x → (l ++ m).take x = l := by
    intro x l m hl
    rw [List.take_append_of_le_length (by omega), List.take_of_length_le (by omega)]
  unfold slb
  simp only [List.append_assoc]
  refine ⟨?_, ?_, ?_, ?_, ?_, ?_, ?_, ?_, ?_, ?_⟩
  · rw [a2 1 _ _ (be_length _ _), num_be]
    split <;> rfl
  · rw [a1 1 1 (by decide) _ _ (be_length _ _), Nat.sub_self, List.drop_zero, a2 2 _ _ (be_length _ _), num_be]
    split
    · exact Nat.mod_eq_of_lt h.box
    · exact Nat.mod_eq_of_lt h.next
  · rw [a1 1 3 (by decide) _ _ (be_length _ _), a1 2 2 (by decide) _ _ (be_length _ _), Nat.sub_self, List.drop_zero, a2 8 _ _ (be_length _ _), num_be]
    exact Nat.mod_eq_of_lt h.lo
  · rw [a1 1 11 (by decide) _ _ (be_length _ _), a1 2 10 (by decide) _ _ (be_length _ _), a1 8 8 (by decide) _ _ (be_length _ _), Nat.sub_self, List.drop_zero, a2 8 _ _ (be_length _ _), num_be]
    exact Nat.mod_eq_of_lt h.hi
  · rw [a1 1 19 (by decide) _ _ (be_length _ _), a1 2 18 (by decide) _ _ (be_length _ _), a1 8 16 (by decide) _ _ (be_length _ _), a1 8 8 (by decide) _ _ (be_length _ _), Nat.sub_self, List.drop_zero, a2 4 _ _ (be_length _ _), num_be]
    exact Nat.mod_eq_of_lt h.delay
  · rw [a1 1 23 (by decide) _ _ (be_length _ _), a1 2 22 (by decide) _ _ (be_length _ _), a1 8 20 (by decide) _ _ (be_length _ _), a1 8 12 (by decide) _ _ (be_length _ _), a1 4 4 (by decide) _ _ (be_length _ _), Nat.sub_self, List.drop_zero, a2 2 _ _ (be_length _ _), num_be]
    exact Nat.mod_eq_of_lt h.who
  · rw [a1 1 25 (by decide) _ _ (be_length _ _), a1 2 24 (by decide) _ _ (be_length _ _), a1 8 22 (by decide) _ _ (be_length _ _), a1 8 14 (by decide) _ _ (be_length _ _), a1 4 6 (by decide) _ _ (be_length _ _), a1 2 2 (by decide) _ _ (be_length _ _), Nat.sub_self, List.drop_zero, a2 4 _ _ (be_length _ _), num_be]
    exact Nat.mod_eq_of_lt h.epoch
  · rw [a1 1 29 (by decide) _ _ (be_length _ _), a1 2 28 (by decide) _ _ (be_length _ _), a1 8 26 (by decide) _ _ (be_length _ _), a1 8 18 (by decide) _ _ (be_length _ _), a1 4 10 (by decide) _ _ (be_length _ _), a1 2 6 (by decide) _ _ (be_length _ _), a1 4 4 (by decide) _ _ (be_length _ _), Nat.sub_self, List.drop_zero, a2 16 _ _ h.nonce]
  · rw [a1 1 45 (by decide) _ _ (be_length _ _), a1 2 44 (by decide) _ _ (be_length _ _), a1 8 42 (by decide) _ _ (be_length _ _), a1 8 34 (by decide) _ _ (be_length _ _), a1 4 26 (by decide) _ _ (be_length _ _), a1 2 22 (by decide) _ _ (be_length _ _), a1 4 20 (by decide) _ _ (be_length _ _), a1 16 16 (by decide) _ _ h.nonce, Nat.sub_self, List.drop_zero, a2 16 _ _ h.mac]
  · rw [a1 1 61 (by decide) _ _ (be_length _ _), a1 2 60 (by decide) _ _ (be_length _ _), a1 8 58 (by decide) _ _ (be_length _ _), a1 8 50 (by decide) _ _ (be_length _ _), a1 4 42 (by decide) _ _ (be_length _ _), a1 2 38 (by decide) _ _ (be_length _ _), a1 4 36 (by decide) _ _ (be_length _ _), a1 16 32 (by decide) _ _ h.nonce, a1 16 16 (by decide) _ _ h.mac, Nat.sub_self, List.drop_zero]

/-- Bytes taken, what is left named. -/
theorem bytes_at {w : World} {p : Nat} {D : Nat → Prop} {l : List UInt8} {a : Nat} (hr : Rdr w p D (l.drop a)) (hp : ¬ D p) (k : Nat) (m : List UInt8) (hm : (l.drop a).take k = m) (b : Nat) (hab : a + k = b) (hl : b ≤ l.length) :
    Calls Try.prog 27 #[.pointer (some ⟨p, 0, none⟩), .int .i64 k] w fun e w' => ∃ A' c', e = .returned (.tuple #[.slice A' k c', .int .i64 0]) ∧ OwB w' w.heap.size A' c' m ∧ Rdr w' p D (l.drop b) ∧ Ext (One p) w w' := by
  subst hm hab
  have := bytes_ok hr hp (k : Int) k rfl (by rw [List.length_drop]; omega)
  rw [List.drop_drop] at this
  exact this
theorem OwB.one {w w' : World} {p base : Nat} {A : Option Addr} {c : Nat} {l : List UInt8} (h : OwB w base A c l) (x : Ext (One p) w w') (hp : p < base) : OwB w' base A c l := h.ext x (fun k hk e => by have := (h.lt hk).1; have e : k = p := e; omega)
theorem cv_own {w : World} {base : Nat} {A : Option Addr} {c : Nat} {l : List UInt8} (h : OwB w base A c l) (n : Nat) (hn : l.length = n) : (convert 40 9 (.slice A n c)).run Try.prog w = .ok (.string (str l)) w :=
  run_convert_rd w 40 9 5 Try.underlying40 Try.underlying9 Try.underlying5 h.rd n c hn
theorem str_z3 : str (zeros 3) = ⟨#[0, 0, 0]⟩ := rfl
set_option maxRecDepth 100000 in
set_option maxHeartbeats 8000000 in
theorem places_walk (w : World) {s : Sl} (hs : s.ok) :
    Calls Try.prog 11 #[.agg (sl s)] w fun e w' => e = .returned (.bool true) ∧ Below w.heap.size w w' := by
  have ns := sl_ne s
  have nz := row_ne (zrow_size 64)
  have B0 := Blk.new w 32 (sl s)
  have X0 : Ext Non w (w.alloc (.cells (sl s) 32)) := (Ext.refl Non w).alloc _
  go_enter Try.func11, Try.ntmps11
  go_upto_region 1 with (fail)
  generalize w.alloc (.cells (sl s) 32) = v at *
  go_wp2_with fail
  have ctr := shown_calls v
  with_reducible refine Calls.mono ctr ?_
  clear ctr
  rintro e w1 ⟨rfl, x1⟩
  have l1 := load_sl hs (B0.extN_ x1)
  go_wp2_with fail
  have ctr := encode_calls w1 hs
  with_reducible refine Calls.mono ctr ?_
  clear ctr
  rintro e w2 ⟨rfl, x2⟩
  clear l1
  have L2 := encb_len hs
  have n2 := ba64_ne L2
  have st2 := store_b64 w2 L2
  rcases ence_cases s with ⟨r, e⟩ | ⟨r, e⟩
  · have he : encb s = slb s := by unfold encb; rw [if_pos r]
    rw [e]
    rw [he] at L2 n2 st2 ⊢
    have hb := L2
    have E2 := Blk.new w2 33 (ba (slb s))
    have X2 : Ext Non v (w2.alloc (.cells (ba (slb s)) 33)) := (x1.transN x2).alloc _
    have hd := X2.size
    have sa := fun W => run_arr_all (P := Try.prog) W Try.underlying33 s8 w2.heap.size 0 (by decide)
    clear x1 x2 e r he
    cases hl : s.last
    · obtain ⟨p1, p2, p3, p4, p5, p6, p7, p8, p9, p10⟩ := slb_parts hs
      rw [hl] at p1 p2
      have c0 := fun W (x : Ext Non v W) => ((B0.extN_ x).cell 0).trans (sl_get0 hs)
      rw [hl] at c0
      have c1 := fun W (x : Ext Non v W) => ((B0.extN_ x).cell 1).trans (sl_get1 hs)
      have c3 := fun W (x : Ext Non v W) => ((B0.extN_ x).cell 3).trans (sl_get3 hs)
      have c4 := fun W (x : Ext Non v W) => ((B0.extN_ x).cell 4).trans (sl_get4 hs)
      have c37 := fun W (x : Ext Non v W) => ((B0.extN_ x).cell 37).trans (sl_get37 hs)
      have c38 := fun W (x : Ext Non v W) => ((B0.extN_ x).cell 38).trans (sl_get38 hs)
      have c39 := fun W (x : Ext Non v W) => ((B0.extN_ x).cell 39).trans (sl_get39 hs)
      have s5 := fun W => run_arr_all (P := Try.prog) W Try.underlying28 s8 w.heap.size 5 (by decide)
      have s21 := fun W => run_arr_all (P := Try.prog) W Try.underlying29 s8 w.heap.size 21 (by decide)
      have v5 := fun W (x : Ext Non v W) => run_convert_rd W 40 9 5 Try.underlying40 Try.underlying9 Try.underlying5 (Blk.sub (B0.extN_ x) _ _ _ (slL_nonce s) 5 rfl) 16 16 hs.nonce
      have v21 := fun W (x : Ext Non v W) => run_convert_rd W 40 9 5 Try.underlying40 Try.underlying9 Try.underlying5 (Blk.sub (B0.extN_ x) _ _ _ (slL_mac s) 21 (by simp [bvs_length, hs.nonce])) 16 16 hs.mac
      go_wp2_with fail
      have ctr := read_calls 64 64 (rd_arr E2) hb (by rw [hb]; decide)
      with_reducible refine Calls.mono ctr ?_
      clear ctr
      rintro e w3 ⟨p, rfl, R3, hp, x3⟩
      have X3 := X2.transN x3
      generalize (w2.alloc (.cells (ba (slb s)) 33)).heap.size = d at *
      have hpD : ¬ (d ≤ p ∧ p < p) := fun h => by omega
      have hvd : v.heap.size ≤ d := hd
      have hxp : ∀ i, i < v.heap.size → One p i → Non i := fun i hi h => by have h : i = p := h; omega
      have R3' : Rdr w3 p (fun k => d ≤ k ∧ k < p) ((slb s).drop 0) := R3
      clear R3 x3
      go_wp2_with fail
      have ctr := u8_at R3' hpD 0 p1 1 rfl (by omega)
      with_reducible refine Calls.mono ctr ?_
      clear ctr
      rintro e w4 ⟨rfl, R4, x4⟩
      have X4 := X3.trans x4 hxp
      clear R3' X3 x4
      go_wp2_with fail
      have ctr := u16_at R4 hpD s.next p2 3 rfl (by omega)
      with_reducible refine Calls.mono ctr ?_
      clear ctr
      rintro e w5 ⟨rfl, R5, x5⟩
      have X5 := X4.trans x5 hxp
      clear R4 X4 x5
      go_wp2_with fail
      have ctr := u64_at R5 hpD s.lo p3 11 rfl (by omega)
      with_reducible refine Calls.mono ctr ?_
      clear ctr
      rintro e w6 ⟨rfl, R6, x6⟩
      have X6 := X5.trans x6 hxp
      clear R5 X5 x6
      go_wp2_with fail
      have ctr := u64_at R6 hpD s.hi p4 19 rfl (by omega)
      with_reducible refine Calls.mono ctr ?_
      clear ctr
      rintro e w7 ⟨rfl, R7, x7⟩
      have X7 := X6.trans x7 hxp
      clear R6 X6 x7
      go_wp2_with fail
      have ctr := u32_at R7 hpD s.delay p5 23 rfl (by omega)
      with_reducible refine Calls.mono ctr ?_
      clear ctr
      rintro e w8 ⟨rfl, R8, x8⟩
      have X8 := X7.trans x8 hxp
      clear R7 X7 x8
      go_wp2_with fail
      have ctr := u16_at R8 hpD s.who p6 25 rfl (by omega)
      with_reducible refine Calls.mono ctr ?_
      clear ctr
      rintro e w9 ⟨rfl, R9, x9⟩
      have X9 := X8.trans x9 hxp
      clear R8 X8 x9
      go_wp2_with fail
      have ctr := u32_at R9 hpD s.epoch p7 29 rfl (by omega)
      with_reducible refine Calls.mono ctr ?_
      clear ctr
      rintro e w10 ⟨rfl, R10, x10⟩
      have X10 := X9.trans x10 hxp
      clear R9 X9 x10
      go_wp2_with fail
      have ctr := bytes_at R10 hpD 16 s.nonce p8 45 rfl (by omega)
      with_reducible refine Calls.mono ctr ?_
      clear ctr
      rintro e w11 ⟨A11, c11, rfl, O11, R11, x11⟩
      have hb11 : p < w10.heap.size := R10.lt
      have X11 := X10.trans x11 hxp
      clear R10 X10 x11
      go_wp2_with fail
      have ctr := bytes_at R11 hpD 16 s.mac p9 61 rfl (by omega)
      with_reducible refine Calls.mono ctr ?_
      clear ctr
      rintro e w12 ⟨A12, c12, rfl, O12, R12, x12⟩
      have hb12 : p < w11.heap.size := R11.lt
      have O11' := O11.one x12 hb11
      have X12 := X11.trans x12 hxp
      clear R11 X11 x12 O11
      have hr3 : ((slb s).drop 61).length = 3 := by rw [p10]; rfl
      go_wp2_with fail
      have ctr := rest_calls R12 hpD 3 hr3
      with_reducible refine Calls.mono ctr ?_
      clear ctr
      rintro e w13 ⟨A13, d13, rfl, O13, R13, x13⟩
      rw [p10] at O13
      have O11 := O11'.one x13 hb11
      have O12' := O12.one x13 hb12
      have X13 := X12.trans x13 hxp
      clear R12 X12 x13 O11' O12 R13 p1 p2 p3 p4 p5 p6 p7 p8 p9 p10 hr3
      have d0 := c0 w13 X13
      have d1 := c1 w13 X13
      go_upto_region 21 with (fail)
      clear d0 d1 c0 c1
      have k1 := fun W (x : Ext Non w13 W) => cv_own (O11.extN x) 16 hs.nonce
      have k2 := fun W (x : Ext Non w13 W) => cv_own (O12'.extN x) 16 hs.mac
      have k3 := fun W (x : Ext Non w13 W) => (cv_own (O13.extN x) 3 rfl)
      rw [str_z3] at k3
      clear O11 O12' O13
      refine wp_region_seq Non ((0, true) :: (1, true) :: (2, true) :: (3, true) :: (4, true) :: (5, true) :: (6, true) :: (7, true) :: (8, true) :: (9, true) :: (10, true) :: (11, true) :: (12, true) :: (13, true) :: (14, true) :: (15, true) :: (16, true) :: (17, true) :: (18, true) :: (19, true) :: (20, true) :: (21, true) :: (22, true) :: (23, true) :: (24, true) :: (25, true) :: (26, true) :: (27, true) :: (28, true) :: (29, true) :: (30, true) :: (31, true) :: (32, true) :: (33, true) :: (34, true) :: (35, true) :: (36, true) :: (37, true) :: (38, true) :: (39, true) :: (40, true) :: (41, true) :: (42, true) :: (43, true) :: (44, true) :: (45, true) :: (46, true) :: (47, true) :: (48, true) :: (49, true) :: (50, true) :: (51, true) :: (52, true) :: (53, true) :: (54, true) :: (55, true) :: []) (by kernel_rfl) (by kernel_rfl) (by kernel_rfl) ?_
      iterate 34 (refine wpSeq_quiet rfl rfl ?_; apply Exists.intro; refine ⟨?_, ?_⟩; (intro W hW; have u1 := c37 W (X13.transN hW.drewL); have u2 := c38 W (X13.transN hW.drewL); have u3 := c39 W (X13.transN hW.drewL); have u4 := c3 W (X13.transN hW.drewL); have u5 := c4 W (X13.transN hW.drewL); go_simp; try with_reducible rfl); (intro K hK; simp only [Act.put, List.setIfInBounds_toArray, List.set_cons_zero, List.set_cons_succ]; refine hK _ ?_; clear hK K))
      iterate 22 (refine wpSeq_quiet rfl rfl ?_; apply Exists.intro; refine ⟨?_, ?_⟩; (intro W hW; have u6 := v5 W (X13.transN hW.drewL); have u7 := v21 W (X13.transN hW.drewL); have u8 := k1 W hW.drewL; have u9 := k2 W hW.drewL; have u10 := k3 W hW.drewL; go_simp; try with_reducible rfl); (intro K hK; simp only [Act.put, List.setIfInBounds_toArray, List.set_cons_zero, List.set_cons_succ]; refine hK _ ?_; clear hK K))
      refine wpSeq_end ?_
      go_wp2_with fail
      go_ret
      exact ⟨rfl, (X0.transN X13.drew).belowN⟩
    · obtain ⟨p1, p2, p3, p4, p5, p6, p7, p8, p9, p10⟩ := slb_parts hs
      rw [hl] at p1 p2
      have c0 := fun W (x : Ext Non v W) => ((B0.extN_ x).cell 0).trans (sl_get0 hs)
      rw [hl] at c0
      have c2 := fun W (x : Ext Non v W) => ((B0.extN_ x).cell 2).trans (sl_get2 hs)
      have c3 := fun W (x : Ext Non v W) => ((B0.extN_ x).cell 3).trans (sl_get3 hs)
      have c4 := fun W (x : Ext Non v W) => ((B0.extN_ x).cell 4).trans (sl_get4 hs)
      have c37 := fun W (x : Ext Non v W) => ((B0.extN_ x).cell 37).trans (sl_get37 hs)
      have c38 := fun W (x : Ext Non v W) => ((B0.extN_ x).cell 38).trans (sl_get38 hs)
      have c39 := fun W (x : Ext Non v W) => ((B0.extN_ x).cell 39).trans (sl_get39 hs)
      have s5 := fun W => run_arr_all (P := Try.prog) W Try.underlying28 s8 w.heap.size 5 (by decide)
      have s21 := fun W => run_arr_all (P := Try.prog) W Try.underlying29 s8 w.heap.size 21 (by decide)
      have v5 := fun W (x : Ext Non v W) => run_convert_rd W 40 9 5 Try.underlying40 Try.underlying9 Try.underlying5 (Blk.sub (B0.extN_ x) _ _ _ (slL_nonce s) 5 rfl) 16 16 hs.nonce
      have v21 := fun W (x : Ext Non v W) => run_convert_rd W 40 9 5 Try.underlying40 Try.underlying9 Try.underlying5 (Blk.sub (B0.extN_ x) _ _ _ (slL_mac s) 21 (by simp [bvs_length, hs.nonce])) 16 16 hs.mac
      go_wp2_with fail
      have ctr := read_calls 64 64 (rd_arr E2) hb (by rw [hb]; decide)
      with_reducible refine Calls.mono ctr ?_
      clear ctr
      rintro e w3 ⟨p, rfl, R3, hp, x3⟩
      have X3 := X2.transN x3
      generalize (w2.alloc (.cells (ba (slb s)) 33)).heap.size = d at *
      have hpD : ¬ (d ≤ p ∧ p < p) := fun h => by omega
      have hvd : v.heap.size ≤ d := hd
      have hxp : ∀ i, i < v.heap.size → One p i → Non i := fun i hi h => by have h : i = p := h; omega
      have R3' : Rdr w3 p (fun k => d ≤ k ∧ k < p) ((slb s).drop 0) := R3
      clear R3 x3
      go_wp2_with fail
      have ctr := u8_at R3' hpD 1 p1 1 rfl (by omega)
      with_reducible refine Calls.mono ctr ?_
      clear ctr
      rintro e w4 ⟨rfl, R4, x4⟩
      have X4 := X3.trans x4 hxp
      clear R3' X3 x4
      go_wp2_with fail
      have ctr := u16_at R4 hpD s.box p2 3 rfl (by omega)
      with_reducible refine Calls.mono ctr ?_
      clear ctr
      rintro e w5 ⟨rfl, R5, x5⟩
      have X5 := X4.trans x5 hxp
      clear R4 X4 x5
      go_wp2_with fail
      have ctr := u64_at R5 hpD s.lo p3 11 rfl (by omega)
      with_reducible refine Calls.mono ctr ?_
      clear ctr
      rintro e w6 ⟨rfl, R6, x6⟩
      have X6 := X5.trans x6 hxp
      clear R5 X5 x6
      go_wp2_with fail
      have ctr := u64_at R6 hpD s.hi p4 19 rfl (by omega)
      with_reducible refine Calls.mono ctr ?_
      clear ctr
      rintro e w7 ⟨rfl, R7, x7⟩
      have X7 := X6.trans x7 hxp
      clear R6 X6 x7
      go_wp2_with fail
      have ctr := u32_at R7 hpD s.delay p5 23 rfl (by omega)
      with_reducible refine Calls.mono ctr ?_
      clear ctr
      rintro e w8 ⟨rfl, R8, x8⟩
      have X8 := X7.trans x8 hxp
      clear R7 X7 x8
      go_wp2_with fail
      have ctr := u16_at R8 hpD s.who p6 25 rfl (by omega)
      with_reducible refine Calls.mono ctr ?_
      clear ctr
      rintro e w9 ⟨rfl, R9, x9⟩
      have X9 := X8.trans x9 hxp
      clear R8 X8 x9
      go_wp2_with fail
      have ctr := u32_at R9 hpD s.epoch p7 29 rfl (by omega)
      with_reducible refine Calls.mono ctr ?_
      clear ctr
      rintro e w10 ⟨rfl, R10, x10⟩
      have X10 := X9.trans x10 hxp
      clear R9 X9 x10
      go_wp2_with fail
      have ctr := bytes_at R10 hpD 16 s.nonce p8 45 rfl (by omega)
      with_reducible refine Calls.mono ctr ?_
      clear ctr
      rintro e w11 ⟨A11, c11, rfl, O11, R11, x11⟩
      have hb11 : p < w10.heap.size := R10.lt
      have X11 := X10.trans x11 hxp
      clear R10 X10 x11
      go_wp2_with fail
      have ctr := bytes_at R11 hpD 16 s.mac p9 61 rfl (by omega)
      with_reducible refine Calls.mono ctr ?_
      clear ctr
      rintro e w12 ⟨A12, c12, rfl, O12, R12, x12⟩
      have hb12 : p < w11.heap.size := R11.lt
      have O11' := O11.one x12 hb11
      have X12 := X11.trans x12 hxp
      clear R11 X11 x12 O11
      have hr3 : ((slb s).drop 61).length = 3 := by rw [p10]; rfl
      go_wp2_with fail
      have ctr := rest_calls R12 hpD 3 hr3
      with_reducible refine Calls.mono ctr ?_
      clear ctr
      rintro e w13 ⟨A13, d13, rfl, O13, R13, x13⟩
      rw [p10] at O13
      have O11 := O11'.one x13 hb11
      have O12' := O12.one x13 hb12
      have X13 := X12.trans x13 hxp
      clear R12 X12 x13 O11' O12 R13 p1 p2 p3 p4 p5 p6 p7 p8 p9 p10 hr3
      have d0 := c0 w13 X13
      have d2 := c2 w13 X13
      go_upto_region 21 with (fail)
      clear d0 d2 c0 c2
      have k1 := fun W (x : Ext Non w13 W) => cv_own (O11.extN x) 16 hs.nonce
      have k2 := fun W (x : Ext Non w13 W) => cv_own (O12'.extN x) 16 hs.mac
      have k3 := fun W (x : Ext Non w13 W) => (cv_own (O13.extN x) 3 rfl)
      rw [str_z3] at k3
      clear O11 O12' O13
      refine wp_region_seq Non ((0, true) :: (1, true) :: (2, true) :: (3, true) :: (4, true) :: (5, true) :: (6, true) :: (7, true) :: (8, true) :: (9, true) :: (10, true) :: (11, true) :: (12, true) :: (13, true) :: (14, true) :: (15, true) :: (16, true) :: (17, true) :: (18, true) :: (19, true) :: (20, true) :: (21, true) :: (22, true) :: (23, true) :: (24, true) :: (25, true) :: (26, true) :: (27, true) :: (28, true) :: (29, true) :: (30, true) :: (31, true) :: (32, true) :: (33, true) :: (34, true) :: (35, true) :: (36, true) :: (37, true) :: (38, true) :: (39, true) :: (40, true) :: (41, true) :: (42, true) :: (43, true) :: (44, true) :: (45, true) :: (46, true) :: (47, true) :: (48, true) :: (49, true) :: (50, true) :: (51, true) :: (52, true) :: (53, true) :: (54, true) :: (55, true) :: []) (by kernel_rfl) (by kernel_rfl) (by kernel_rfl) ?_
      iterate 34 (refine wpSeq_quiet rfl rfl ?_; apply Exists.intro; refine ⟨?_, ?_⟩; (intro W hW; have u1 := c37 W (X13.transN hW.drewL); have u2 := c38 W (X13.transN hW.drewL); have u3 := c39 W (X13.transN hW.drewL); have u4 := c3 W (X13.transN hW.drewL); have u5 := c4 W (X13.transN hW.drewL); go_simp; try with_reducible rfl); (intro K hK; simp only [Act.put, List.setIfInBounds_toArray, List.set_cons_zero, List.set_cons_succ]; refine hK _ ?_; clear hK K))
      iterate 22 (refine wpSeq_quiet rfl rfl ?_; apply Exists.intro; refine ⟨?_, ?_⟩; (intro W hW; have u6 := v5 W (X13.transN hW.drewL); have u7 := v21 W (X13.transN hW.drewL); have u8 := k1 W hW.drewL; have u9 := k2 W hW.drewL; have u10 := k3 W hW.drewL; go_simp; try with_reducible rfl); (intro K hK; simp only [Act.put, List.setIfInBounds_toArray, List.set_cons_zero, List.set_cons_succ]; refine hK _ ?_; clear hK K))
      refine wpSeq_end ?_
      go_wp2_with fail
      go_ret
      exact ⟨rfl, (X0.transN X13.drew).belowN⟩
  · rw [e]
    have X2 : Ext Non v (w2.alloc (.cells (ba (encb s)) 33)) := (x1.transN x2).alloc _
    go_wp2_with fail
    go_ret
    exact ⟨rfl, (X0.transN X2).belowN⟩
end Go.Proofs.Ytgfjpoopghdilaa
