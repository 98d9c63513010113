/- The law HmacSame: bytes are the same just if all are; for any two rows of bytes, and numbers. -/
import Derived.Test.YtgbaijmpfdhoeaaDoorHm04
namespace Go.Proofs.YtgbaijmpfdhoeaaDoor
open Go.RowKit

theorem snoc_ne (a : List UInt8) (x : UInt8) : (a == a ++ [x]) = false := by
  rw [beq_eq_false_iff_ne]
  intro h
  have := congrArg List.length h
  simp at this
theorem turned_eq (a : List UInt8) {i : Nat} (h : i < a.length) (x b : UInt8) (hx : a.getD i 0 = x) : (a == a.set i (x ^^^ b)) = (((b.toNat : Nat) : Int) == 0) := by
  have hx' : a[i] = x := by rw [← hx]; simp [List.getD, h]
  by_cases hb : b = 0
  · subst hb
    have : a.set i (x ^^^ 0) = a := by
      rw [UInt8.xor_zero, ← hx']
      exact List.set_getElem_self h
    rw [this]
    simp
  · have h1 : ¬ ((b.toNat : Nat) : Int) = 0 := fun e => hb (UInt8.toNat_inj.1 (by simpa using e))
    rw [beq_eq_false_iff_ne.2 h1, beq_eq_false_iff_ne]
    intro e
    have e2 := congrArg (fun l => l[i]?) e
    simp only [List.getElem?_set_self h, List.getElem?_eq_getElem h, Option.some.injEq, hx'] at e2
    have e3 : x ^^^ x = x ^^^ (x ^^^ b) := congrArg (fun y => x ^^^ y) e2
    rw [← UInt8.xor_assoc, UInt8.xor_self, UInt8.zero_xor] at e3
    exact hb e3.symm

set_option maxRecDepth 100000 in
set_option maxHeartbeats 4000000 in
theorem same_walk (A0 : Option Addr) (n0 c0 : Nat) (l0 : List UInt8) (A1 : Option Addr) (n1 c1 : Nat) (l1 : List UInt8) (x0 b0 : Int) (hb0 : (Lit.int .u8 b0).wf = true) (w : World) (G : Glob w) (hw2 : 2 ≤ w.heap.size)
    (hl0 : l0.length = n0) (hc0 : n0 ≤ c0) (r0 : Rd w (· < w.heap.size) A0 (bvs l0)) (hl1 : l1.length = n1) (hc1 : n1 ≤ c1) (r1 : Rd w (· < w.heap.size) A1 (bvs l1)) :
    Calls Tryd.prog 3 #[.slice A0 n0 c0, .slice A1 n1 c1, .int .i64 x0, .int .u8 b0] w fun e w' => e = .returned (.bool true) ∧ Below w.heap.size w w' := by
  obtain ⟨bb, hbb⟩ : ∃ b : UInt8, (b.toNat : Int) = b0 := by
    simp [Lit.wf, IntKind.min, IntKind.max, IntKind.signed, IntKind.bits] at hb0
    exact ⟨UInt8.ofNat b0.toNat, by simp; omega⟩
  subst hbb
  clear hb0
  obtain ⟨k0, hk0, hk0a, hk0b, _⟩ := min_at n0 200 (by omega)
  obtain ⟨a, ha⟩ : ∃ l, l0.take k0 = l := ⟨_, rfl⟩
  have ra : Rd w (· < w.heap.size) A0 (bvs a) := by rw [← ha, bvs_take5]; exact r0.take k0
  have la : a.length = k0 := by rw [← ha]; simp; omega
  have ma : k0 ≤ c0 := by omega
  have ia : (k0 : Int) ≤ (c0 : Int) := by omega
  clear ha r0 hl0
  obtain ⟨k1, hk1, hk1a, hk1b, _⟩ := min_at n1 200 (by omega)
  obtain ⟨b, hb⟩ : ∃ l, l1.take k1 = l := ⟨_, rfl⟩
  have rb : Rd w (· < w.heap.size) A1 (bvs b) := by rw [← hb, bvs_take5]; exact r1.take k1
  have lb : b.length = k1 := by rw [← hb]; simp; omega
  have mb : k1 ≤ c1 := by omega
  have ib : (k1 : Int) ≤ (c1 : Int) := by omega
  clear hb r1 hl1
  go_enter Tryd.func3, Tryd.ntmps3
  go_wp2_with fail
  have ctr := shown_calls G hw2
  with_reducible refine Calls.mono ctr ?_
  clear ctr
  rintro e w1 ⟨rfl, x1⟩
  have O1 : OwB (w1.alloc (.cells #[] 5)) w1.heap.size (some ⟨w1.heap.size, 0, none⟩) 0 [] := World.ownsRow_made w1 #[] 0 (Nat.le_refl _) (by simp [maxLen]) rfl
  have X1 : Ext Non w (w1.alloc (.cells #[] 5)) := x1.alloc _
  have hs1 : w1.heap.size ≤ (w1.alloc (.cells #[] 5)).heap.size := by rw [World.size_alloc]; omega
  go_wp2_with (at_builtin; refine wp_ap8 rfl (.tmp 22) (.tmp 23) rfl 0 rfl O1 rfl k0 c0 rfl (ra.extN X1) la (by simp; omega) hs1 ?_; intro A2 c2 w2 o2 x2 hob2)
  rw [List.nil_append] at o2
  have X2 : Ext Non w w2 := X1.trans x2 (fun i hi h => by
    have h : w1.heap.size = i := Option.some.inj h
    have := x1.size
    omega)
  have hw12 : w1.heap.size ≤ w2.heap.size := Nat.le_trans hs1 x2.size
  have hA2 : ∀ i, ob A2 = some i → w.heap.size ≤ i ∧ i < w2.heap.size := fun i hi => by have := o2.lt hi; have := x1.size; omega
  clear X1 O1 hs1 x2 hob2 x1
  have cva : ∀ W, Ext (fun k => ob A2 = some k) w2 W → (convert 22 9 (.slice A0 k0 c0)).run Tryd.prog W = .ok (.string (str a)) W := fun W hW =>
    run_convert_rd W 22 9 5 Tryd.underlying22 Tryd.underlying9 Tryd.underlying5 ((ra.extN X2).ext hW (fun k hk h => by have := hA2 k h; omega)) k0 c0 la
  have cvb : ∀ W, Ext (fun k => ob A2 = some k) w2 W → (convert 22 9 (.slice A1 k1 c1)).run Tryd.prog W = .ok (.string (str b)) W := fun W hW =>
    run_convert_rd W 22 9 5 Tryd.underlying22 Tryd.underlying9 Tryd.underlying5 ((rb.extN X2).ext hW (fun k hk h => by have := hA2 k h; omega)) k1 c1 lb
  refine wp_region_seqP (fun W => Ext (fun k => ob A2 = some k) w2 W) ((0, true) :: (1, true) :: (3, true) :: (4, true) :: (5, true) :: (6, true) :: (7, true) :: (2, false) :: (8, true) :: (9, true) :: (10, true) :: (11, true) :: (12, false) :: (13, true) :: (14, true) :: (15, true) :: (16, true) :: (17, true) :: (18, false) :: (19, false) :: (20, false) :: (21, true) :: []) (by kernel_rfl) (by kernel_rfl) (by kernel_rfl) (Ext.refl _ w2).drew ?_
  iterate 7 (refine wpSeqP_quiet rfl rfl ?_; apply Exists.intro; refine ⟨?_, ?_⟩; (intro W hW; have v1 := cva W hW; have v2 := cvb W hW; go_simp; try with_reducible rfl); (intro K hK; simp only [Act.put, List.setIfInBounds_toArray, List.set_cons_zero, List.set_cons_succ]; refine hK _ ?_; clear hK K))
  clear cva cvb
  refine wpSeqP_call rfl rfl (fun K hK => ?_)
  go_simp
  have ctr := same_calls (w := w2.drew) k0 c0 k1 c1 (ra.extN X2.drew) la (rb.extN X2.drew) lb (by omega)
  with_reducible refine Calls.mono ctr ?_
  clear ctr
  rintro e w3 ⟨rfl, x3⟩
  go_simp
  refine hK _ _ ((Ext.refl _ w2).drew.transN x3) ?_
  clear hK K
  have X3 := X2.drew.transN x3
  have o3 := (OwB.drew o2).extN x3
  generalize (a == b) = eab at *
  iterate 4 (refine wpSeqP_quiet rfl rfl ?_; apply Exists.intro; refine ⟨?_, ?_⟩; (intro W hW; go_simp; try with_reducible rfl); (intro K hK; simp only [Act.put, List.setIfInBounds_toArray, List.set_cons_zero, List.set_cons_succ]; refine hK _ ?_; clear hK K))
  have er : (a == a) = true := beq_self_eq_true a
  refine wpSeqP_call rfl rfl (fun K hK => ?_)
  go_simp
  have ctr := same_calls (w := w3) k0 c0 k0 c2 (ra.extN X3) la o3.rd la (by omega)
  with_reducible refine Calls.mono ctr ?_
  clear ctr
  rintro e w4 ⟨rfl, x4⟩
  go_simp
  refine hK _ _ ((Ext.refl _ w2).drew.transN (x3.transN x4)) ?_
  clear hK K
  have X4 := X3.transN x4
  have o4 := o3.extN x4
  iterate 5 (refine wpSeqP_quiet rfl rfl ?_; apply Exists.intro; refine ⟨?_, ?_⟩; (intro W hW; go_simp; try with_reducible rfl); (intro K hK; simp only [Act.put, List.setIfInBounds_toArray, List.set_cons_zero, List.set_cons_succ]; refine hK _ ?_; clear hK K))
  have x24 := x3.transN x4
  clear o3 X3 x3 x4 o2
  refine wpSeqP_call rfl rfl (fun K hK => ?_)
  go_simp
  refine hK _ _ ((Ext.refl _ w2).drew.transN (x24.alloc _)) ?_
  clear hK K
  have X5 : Ext Non w (w4.alloc (.cells #[.int .u8 0] 5)) := X4.alloc _
  obtain ⟨A3, c3, w6, hrun, o6, x6, hob⟩ := run_ap8 22 (o4.alloc (.cells #[.int .u8 0] 5)) (rd_new1 w4 5 0) 1 k0 1 la rfl (by simp; omega) (by have h : w2.heap.size ≤ w4.heap.size := x24.size; rw [World.size_alloc]; omega)
  refine wpSeqP_call rfl rfl (fun K hK => ?_)
  refine op_app _ _ rfl rfl rfl hrun ?_
  simp only [Act.put, List.setIfInBounds_toArray, List.set_cons_zero, List.set_cons_succ]
  refine hK _ _ (((Ext.refl _ w2).drew.transN (x24.alloc (.cells #[.int .u8 0] 5))).trans' x6) ?_
  clear hK K
  have X6 : Ext Non w w6 := X5.trans x6 (fun i hi h => by have := hA2 i h; omega)
  have la1 : (a ++ [0]).length = k0 + 1 := by rw [List.length_append, la]; rfl
  have er2 : (a == a ++ [0]) = false := snoc_ne a 0
  refine wpSeqP_call rfl rfl (fun K hK => ?_)
  go_simp
  have ctr := same_calls (w := w6) k0 c0 (k0 + 1) c3 (ra.extN X6) la o6.rd la1 (by omega)
  with_reducible refine Calls.mono ctr ?_
  clear ctr
  rintro e w7 ⟨rfl, x7⟩
  go_simp
  refine hK _ _ ((((Ext.refl _ w2).drew.transN (x24.alloc (.cells #[.int .u8 0] 5))).trans' x6).transN x7) ?_
  clear hK K
  have X7 := X6.transN x7
  clear hrun x6 x7 X6 X5 X4 x24 o4 o6 hA2 hob hw12 X2
  iterate 1 (refine wpSeqP_quiet rfl rfl ?_; apply Exists.intro; refine ⟨?_, ?_⟩; (intro W hW; go_simp; try with_reducible rfl); (intro K hK; simp only [Act.put, List.setIfInBounds_toArray, List.set_cons_zero, List.set_cons_succ]; refine hK _ ?_; clear hK K))
  refine wpSeqP_end ?_
  clear er er2 la1
  by_cases hk : k0 = 0
  · have hk' : (k0 : Int) = 0 := by omega
    clear hk
    go_wp2_with fail
    go_ret
    exact ⟨rfl, X7.belowN⟩
  · have hk' : ¬ (k0 : Int) = 0 := by omega
    have O1 : OwB (w7.alloc (.cells #[] 5)) w7.heap.size (some ⟨w7.heap.size, 0, none⟩) 0 [] := World.ownsRow_made w7 #[] 0 (Nat.le_refl _) (by simp [maxLen]) rfl
    have X8 : Ext Non w (w7.alloc (.cells #[] 5)) := X7.alloc _
    have hs7 : w7.heap.size ≤ (w7.alloc (.cells #[] 5)).heap.size := by rw [World.size_alloc]; omega
    have hsw := X7.size
    go_wp2_with (at_builtin; refine wp_ap8 rfl (.tmp 51) (.tmp 52) rfl 0 rfl O1 rfl k0 c0 rfl (ra.extN X8) la (by simp; omega) hs7 ?_; intro A4 c4 w8 o8 x8 hob8)
    rw [List.nil_append] at o8
    have X9 : Ext Non w w8 := X8.trans x8 (fun i hi h => by
      have h : w7.heap.size = i := Option.some.inj h
      omega)
    have hA4 : ∀ i, ob A4 = some i → w.heap.size ≤ i := fun i hi => by have := o8.lt hi; omega
    clear X8 O1 hs7 x8 hob8 X7
    obtain ⟨m, hm, hma⟩ := and16_at x0
    obtain ⟨i, hi⟩ : ∃ i, m % k0 = i := ⟨_, rfl⟩
    have hik : i < k0 := by rw [← hi]; exact Nat.mod_lt _ (by omega)
    have em1 : (m : Int).tmod (k0 : Int) = (i : Int) := by rw [← hi]; rfl
    have em2 : (m : Int) % (k0 : Int) = (i : Int) := by rw [← hi]; rfl
    have wi : IntKind.i64.wrap (i : Int) = (i : Int) := by rw [IntKind.wrap_i64]; omega
    have wm : IntKind.i64.wrap (m : Int) = (m : Int) := by rw [IntKind.wrap_i64]; omega
    have ii : (i : Int) < (k0 : Int) := by omega
    obtain ⟨x, hx⟩ : ∃ x, a.getD i 0 = x := ⟨_, rfl⟩
    obtain ⟨y, hy⟩ : ∃ y, x ^^^ bb = y := ⟨_, rfl⟩
    have ex : bits .xor .u8 (x.toNat : Int) (bb.toNat : Int) = (y.toNat : Int) := by rw [u8_xor, hy]
    have gx : (bvs a)[i]? = some (.int .u8 (x.toNat : Int)) := by rw [← hx]; simp [bvs, bv, List.getD, show i < a.length from by omega]
    obtain ⟨hA, cx⟩ := o8.rd.ix gx
    obtain ⟨_, ⟨u, hc⟩, hf, o9, x9⟩ := o8.set_ (j := i) (by omega) y _ rfl
    have hte := turned_eq a (i := i) (by omega) x bb hx
    rw [hy] at hte
    have l9 : (a.set i y).length = k0 := by simpa using la
    have X10 := X9.trans x9 (fun i hi h => by have := hA4 i h; omega)
    have HO := Lib.hid o9
    have HX := Lib.hid X10
    have HTE := Lib.hid hte
    have HL := Lib.hid l9
    clear hi hx hy gx hc o9 x9 X10 hte l9 X9 o8
    go_wp2_with fail
    refine wp_region_tail 17 (by kernel_rfl) (by kernel_rfl) ?_
    simp only [List.take_succ_cons, List.take_zero, List.drop_succ_cons, List.drop_zero]
    repeat still_step
    refine wpStill_nil ?_
    go_wp2_with fail
    have o10 := HO.out.drew
    have X10 := HX.out.drew
    have h2 := HTE.out
    have ctr := same_calls k0 c0 k0 c4 (ra.extN X10) la o10.rd HL.out (by omega)
    with_reducible refine Calls.mono ctr ?_
    clear ctr
    rintro e w9 ⟨rfl, x9⟩
    have X11 := X10.transN x9
    clear o10 X10 HO HX x9
    rw [h2]
    clear h2
    go_wp2_with fail
    go_ret
    exact ⟨by simp, X11.belowN⟩
end Go.Proofs.YtgbaijmpfdhoeaaDoor
