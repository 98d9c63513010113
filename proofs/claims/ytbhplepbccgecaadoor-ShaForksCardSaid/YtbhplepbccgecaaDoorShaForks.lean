/- The law ShaForks: what two streams have in common does not bind them; for any three rows of bytes. -/
import Derived.Test.YtbhplepbccgecaaDoorSha03
import Derived.Test.YtbhplepbccgecaaDoorSeqT
namespace Go.Proofs.YtbhplepbccgecaaDoor
open Go.RowKit

set_option maxRecDepth 100000 in
set_option maxHeartbeats 4000000 in
theorem forks_walk (A0 : Option Addr) (n0 c0 : Nat) (l0 : List UInt8) (A1 : Option Addr) (n1 c1 : Nat) (l1 : List UInt8) (A2 : Option Addr) (n2 c2 : Nat) (l2 : List UInt8) (w : World) (G : Glob w) (hw2 : 2 ≤ w.heap.size)
    (hl0 : l0.length = n0) (hc0 : n0 ≤ c0) (r0 : Rd w (· < w.heap.size) A0 (bvs l0)) (hl1 : l1.length = n1) (hc1 : n1 ≤ c1) (r1 : Rd w (· < w.heap.size) A1 (bvs l1)) (hl2 : l2.length = n2) (hc2 : n2 ≤ c2) (r2 : Rd w (· < w.heap.size) A2 (bvs l2)) :
    Calls Tryd.prog 8 #[.slice A0 n0 c0, .slice A1 n1 c1, .slice A2 n2 c2] w fun e w' => e = .returned (.bool true) ∧ Below w.heap.size w w' := by
  obtain ⟨k0, hk0, hk0a, hk0b, _⟩ := min_at n0 300 (by omega)
  obtain ⟨a, ha⟩ : ∃ l, l0.take k0 = l := ⟨_, rfl⟩
  have ra : Rd w (· < w.heap.size) A0 (bvs a) := by rw [← ha, bvs_take5]; exact r0.take k0
  have la : a.length = k0 := by rw [← ha]; simp; omega
  have ma : k0 ≤ c0 := by omega
  have ia : (k0 : Int) ≤ (c0 : Int) := by omega
  clear ha r0 hl0
  obtain ⟨k1, hk1, hk1a, hk1b, _⟩ := min_at n1 300 (by omega)
  obtain ⟨b, hb⟩ : ∃ l, l1.take k1 = l := ⟨_, rfl⟩
  have rb : Rd w (· < w.heap.size) A1 (bvs b) := by rw [← hb, bvs_take5]; exact r1.take k1
  have lb : b.length = k1 := by rw [← hb]; simp; omega
  have mb : k1 ≤ c1 := by omega
  have ib : (k1 : Int) ≤ (c1 : Int) := by omega
  clear hb r1 hl1
  obtain ⟨k2, hk2, hk2a, hk2b, _⟩ := min_at n2 300 (by omega)
  obtain ⟨c, hc⟩ : ∃ l, l2.take k2 = l := ⟨_, rfl⟩
  have rc : Rd w (· < w.heap.size) A2 (bvs c) := by rw [← hc, bvs_take5]; exact r2.take k2
  have lc : c.length = k2 := by rw [← hc]; simp; omega
  have mc : k2 ≤ c2 := by omega
  have ic : (k2 : Int) ≤ (c2 : Int) := by omega
  clear hc r2 hl2
  have z1 := strm0_ne
  have z2 := zrow32_ne
  go_enter Tryd.func8, Tryd.ntmps8
  go_wp2_with fail
  have ctr := shown_calls G hw2
  with_reducible refine Calls.mono ctr ?_
  clear ctr
  rintro e w1 ⟨rfl, x1⟩
  have S1 := strm_new w1
  have X1 : Ext Non w (w1.alloc (.cells strm0 34)) := x1.alloc _
  have hp1 : w.heap.size ≤ w1.heap.size := x1.size
  go_wp2_with fail
  have nD : ∀ g, w.heap.size ≤ g → ¬ (g < w.heap.size) := fun g h => by omega
  have ctr := write_calls S1 (G.extN X1) (by omega) c0 k0 (ra.extN X1) la ma (nD _ hp1) (by simp; omega)
  with_reducible refine Calls.mono ctr ?_
  clear ctr
  rintro e w2 ⟨⟨u1, rfl⟩, S2, x2⟩
  have X2 : Ext Non w w2 := X1.trans x2 (fun i hi h => by have h : i = w1.heap.size := h; omega)
  rw [List.nil_append] at S2
  have hp2 := S2.lt
  obtain ⟨cs, cn, cl, cst, T2⟩ := S2.strm.copy
  have S3 := S2.strm.extN ((Ext.refl Non w2).alloc (.cells cs 34))
  have X3 : Ext Non w (w2.alloc (.cells cs 34)) := X2.alloc _
  have hq2 : w.heap.size ≤ w2.heap.size := X2.size
  clear X1 S1 x1 x2 S2
  go_wp2_with fail
  clear cl cst cn
  have ctr := write_calls S3 (G.extN X3) (by omega) c1 k1 (rb.extN X3) lb mb (nD _ hp1) (by omega)
  with_reducible refine Calls.mono ctr ?_
  clear ctr
  rintro e w3 ⟨⟨u2, rfl⟩, S4, x3⟩
  have X4 : Ext Non w w3 := X3.trans x3 (fun i hi h => by have h : i = w1.heap.size := h; omega)
  have T3 := T2.ext x3 (fun h => by have h : w2.heap.size = w1.heap.size := h; omega)
  clear X3 x3 T2 S3
  go_wp2_with fail
  have ctr := ssum_calls S4.strm (G.extN X4) (by have := X4.size; omega) (by rw [List.length_append]; omega)
  with_reducible refine Calls.mono ctr ?_
  clear ctr
  rintro e w4 ⟨rfl, x4⟩
  have X5 : Ext Non w (w4.alloc (.cells (ba (sha (a ++ b))) 25)) := (X4.transN x4).alloc _
  have y5 : Ext Non w3 (w4.alloc (.cells (ba (sha (a ++ b))) 25)) := x4.alloc _
  have S5 := S4.extN y5
  have T5 := T3.extN y5
  have B5 := Blk.new w4 25 (ba (sha (a ++ b)))
  have hp4 : w1.heap.size < w4.heap.size := Nat.lt_of_lt_of_le S4.lt x4.size
  have hq4 : w2.heap.size < w4.heap.size := Nat.lt_of_lt_of_le T3.lt x4.size
  clear X4 S4 T3 x4 y5
  go_wp2_with fail
  have ctr := write_calls T5 (G.extN X5) (by omega) c2 k2 (rc.extN X5) lc mc (nD _ hq2) (by omega)
  with_reducible refine Calls.mono ctr ?_
  clear ctr
  rintro e w5 ⟨⟨u3, rfl⟩, T6, x5⟩
  have X6 : Ext Non w w5 := X5.trans x5 (fun i hi h => by have h : i = w2.heap.size := h; omega)
  have S6 := S5.ext x5 (fun h => by have h : w1.heap.size = w2.heap.size := h; omega)
  have B6 := B5.ext x5 (fun h => by have h : w4.heap.size = w2.heap.size := h; omega)
  clear X5 x5 S5 B5 T5
  go_wp2_with fail
  have ctr := ssum_calls T6.strm (G.extN X6) (by have := X6.size; omega) (by rw [List.length_append]; omega)
  with_reducible refine Calls.mono ctr ?_
  clear ctr
  rintro e w6 ⟨rfl, x6⟩
  have X7 : Ext Non w (w6.alloc (.cells (ba (sha (a ++ c))) 25)) := (X6.transN x6).alloc _
  have y7 : Ext Non w5 (w6.alloc (.cells (ba (sha (a ++ c))) 25)) := x6.alloc _
  have S7 := S6.extN y7
  have T7 := T6.extN y7
  have B7 := B6.extN_ y7
  have C7 := Blk.new w6 25 (ba (sha (a ++ c)))
  have hp6 : w1.heap.size < w6.heap.size := Nat.lt_of_lt_of_le S6.lt x6.size
  have hq6 : w2.heap.size < w6.heap.size := Nat.lt_of_lt_of_le T6.lt x6.size
  have hb6 : w4.heap.size < w6.heap.size := Nat.lt_of_lt_of_le B6.lt x6.size
  clear X6 S6 T6 B6 x6 y7
  go_wp2_with fail
  have ctr := write_calls S7.strm (G.extN X7) (by omega) c2 k2 (rc.extN X7) lc mc (nD _ hp1) (by rw [List.length_append]; omega)
  with_reducible refine Calls.mono ctr ?_
  clear ctr
  rintro e w7 ⟨⟨u4, rfl⟩, S8, x7⟩
  have X8 : Ext Non w w7 := X7.trans x7 (fun i hi h => by have h : i = w1.heap.size := h; omega)
  have T8 := T7.ext x7 (fun h => by have h : w2.heap.size = w1.heap.size := h; omega)
  have B8 := B7.ext x7 (fun h => by have h : w4.heap.size = w1.heap.size := h; omega)
  have C8 := C7.ext x7 (fun h => by have h : w6.heap.size = w1.heap.size := h; omega)
  clear X7 x7 S7 T7 B7 C7
  go_wp2_with fail
  have ctr := write_calls T8.strm (G.extN X8) (by omega) c1 k1 (rb.extN X8) lb mb (nD _ hq2) (by rw [List.length_append]; omega)
  with_reducible refine Calls.mono ctr ?_
  clear ctr
  rintro e w8 ⟨⟨u5, rfl⟩, T9, x8⟩
  have X9 : Ext Non w w8 := X8.trans x8 (fun i hi h => by have h : i = w2.heap.size := h; omega)
  have S9 := S8.ext x8 (fun h => by have h : w1.heap.size = w2.heap.size := h; omega)
  have B9 := B8.ext x8 (fun h => by have h : w4.heap.size = w2.heap.size := h; omega)
  have C9 := C8.ext x8 (fun h => by have h : w6.heap.size = w2.heap.size := h; omega)
  clear X8 x8 S8 T8 B8 C8
  go_wp2_with fail
  have pa : Rd w (· < w.heap.size) A0 (bvs a) ∧ a.length ≤ c0 := ⟨ra, by rw [la]; exact ma⟩
  have pb : Rd w (· < w.heap.size) A1 (bvs b) ∧ b.length ≤ c1 := ⟨rb, by rw [lb]; exact mb⟩
  have pc : Rd w (· < w.heap.size) A2 (bvs c) ∧ c.length ≤ c2 := ⟨rc, by rw [lc]; exact mc⟩
  have pab : ∀ q ∈ ([⟨A0, c0, a⟩, ⟨A1, c1, b⟩] : List Part), Rd w (· < w.heap.size) q.a (bvs q.l) ∧ q.l.length ≤ q.c := fun q hq => by
    simp only [List.mem_cons, List.not_mem_nil, or_false] at hq
    rcases hq with rfl | rfl <;> assumption
  have pac : ∀ q ∈ ([⟨A0, c0, a⟩, ⟨A2, c2, c⟩] : List Part), Rd w (· < w.heap.size) q.a (bvs q.l) ∧ q.l.length ≤ q.c := fun q hq => by
    simp only [List.mem_cons, List.not_mem_nil, or_false] at hq
    rcases hq with rfl | rfl <;> assumption
  have pabc : ∀ q ∈ ([⟨A0, c0, a⟩, ⟨A1, c1, b⟩, ⟨A2, c2, c⟩] : List Part), Rd w (· < w.heap.size) q.a (bvs q.l) ∧ q.l.length ≤ q.c := fun q hq => by
    simp only [List.mem_cons, List.not_mem_nil, or_false] at hq
    rcases hq with rfl | rfl | rfl <;> assumption
  have pacb : ∀ q ∈ ([⟨A0, c0, a⟩, ⟨A2, c2, c⟩, ⟨A1, c1, b⟩] : List Part), Rd w (· < w.heap.size) q.a (bvs q.l) ∧ q.l.length ≤ q.c := fun q hq => by
    simp only [List.mem_cons, List.not_mem_nil, or_false] at hq
    rcases hq with rfl | rfl | rfl <;> assumption
  have eab : allOf [⟨A0, c0, a⟩, ⟨A1, c1, b⟩] = a ++ b := by simp [allOf]
  have eac : allOf [⟨A0, c0, a⟩, ⟨A2, c2, c⟩] = a ++ c := by simp [allOf]
  have eabc : allOf [⟨A0, c0, a⟩, ⟨A1, c1, b⟩, ⟨A2, c2, c⟩] = a ++ b ++ c := by simp [allOf]
  have eacb : allOf [⟨A0, c0, a⟩, ⟨A2, c2, c⟩, ⟨A1, c1, b⟩] = a ++ c ++ b := by simp [allOf]
  have EAB := Lib.hid eab
  have EAC := Lib.hid eac
  have EABC := Lib.hid eabc
  have EACB := Lib.hid eacb
  have va : (Part.mk A0 c0 a).val = .slice A0 k0 c0 := by rw [Part.val, la]
  have vb : (Part.mk A1 c1 b).val = .slice A1 k1 c1 := by rw [Part.val, lb]
  have vc : (Part.mk A2 c2 c).val = .slice A2 k2 c2 := by rw [Part.val, lc]
  have VAB : Hid (([⟨A0, c0, a⟩, ⟨A1, c1, b⟩].map Part.val).toArray = #[.slice A0 k0 c0, .slice A1 k1 c1]) := by show _ = _; rw [List.map_cons, List.map_cons, List.map_nil, va, vb]
  have VAC : Hid (([⟨A0, c0, a⟩, ⟨A2, c2, c⟩].map Part.val).toArray = #[.slice A0 k0 c0, .slice A2 k2 c2]) := by show _ = _; rw [List.map_cons, List.map_cons, List.map_nil, va, vc]
  have VABC : Hid (([⟨A0, c0, a⟩, ⟨A1, c1, b⟩, ⟨A2, c2, c⟩].map Part.val).toArray = #[.slice A0 k0 c0, .slice A1 k1 c1, .slice A2 k2 c2]) := by show _ = _; rw [List.map_cons, List.map_cons, List.map_cons, List.map_nil, va, vb, vc]
  have VACB : Hid (([⟨A0, c0, a⟩, ⟨A2, c2, c⟩, ⟨A1, c1, b⟩].map Part.val).toArray = #[.slice A0 k0 c0, .slice A2 k2 c2, .slice A1 k1 c1]) := by show _ = _; rw [List.map_cons, List.map_cons, List.map_cons, List.map_nil, va, vc, vb]
  have gab : (a ++ b).length ≤ 562949953421312 := by rw [List.length_append]; omega
  have gac : (a ++ c).length ≤ 562949953421312 := by rw [List.length_append]; omega
  have gabc : (a ++ b ++ c).length ≤ 562949953421312 := by rw [List.length_append, List.length_append]; omega
  have gacb : (a ++ c ++ b).length ≤ 562949953421312 := by rw [List.length_append, List.length_append]; omega
  clear eab eac eabc eacb va vb vc pa pb pc
  refine wp_region_tree Non (.q 0 (.q 1 (.q 2 (.q 3 (.q 4 (.c 5 (.c 6 (.q 7 (.q 8 (.q 9 (.q 10 (.q 11 (.q 12 (.c 13 (.c 14 (.q 15 (.q 16 (.q 17 (.q 19 (.q 20 (.q 21 (.b 18 (.c 22 (.c 23 (.q 24 (.q 25 (.q 26 (.q 28 (.q 29 (.q 30 (.b 27 (.c 31 (.c 32 (.q 33 (.q 34 (.q 35 .stop))))) 31 (.c 27 (.c 32 (.q 33 (.q 34 (.q 35 .stop)))))))))))))) 22 (.c 18 (.c 23 (.q 24 (.q 25 (.q 26 (.q 28 (.q 29 (.q 30 (.b 27 (.c 31 (.c 32 (.q 33 (.q 34 (.q 35 .stop))))) 31 (.c 27 (.c 32 (.q 33 (.q 34 (.q 35 .stop)))))))))))))))))))))))))))))))))))) (by kernel_rfl) (by kernel_rfl) (by kernel_rfl) ?_
  have X10 := X9.drew
  have S10 : Strm1 w8.drew _ _ := S9
  have T10 : Strm1 w8.drew _ _ := T9
  have B10 := B9.drew
  have C10 := C9.drew
  generalize w8.drew = z at X10 S10 T10 B10 C10 ⊢
  clear X9 S9 T9 B9 C9
  have lw4 : ∀ W, Ext Non z W → (bigLoad 25 (.pointer (some ⟨w4.heap.size, 0, none⟩))).run Tryd.prog W = .ok (.agg (ba (sha (a ++ b)))) W := fun W h => load_sha (B10.extN_ h)
  iterate 5 (refine wpTree_quiet rfl rfl ?_; apply Exists.intro; refine ⟨?_, ?_⟩; (intro W hW; have q1 := lw4 W hW; go_simp; try with_reducible rfl); (intro K hK; simp only [Act.put, List.setIfInBounds_toArray, List.set_cons_zero, List.set_cons_succ]; refine hK _ ?_; clear hK K))
  clear lw4
  refine wpTree_call rfl rfl (fun K hK => ?_)
  go_simp
  refine hK _ _ ((Ext.refl Non z).alloc _) ?_
  clear hK K
  refine wpTree_call rfl rfl (fun K hK => ?_)
  go_simp
  have ctr := sumN_calls X10 G hw2 [⟨A0, c0, a⟩, ⟨A1, c1, b⟩] pab 2 rfl (by rw [EAB.out]; exact gab) (by decide) #[.slice A0 k0 c0, .slice A1 k1 c1] VAB.out (Ext.refl Non _) (a ++ b) EAB.out
  with_reducible refine Calls.mono ctr ?_
  clear ctr
  rintro e z1 ⟨rfl, y1⟩
  go_simp
  refine hK _ _ y1 ?_
  clear hK K
  have Y1 : Ext Non z z1 := ((Ext.refl Non z).alloc _).transN y1
  clear y1
  have lw6 : ∀ W, Ext Non z1 W → (bigLoad 25 (.pointer (some ⟨w6.heap.size, 0, none⟩))).run Tryd.prog W = .ok (.agg (ba (sha (a ++ c)))) W := fun W h => load_sha (C10.extN_ (Y1.transN h))
  iterate 6 (refine wpTree_quiet rfl rfl ?_; apply Exists.intro; refine ⟨?_, ?_⟩; (intro W hW; have q1 := lw6 W hW; go_simp; try with_reducible rfl); (intro K hK; simp only [Act.put, List.setIfInBounds_toArray, List.set_cons_zero, List.set_cons_succ]; refine hK _ ?_; clear hK K))
  clear lw6
  refine wpTree_call rfl rfl (fun K hK => ?_)
  go_simp
  refine hK _ _ ((Ext.refl Non z1).alloc _) ?_
  clear hK K
  refine wpTree_call rfl rfl (fun K hK => ?_)
  go_simp
  have ctr := sumN_calls (X10.transN Y1) G hw2 [⟨A0, c0, a⟩, ⟨A2, c2, c⟩] pac 2 rfl (by rw [EAC.out]; exact gac) (by decide) #[.slice A0 k0 c0, .slice A2 k2 c2] VAC.out (Ext.refl Non _) (a ++ c) EAC.out
  with_reducible refine Calls.mono ctr ?_
  clear ctr
  rintro e z2 ⟨rfl, y2⟩
  go_simp
  refine hK _ _ y2 ?_
  clear hK K
  have Y2 : Ext Non z z2 := (Y1.alloc _).transN y2
  clear y2 Y1
  iterate 6 (refine wpTree_quiet rfl rfl ?_; apply Exists.intro; refine ⟨?_, ?_⟩; (intro W hW; go_simp; try with_reducible rfl); (intro K hK; simp only [Act.put, List.setIfInBounds_toArray, List.set_cons_zero, List.set_cons_succ]; refine hK _ ?_; clear hK K))
  have X12 := X10.transN Y2
  have hw12 := X12.size
  refine wpTree_both rfl rfl rfl rfl ?_ ?_
  case' refine_1 =>
    intro K hK
    go_simp
    have ctr := ssum_calls (S10.extN Y2).strm (G.extN X12) (by omega) gabc
    with_reducible refine Calls.mono ctr ?_
    clear ctr
    rintro e z3 ⟨rfl, y3⟩
    go_simp
    refine hK _ _ y3 ?_
    clear hK K
    refine wpTree_call rfl rfl (fun K hK => ?_)
    go_simp
    refine hK _ _ ((Ext.refl Non z3).alloc _) ?_
    clear hK K
    have ctr := sumN_calls (X12.transN y3) G hw2 [⟨A0, c0, a⟩, ⟨A1, c1, b⟩, ⟨A2, c2, c⟩] pabc 3 rfl (by rw [EABC.out]; exact gabc) (by decide) #[.slice A0 k0 c0, .slice A1 k1 c1, .slice A2 k2 c2] VABC.out (Ext.refl Non _) (a ++ b ++ c) EABC.out
    have Y3 : Ext Non z2 (z3.alloc (.cells #[.slice A0 k0 c0, .slice A1 k1 c1, .slice A2 k2 c2] 24)) := y3.alloc _
    generalize z3.alloc (.cells #[.slice A0 k0 c0, .slice A1 k1 c1, .slice A2 k2 c2] 24) = v3 at ctr Y3 ⊢
    generalize z3.heap.size = g at ctr ⊢
    clear y3
  case' refine_2 =>
    intro K hK
    go_simp
    refine hK _ _ ((Ext.refl Non z2).alloc _) ?_
    clear hK K
    refine wpTree_call rfl rfl (fun K hK => ?_)
    go_simp
    have ctr := ssum_calls (S10.extN (Y2.alloc (.cells #[.slice A0 k0 c0, .slice A1 k1 c1, .slice A2 k2 c2] 24))).strm (G.extN (X12.alloc _)) (by rw [World.size_alloc]; omega) gabc
    with_reducible refine Calls.mono ctr ?_
    clear ctr
    rintro e v3 ⟨rfl, y3⟩
    go_simp
    refine hK _ _ y3 ?_
    clear hK K
    have ctr := sumN_calls X12 G hw2 [⟨A0, c0, a⟩, ⟨A1, c1, b⟩, ⟨A2, c2, c⟩] pabc 3 rfl (by rw [EABC.out]; exact gabc) (by decide) #[.slice A0 k0 c0, .slice A1 k1 c1, .slice A2 k2 c2] VABC.out y3 (a ++ b ++ c) EABC.out
    have Y3 : Ext Non z2 v3 := ((Ext.refl Non z2).alloc _).transN y3
    generalize z2.heap.size = g at ctr ⊢
    clear y3
  all_goals
    refine wpTree_call rfl rfl (fun K hK => ?_)
    go_simp
    with_reducible refine Calls.mono ctr ?_
    clear ctr
    rintro e z4 ⟨rfl, y4⟩
    go_simp
    refine hK _ _ y4 ?_
    clear hK K
    have Y4 : Ext Non z z4 := (Y2.transN Y3).transN y4
    clear Y3 y4 Y2
    iterate 6 (refine wpTree_quiet rfl rfl ?_; apply Exists.intro; refine ⟨?_, ?_⟩; (intro W hW; go_simp; try with_reducible rfl); (intro K hK; simp only [Act.put, List.setIfInBounds_toArray, List.set_cons_zero, List.set_cons_succ]; refine hK _ ?_; clear hK K))
    have X14 := X10.transN Y4
    have hw14 := X14.size
    refine wpTree_both rfl rfl rfl rfl ?_ ?_
    case' refine_1 =>
      intro K hK
      go_simp
      have ctr := ssum_calls (T10.extN Y4).strm (G.extN X14) (by omega) gacb
      with_reducible refine Calls.mono ctr ?_
      clear ctr
      rintro e z5 ⟨rfl, y5⟩
      go_simp
      refine hK _ _ y5 ?_
      clear hK K
      refine wpTree_call rfl rfl (fun K hK => ?_)
      go_simp
      refine hK _ _ ((Ext.refl Non z5).alloc _) ?_
      clear hK K
      have ctr := sumN_calls (X14.transN y5) G hw2 [⟨A0, c0, a⟩, ⟨A2, c2, c⟩, ⟨A1, c1, b⟩] pacb 3 rfl (by rw [EACB.out]; exact gacb) (by decide) #[.slice A0 k0 c0, .slice A2 k2 c2, .slice A1 k1 c1] VACB.out (Ext.refl Non _) (a ++ c ++ b) EACB.out
      have Y5 : Ext Non z4 (z5.alloc (.cells #[.slice A0 k0 c0, .slice A2 k2 c2, .slice A1 k1 c1] 24)) := y5.alloc _
      generalize z5.alloc (.cells #[.slice A0 k0 c0, .slice A2 k2 c2, .slice A1 k1 c1] 24) = v5 at ctr Y5 ⊢
      generalize z5.heap.size = g5 at ctr ⊢
      clear y5
    case' refine_2 =>
      intro K hK
      go_simp
      refine hK _ _ ((Ext.refl Non z4).alloc _) ?_
      clear hK K
      refine wpTree_call rfl rfl (fun K hK => ?_)
      go_simp
      have ctr := ssum_calls (T10.extN (Y4.alloc (.cells #[.slice A0 k0 c0, .slice A2 k2 c2, .slice A1 k1 c1] 24))).strm (G.extN (X14.alloc _)) (by rw [World.size_alloc]; omega) gacb
      with_reducible refine Calls.mono ctr ?_
      clear ctr
      rintro e v5 ⟨rfl, y5⟩
      go_simp
      refine hK _ _ y5 ?_
      clear hK K
      have ctr := sumN_calls X14 G hw2 [⟨A0, c0, a⟩, ⟨A2, c2, c⟩, ⟨A1, c1, b⟩] pacb 3 rfl (by rw [EACB.out]; exact gacb) (by decide) #[.slice A0 k0 c0, .slice A2 k2 c2, .slice A1 k1 c1] VACB.out y5 (a ++ c ++ b) EACB.out
      have Y5 : Ext Non z4 v5 := ((Ext.refl Non z4).alloc _).transN y5
      generalize z4.heap.size = g5 at ctr ⊢
      clear y5
    all_goals
      refine wpTree_call rfl rfl (fun K hK => ?_)
      go_simp
      with_reducible refine Calls.mono ctr ?_
      clear ctr
      rintro e z6 ⟨rfl, y6⟩
      go_simp
      refine hK _ _ y6 ?_
      clear hK K
      have Y6 : Ext Non z z6 := (Y4.transN Y5).transN y6
      clear Y4 Y5 y6
      iterate 3 (refine wpTree_quiet rfl rfl ?_; apply Exists.intro; refine ⟨?_, ?_⟩; (intro W hW; go_simp; try with_reducible rfl); (intro K hK; simp only [Act.put, List.setIfInBounds_toArray, List.set_cons_zero, List.set_cons_succ]; refine hK _ ?_; clear hK K))
      refine wpTree_end ?_
      go_wp2
      go_ret
      exact ⟨rfl, (X10.transN Y6).belowN⟩
end Go.Proofs.YtbhplepbccgecaaDoor
