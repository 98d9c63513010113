/- The law HmacChain: keys of keys are keys; for any array, any two texts, any row of bytes. -/
import Derived.Test.YtgbaijmpfdhoeaaDoorHmN
namespace Go.Proofs.YtgbaijmpfdhoeaaDoor
open Go.RowKit

set_option maxRecDepth 100000 in
set_option maxHeartbeats 4000000 in
theorem chain_walk (w : World) (G : Glob w) (hw2 : 2 ≤ w.heap.size) (kk : List UInt8) (hkk : kk.length = 32) (lb0 : List UInt8) (hlb0 : lb0.length ≤ maxLen) (lb1 : List UInt8) (hlb1 : lb1.length ≤ maxLen)
    (A0 : Option Addr) (np cp : Nat) (lp : List UInt8) (hlp : lp.length = np) (hcp : np ≤ cp) (rp : Rd w (· < w.heap.size) A0 (bvs lp)) :
    Calls Tryd.prog 10 #[.agg (ba kk), .string (str lb0), .string (str lb1), .slice A0 np cp] w fun e w' => e = .returned (.bool true) ∧ Below w.heap.size w w' := by
  obtain ⟨n0, hn0⟩ : ∃ n, lb0.length = n := ⟨_, rfl⟩
  obtain ⟨k0, hk0, hk0a, hk0b, _⟩ := min_at n0 50 (by omega)
  obtain ⟨a, ha⟩ : ∃ l, lb0.take k0 = l := ⟨_, rfl⟩
  have la : a.length = k0 := by rw [← ha]; simp; omega
  have hz0 : (str lb0).size = n0 := by rw [str_size, hn0]
  have hx0 : (str lb0).extract 0 k0 = str a := by rw [str_extract, List.drop_zero, ha]
  have ia : (k0 : Int) ≤ (n0 : Int) := by omega
  clear ha hlb0 hn0
  obtain ⟨n1, hn1⟩ : ∃ n, lb1.length = n := ⟨_, rfl⟩
  obtain ⟨k1, hk1, hk1a, hk1b, _⟩ := min_at n1 50 (by omega)
  obtain ⟨b, hb⟩ : ∃ l, lb1.take k1 = l := ⟨_, rfl⟩
  have lb : b.length = k1 := by rw [← hb]; simp; omega
  have hz1 : (str lb1).size = n1 := by rw [str_size, hn1]
  have hx1 : (str lb1).extract 0 k1 = str b := by rw [str_extract, List.drop_zero, hb]
  have ib : (k1 : Int) ≤ (n1 : Int) := by omega
  clear hb hlb1 hn1
  obtain ⟨k2, hk2, hk2a, hk2b, _⟩ := min_at np 100 (by omega)
  obtain ⟨p, hp⟩ : ∃ l, lp.take k2 = l := ⟨_, rfl⟩
  have rP : Rd w (· < w.heap.size) A0 (bvs p) := by rw [← hp, bvs_take5]; exact rp.take k2
  have lP : p.length = k2 := by rw [← hp]; simp; omega
  have mp : k2 ≤ cp := by omega
  have ip : (k2 : Int) ≤ (cp : Int) := by omega
  clear hp rp hlp
  have n1 := row_ne (n := 31) (a := ba kk) (by rw [ba_size, hkk])
  have z2 := zrow32_ne
  have z3 := zrow16_ne
  have sK := fun W g => run_arr_all (P := Tryd.prog) W Tryd.underlying29 s8 g 0 (by decide)
  have X0 : Ext Non w (w.alloc (.cells (ba kk) 29)) := (Ext.refl Non w).alloc _
  have K0 := Blk.new w 29 (ba kk)
  go_enter Tryd.func10, Tryd.ntmps10
  go_wp2_with fail
  have ctr := shown_calls (G.extN X0) (by rw [World.size_alloc]; omega)
  with_reducible refine Calls.mono ctr ?_
  clear ctr
  rintro e w1 ⟨rfl, x1⟩
  have K1 := K0.extN_ x1
  have X1 := X0.transN x1
  have lk := K1.big_load Tryd.underlying29 rfl (key_info _ (by rw [ba_size, hkk]))
  clear x1 X0 K0
  obtain ⟨pA, V, E⟩ := one_part rP lP mp
  have hps2 : ∀ q ∈ ([⟨A0, cp, p⟩] : List Part), q.l.length ≤ 1000 := fun q hq => by
    simp only [List.mem_cons, List.not_mem_nil, or_false] at hq
    subst hq
    show p.length ≤ 1000
    omega
  have hpall : (allOf [⟨A0, cp, p⟩]).length ≤ 562949953421000 := by rw [E.out]; omega
  go_wp2_with fail
  clear hx0 hz0 hx1 hz1 lk
  have ctr := derN_calls X1 G hw2 [⟨A0, cp, p⟩] pA 1 rfl (by decide) #[.slice A0 k2 cp] V.out (Ext.refl Non _) hps2 kk hkk a (by omega) _ rfl
  with_reducible refine Calls.mono ctr ?_
  clear ctr
  rintro e w3 ⟨rfl, x3⟩
  generalize dmsg a (List.map Part.l [(⟨A0, cp, p⟩ : Part)]) = d1 at *
  have X4 : Ext Non w (w3.alloc (.cells (ba (hm kk d1)) 29)) := ((X1.alloc (.cells #[.slice A0 k2 cp] 22)).transN x3).alloc _
  have B4 := Blk.new w3 29 (ba (hm kk d1))
  have hs4 : (w3.alloc (.cells (ba (hm kk d1)) 29)).heap.size = w3.heap.size + 1 := World.size_alloc _ _
  have HS4 := Lib.hid hs4
  clear x3 X1 K1 hs4
  go_wp2_with fail
  have hs4 := HS4.out
  have B5 := B4.alloc (.cells (zrow 32) 29)
  have Y5 := Blk.new (w3.alloc (.cells (ba (hm kk d1)) 29)) 29 (zrow 32)
  rw [hs4] at Y5
  have X5 : Ext Non w ((w3.alloc (.cells (ba (hm kk d1)) 29)).alloc (.cells (zrow 32) 29)) := X4.alloc _
  generalize (w3.alloc (.cells (ba (hm kk d1)) 29)).alloc (.cells (zrow 32) 29) = w5 at *
  have hw53 : w.heap.size ≤ w3.heap.size + 1 := by have := X4.size; omega
  obtain ⟨g11, hg11⟩ : ∃ g, w3.heap.size + 1 = g := ⟨_, rfl⟩
  have hgne : w3.heap.size ≠ g11 := by omega
  rw [hg11] at Y5 hw53 ⊢
  generalize w3.heap.size = g10 at *
  clear hs4 HS4 X4 B4 hg11
  obtain ⟨w6, hcp, Y6, x6⟩ := copy_ba (w := w5.drew) (dst := zeros 32) Y5.drew (rd_ba B5.drew) 32 32 32 32 (zeros_length 32) (hm_len kk d1) rfl
  obtain ⟨x, hx⟩ : ∃ x, hm kk d1 = x := ⟨_, rfl⟩
  have hxl : x.length = 32 := by rw [← hx]; exact hm_len _ _
  rw [hx] at Y6 B5
  have e1 : x.take 32 ++ (zeros 32).drop 32 = x := by rw [List.take_of_length_le (by omega)]; simp [zeros]
  rw [e1] at Y6
  have B6 := B5.drew.ext x6 (fun h => hgne h)
  have X6 : Ext Non w w6 := X5.drew.trans x6 (fun i hi h => by have h : i = g11 := h; omega)
  have HX := Lib.hid hx
  clear e1 hx B5 Y5 X5
  refine wp_region_seq (One g11) ((0, true) :: (1, true) :: (2, false) :: []) (by kernel_rfl) (by kernel_rfl) (by kernel_rfl) ?_
  iterate 2 (refine wpSeq_quiet rfl rfl ?_; apply Exists.intro; refine ⟨?_, ?_⟩; (intro W hW; go_simp; try with_reducible rfl); (intro K hK; simp only [Act.put, List.setIfInBounds_toArray, List.set_cons_zero, List.set_cons_succ]; refine hK _ ?_; clear hK K))
  refine wpSeq_call rfl rfl (fun K hK => ?_)
  go_simp
  refine hK _ _ x6 ?_
  clear hK K hcp x6
  refine wpSeq_end ?_
  go_wp2_with fail
  have ctr := macN_calls X6 G hw2 [⟨A0, cp, p⟩] pA 1 rfl (by decide) #[.slice A0 k2 cp] V.out (Ext.refl Non _) 32 32 ((rd_ba (B6.alloc (.cells #[.slice A0 k2 cp] 22))).imp (fun k hk _ => hk)) hxl (Nat.le_refl _) (by decide) hpall p E.out
  with_reducible refine Calls.mono ctr ?_
  clear ctr
  rintro e w7 ⟨rfl, x7⟩
  have y7 : Ext Non w6 (w7.alloc (.cells (ba (hm x p)) 26)) := (((Ext.refl Non w6).alloc (.cells #[.slice A0 k2 cp] 22)).transN x7).alloc _
  have D8 := Blk.new w7 26 (ba (hm x p))
  have B8 := B6.extN_ y7
  have Y8 := Y6.extN_ y7
  have X8 := X6.transN y7
  have ly := Y8.big_load Tryd.underlying29 rfl (key_info _ (by rw [ba_size, hxl]))
  clear x7 B6 Y6 X6 y7
  go_wp2_with fail
  clear ly
  have ctr := shortN_calls X8 G hw2 [⟨A0, cp, p⟩] pA 1 rfl (by decide) #[.slice A0 k2 cp] V.out (Ext.refl Non _) x hxl hpall p E.out
  rw [World.size_alloc] at ctr
  with_reducible refine Calls.mono ctr ?_
  clear ctr
  rintro e w9 ⟨rfl, x9⟩
  have y9 : Ext Non (w7.alloc (.cells (ba (hm x p)) 26)) (w9.alloc (.cells (ba ((hm x p).take 16)) 35)) := (((Ext.refl Non _).alloc (.cells #[.slice A0 k2 cp] 22)).transN x9).alloc _
  have E10 := Blk.new w9 35 (ba ((hm x p).take 16))
  have D10 := D8.extN_ y9
  have B10 := B8.extN_ y9
  have Y10 := Y8.extN_ y9
  have X10 := X8.transN y9
  clear x9 D8 B8 Y8 X8 y9 pA V E hps2 hpall rP
  go_wp2_with fail
  generalize w9.alloc (.cells (ba ((hm x p).take 16)) 35) = w10 at *
  generalize w9.heap.size = g13 at *
  generalize w7.heap.size = g12 at *
  have s1 := fun W => run_arr_all (P := Tryd.prog) W Tryd.underlying35 s8 g13 0 (by decide)
  have s2 := fun W => run_arr_hi (P := Tryd.prog) W Tryd.underlying26 s8 g12 0 .i64 16 16 rfl (by decide) (by decide)
  have l1 : ∀ W, Ext Non w10 W → (bigLoad 29 (.pointer (some ⟨g10, 0, none⟩))).run Tryd.prog W = .ok (.agg (ba x)) W := fun W hW => (B10.extN_ hW).big_load Tryd.underlying29 rfl (key_info _ (by rw [ba_size, hxl]))
  have l2 : ∀ W, Ext Non w10 W → (bigLoad 29 (.pointer (some ⟨g11, 0, none⟩))).run Tryd.prog W = .ok (.agg (ba x)) W := fun W hW => (Y10.extN_ hW).big_load Tryd.underlying29 rfl (key_info _ (by rw [ba_size, hxl]))
  have v1 : ∀ W, Ext Non w10 W → (convert 22 9 (.slice (some ⟨g13, 0, none⟩) 16 16)).run Tryd.prog W = .ok (.string (str ((hm x p).take 16))) W := fun W hW =>
    run_convert_rd W 22 9 5 Tryd.underlying22 Tryd.underlying9 Tryd.underlying5 ((rd_ba E10).extN hW) 16 16 (m16_len _ _)
  have v2 : ∀ W, Ext Non w10 W → (convert 22 9 (.slice (some ⟨g12, 0, none⟩) 16 32)).run Tryd.prog W = .ok (.string (str ((hm x p).take 16))) W := fun W hW =>
    run_convert_rd W 22 9 5 Tryd.underlying22 Tryd.underlying9 Tryd.underlying5 (by rw [bvs_take5]; exact ((rd_ba D10).extN hW).take 16) 16 32 (m16_len _ _)
  have hP0 : ∀ W : World, Parts W (· < W.heap.size) none [] := fun W => ⟨Rd.nil, fun x hx => nomatch hx⟩
  have G10 := G.extN X10
  have hw10 := X10.size
  refine wp_region_seq Non ((0, true) :: (1, true) :: (2, true) :: (3, true) :: (5, true) :: (6, true) :: (4, false) :: (7, false) :: (8, true) :: (9, true) :: (10, true) :: (11, true) :: (12, true) :: (13, true) :: (14, true) :: (15, true) :: (16, true) :: (17, true) :: (18, true) :: (19, true) :: (20, false) :: (21, true) :: (22, true) :: []) (by kernel_rfl) (by kernel_rfl) (by kernel_rfl) ?_
  iterate 6 (refine wpSeq_quiet rfl rfl ?_; apply Exists.intro; refine ⟨?_, ?_⟩; (intro W hW; have u1 := l1 W hW.drewL; have u2 := l2 W hW.drewL; go_simp; try with_reducible rfl); (intro K hK; simp only [Act.put, List.setIfInBounds_toArray, List.set_cons_zero, List.set_cons_succ]; refine hK _ ?_; clear hK K))
  clear l1 l2
  refine wpSeq_call rfl rfl (fun K hK => ?_)
  go_simp
  have ctr := derive_calls (w := w10.drew) (G10.extN (Ext.refl Non w10).drew) (by show 2 ≤ w10.heap.size; omega) x hxl b (by omega) 0 0 (hP0 _) rfl (Nat.le_refl _) (by decide) (fun q hq => nomatch hq)
  with_reducible refine Calls.mono ctr ?_
  clear ctr
  rintro e w11 ⟨rfl, x11⟩
  go_simp
  refine hK _ _ x11 ?_
  clear hK K
  refine wpSeq_call rfl rfl (fun K hK => ?_)
  go_simp
  have ctr := derive_calls (w := w11) ((G10.extN (Ext.refl Non w10).drew).extN x11) (by have h : w10.heap.size ≤ w11.heap.size := x11.size; omega) x hxl b (by omega) 0 0 (hP0 _) rfl (Nat.le_refl _) (by decide) (fun q hq => nomatch hq)
  with_reducible refine Calls.mono ctr ?_
  clear ctr
  rintro e w12 ⟨rfl, x12⟩
  go_simp
  refine hK _ _ x12 ?_
  clear hK K
  have y12 := (Ext.refl Non w10).drew.transN (x11.transN x12)
  iterate 12 (refine wpSeq_quiet rfl rfl ?_; apply Exists.intro; refine ⟨?_, ?_⟩; (intro W hW; have u1 := v1 W (y12.transN hW); have u2 := v2 W (y12.transN hW); go_simp; try with_reducible rfl); (intro K hK; simp only [Act.put, List.setIfInBounds_toArray, List.set_cons_zero, List.set_cons_succ]; refine hK _ ?_; clear hK K))
  clear v1 v2
  refine wpSeq_call rfl rfl (fun K hK => ?_)
  go_simp
  have ctr := same_calls (w := w12) 32 32 32 32 (rd_ba (B10.extN_ y12)) hxl (rd_ba (Y10.extN_ y12)) hxl (by decide)
  with_reducible refine Calls.mono ctr ?_
  clear ctr
  rintro e w13 ⟨rfl, x13⟩
  go_simp
  refine hK _ _ x13 ?_
  clear hK K
  iterate 2 (refine wpSeq_quiet rfl rfl ?_; apply Exists.intro; refine ⟨?_, ?_⟩; (intro W hW; go_simp; try with_reducible rfl); (intro K hK; simp only [Act.put, List.setIfInBounds_toArray, List.set_cons_zero, List.set_cons_succ]; refine hK _ ?_; clear hK K))
  refine wpSeq_end ?_
  have X13 := (X10.transN y12).transN x13
  go_wp2_with fail
  go_ret
  exact ⟨by simp, X13.belowN⟩
end Go.Proofs.YtgbaijmpfdhoeaaDoor
