/- The law HmacTells: codes are what the document says; for any key, any array, any slice of slices of bytes. -/
import Derived.Test.YtgbaijmpfdhoeaaDoorJoin
import Derived.Test.YtgbaijmpfdhoeaaDoorShort
import Derived.Test.YtgbaijmpfdhoeaaDoorRef04
namespace Go.Proofs.YtgbaijmpfdhoeaaDoor
open Go.RowKit

set_option maxRecDepth 100000 in
set_option maxHeartbeats 4000000 in
theorem tells_walk (w : World) (G : Glob w) (hw2 : 2 ≤ w.heap.size) (A0 : Option Addr) (n0 c0 : Nat) (l0 : List UInt8) (hl0 : l0.length = n0) (hc0 : n0 ≤ c0) (r0 : Rd w (· < w.heap.size) A0 (bvs l0))
    (kk : List UInt8) (hkk : kk.length = 32) (A1 : Option Addr) (len cap : Nat) (hd : Dec Tryd.prog w 30 [.slice A1 len cap]) :
    Calls Tryd.prog 5 #[.slice A0 n0 c0, .agg (ba kk), .slice A1 len cap] w fun e w' => e = .returned (.bool true) ∧ Below w.heap.size w w' := by
  obtain ⟨qs, hql, hlc, hcm, hqs, r1⟩ := hd.parts
  clear hd
  obtain ⟨k0, hk0, hk0a, hk0b, _⟩ := min_at n0 200 (by omega)
  obtain ⟨a, ha⟩ : ∃ l, l0.take k0 = l := ⟨_, rfl⟩
  have ra : Rd w (· < w.heap.size) A0 (bvs a) := by rw [← ha, bvs_take5]; exact r0.take k0
  have la : a.length = k0 := by rw [← ha]; simp; omega
  have ma : k0 ≤ c0 := by omega
  have ia : (k0 : Int) ≤ (c0 : Int) := by omega
  clear ha r0 hl0
  have n1 := row_ne (n := 31) (a := ba kk) (by rw [ba_size, hkk])
  have z2 := zrow32_ne
  have z3 := zrow16_ne
  have X0 : Ext Non w (w.alloc (.cells (ba kk) 29)) := (Ext.refl Non w).alloc _
  have K0 := Blk.new w 29 (ba kk)
  go_enter Tryd.func5, Tryd.ntmps5
  go_wp2_with fail
  have ctr := shown_calls (G.extN X0) (by rw [World.size_alloc]; omega)
  with_reducible refine Calls.mono ctr ?_
  clear ctr
  rintro e w1 ⟨rfl, x1⟩
  have K1 := K0.extN_ x1
  have X1' := X0.transN x1
  clear x1 X0 K0
  have O1 : OwB (w1.alloc (.cells #[] 5)) w1.heap.size (some ⟨w1.heap.size, 0, none⟩) 0 [] := World.ownsRow_made w1 #[] 0 (Nat.le_refl _) (by simp [maxLen]) rfl
  have X1 : Ext Non w (w1.alloc (.cells #[] 5)) := X1'.alloc _
  have hs1 : w1.heap.size ≤ (w1.alloc (.cells #[] 5)).heap.size := by rw [World.size_alloc]; omega
  go_wp2_with (at_builtin; refine wp_ap8 rfl (.tmp 16) (.tmp 21) rfl 0 rfl O1 rfl k0 c0 rfl (ra.extN X1) la (by simp; omega) hs1 ?_; intro A2 c2 w2 o2 x2 hob2)
  rw [List.nil_append] at o2
  have X2 : Ext Non w w2 := X1.trans x2 (fun i hi h => by
    have h : w1.heap.size = i := Option.some.inj h
    have := X1'.size
    omega)
  have K2 := K1.ext ((Ext.refl Non w1).alloc (.cells #[] 5) |>.trans x2 (fun i hi h => by
    have h : w1.heap.size = i := Option.some.inj h
    omega)) (fun h => h)
  have hA2 : ∀ i, ob A2 = some i → w1.heap.size ≤ i := fun i hi => (o2.lt hi).1
  have cv := run_convert_rd w2 22 9 5 Tryd.underlying22 Tryd.underlying9 Tryd.underlying5 o2.rd k0 c2 la
  clear X1 O1 hs1 x2 hob2 K1
  go_simp
  go_wp2_with fail
  clear cv
  have ctr := joined_calls A1 len cap hlc hcm X2 qs hql hqs r1
  with_reducible refine Calls.mono ctr ?_
  clear ctr
  rintro e w3 ⟨ps, k, A, c, T, d, rfl, hpl, hk5, M, o, ot, x3⟩
  have X3 := X2.transN x3
  have K3 := K2.extN_ x3
  have o3 := o2.extN x3
  have P3 := M.parts o
  have hcap : k ≤ c := by have := o.len.1; rw [List.length_map, hpl] at this; exact this
  have hall : (allOf ps).length ≤ 1000 := Nat.le_trans M.all (by rw [hpl]; exact Nat.mul_le_mul_left 200 hk5)
  have hac := o3.len.1
  rw [la] at hac
  have hw3 := X3.size
  clear hqs r1 hql x3 X2 K2 o2
  go_wp2_with fail
  have ctr := mac_calls (G.extN X3) (by omega) k0 c2 (o3.rd.imp (fun i hi _ => hi)) la hac (by omega) k c P3 hpl hcap (by omega) (by omega)
  with_reducible refine Calls.mono ctr ?_
  clear ctr
  rintro e w4 ⟨rfl, x4⟩
  have y4 : Ext Non w3 (w4.alloc (.cells (ba (hm a (allOf ps))) 26)) := x4.alloc _
  have B5 := Blk.new w4 26 (ba (hm a (allOf ps)))
  have X5 := X3.transN y4
  have K5 := K3.extN_ y4
  have o5 := o3.extN y4
  have ow5 := OwV.extN o y4
  have ot5 := OwV.extN ot y4
  have M5 := M.extN y4
  have P5 := M5.parts ow5
  have lk := K5.big_load Tryd.underlying29 rfl (key_info _ (by rw [ba_size, hkk]))
  have hw5 := X5.size
  clear x4 X3 K3 o3 o ot M P3 y4
  go_wp2_with fail
  have ctr := short_calls (G.extN X5) (by omega) kk hkk k c P5 hpl hcap (by omega) (by omega)
  with_reducible refine Calls.mono ctr ?_
  clear ctr
  rintro e w6 ⟨rfl, x6⟩
  have y6 : Ext Non (w4.alloc (.cells (ba (hm a (allOf ps))) 26)) (w6.alloc (.cells (ba ((hm kk (allOf ps)).take 16)) 35)) := x6.alloc _
  have B7 := B5.extN_ y6
  have D7 := Blk.new w6 35 (ba ((hm kk (allOf ps)).take 16))
  have X7 := X5.transN y6
  have K7 := K5.extN_ y6
  have o7 := o5.extN y6
  have ow7 := OwV.extN ow5 y6
  have ot7 := OwV.extN ot5 y6
  have M7 := M5.extN y6
  clear B5 x6 X5 K5 o5 ow5 ot5 M5 P5 lk y6
  go_wp2_with fail
  generalize w6.alloc (.cells (ba ((hm kk (allOf ps)).take 16)) 35) = w7 at *
  generalize w6.heap.size = g7 at *
  generalize w4.heap.size = g5 at *
  obtain ⟨L, hL⟩ : ∃ L, allOf ps = L := ⟨_, rfl⟩
  rw [hL] at hall B7 D7 ⊢
  clear hL
  go_loopw [14] (fun i wr => ∃ j : Nat, j ≤ k ∧ i = .int .i64 j ∧ Ext Non w7 wr) (fun i _ => k - (intOf i).toNat)
  case atStart => exact ⟨0, by omega, rfl, Ext.refl _ _⟩
  case round =>
    obtain ⟨j, hj, rfl, X⟩ := hrel
    by_cases hlt : j < k
    · have hjp : j < ps.length := by omega
      have e1 : (ps.map Part.val)[j]? = some (.slice ps[j].a ps[j].l.length ps[j].c) := by rw [List.getElem?_map, List.getElem?_eq_getElem hjp]; rfl
      have e2 : (ps.map ptxt)[j]? = some (.string (str ps[j].l)) := by rw [List.getElem?_map, List.getElem?_eq_getElem hjp]; rfl
      have m1 := (M7.each ps[j] (List.getElem_mem hjp)).1
      generalize ps[j] = q at *
      obtain ⟨qa, qc, ql⟩ := q
      dsimp only at *
      have S1 := (ow7.rd.ix e1).1
      have S2 := (ot7.rd.ix e2).1
      have ca : ∀ W, Ext Non wr W → W.cell? ((A.getD default).add j) = some (.slice qa ql.length qc) := fun W hW => ((ow7.rd.extN (X.transN hW)).ix e1).2
      have ct : ∀ W, Ext Non wr W → W.cell? ((T.getD default).add j) = some (.string (str ql)) := fun W hW => ((ot7.rd.extN (X.transN hW)).ix e2).2
      have cv : ∀ W, Ext Non wr W → (convert 22 9 (.slice qa ql.length qc)).run Tryd.prog W = .ok (.string (str ql)) W := fun W hW =>
        run_convert_rd W 22 9 5 Tryd.underlying22 Tryd.underlying9 Tryd.underlying5 ((m1.extN (X.transN hW)).rd) ql.length qc rfl
      have i1 : (j : Int) < (k : Int) := by omega
      have wj : IntKind.i64.wrap (j : Int) = (j : Int) := by rw [IntKind.wrap_i64]; omega
      clear e1 e2 m1
      go_wp2_with fail
      refine wp_region_seq Non ((0, true) :: (1, true) :: (2, true) :: (3, true) :: (4, true) :: (5, true) :: (6, true) :: (7, true) :: (8, true) :: (9, true) :: []) (by kernel_rfl) (by kernel_rfl) (by kernel_rfl) ?_
      iterate 10 (refine wpSeq_quiet rfl rfl ?_; apply Exists.intro; refine ⟨?_, ?_⟩; (intro W hW; have v1 := ca W hW.drewL; have v2 := ct W hW.drewL; have v3 := cv W hW.drewL; go_simp; try with_reducible rfl); (intro K hK; simp only [Act.put, List.setIfInBounds_toArray, List.set_cons_zero, List.set_cons_succ]; refine hK _ ?_; clear hK K))
      refine wpSeq_end ?_
      clear ca ct cv
      go_wp2_with fail
      exact ⟨⟨j + 1, by omega, by go_num, X.drew⟩, by simp [intOf]; omega⟩
    · obtain rfl : j = k := by omega
      have o8 := o7.extN X
      have B8 := B7.extN_ X
      have D8 := D7.extN_ X
      have K8 := K7.extN_ X
      have X8 := X7.transN X
      have l16 := m16_len kk L
      have s1 := fun W => run_arr_all (P := Tryd.prog) W Tryd.underlying26 s8 g5 0 (by decide)
      have s2 := fun W => run_arr_all (P := Tryd.prog) W Tryd.underlying35 s8 g7 0 (by decide)
      have s3 := fun W => run_arr_all (P := Tryd.prog) W Tryd.underlying29 s8 w.heap.size 0 (by decide)
      have v1 : ∀ W, Ext Non wr W → (convert 22 9 (.slice (some ⟨g5, 0, none⟩) 32 32)).run Tryd.prog W = .ok (.string (str (hm a L))) W := fun W hW =>
        run_convert_rd W 22 9 5 Tryd.underlying22 Tryd.underlying9 Tryd.underlying5 ((rd_ba B8).extN hW) 32 32 (hm_len _ _)
      have v2 : ∀ W, Ext Non wr W → (convert 22 9 (.slice (some ⟨g7, 0, none⟩) 16 16)).run Tryd.prog W = .ok (.string (str ((hm kk L).take 16))) W := fun W hW =>
        run_convert_rd W 22 9 5 Tryd.underlying22 Tryd.underlying9 Tryd.underlying5 ((rd_ba D8).extN hW) 16 16 l16
      have v3 : ∀ W, Ext Non wr W → (convert 22 9 (.slice (some ⟨w.heap.size, 0, none⟩) 32 32)).run Tryd.prog W = .ok (.string (str kk)) W := fun W hW =>
        run_convert_rd W 22 9 5 Tryd.underlying22 Tryd.underlying9 Tryd.underlying5 ((rd_ba K8).extN hW) 32 32 hkk
      have v4 : ∀ W, Ext Non wr W → (convert 22 9 (.slice A2 k0 c2)).run Tryd.prog W = .ok (.string (str a)) W := fun W hW =>
        run_convert_rd W 22 9 5 Tryd.underlying22 Tryd.underlying9 Tryd.underlying5 (o8.extN hW).rd k0 c2 la
      clear ow7 ot7 M7 o7 B7 D7 K7 X7 l16 o8 B8 D8 K8
      go_wp2_with fail
      refine wp_region_seq Non ((0, true) :: (1, true) :: (2, true) :: (3, true) :: (4, true) :: (5, true) :: (6, true) :: (7, true) :: (8, true) :: (9, true) :: (10, true) :: (11, true) :: (12, false) :: (13, true) :: (14, true) :: (15, true) :: (16, true) :: (17, true) :: (18, true) :: (19, true) :: (20, true) :: (21, false) :: (22, true) :: (23, true) :: (24, true) :: []) (by kernel_rfl) (by kernel_rfl) (by kernel_rfl) ?_
      iterate 12 (refine wpSeq_quiet rfl rfl ?_; apply Exists.intro; refine ⟨?_, ?_⟩; (intro W hW; have u1 := v1 W hW.drewL; have u2 := v2 W hW.drewL; have u3 := v3 W hW.drewL; have u4 := v4 W hW.drewL; go_simp; try with_reducible rfl); (intro K hK; simp only [Act.put, List.setIfInBounds_toArray, List.set_cons_zero, List.set_cons_succ]; refine hK _ ?_; clear hK K))
      refine wpSeq_call rfl rfl (fun K hK => ?_)
      go_simp
      have ctr := rmac_calls wr.drew a L (by omega) (by omega)
      with_reducible refine Calls.mono ctr ?_
      clear ctr
      rintro e w8 ⟨rfl, x8⟩
      go_simp
      refine hK _ _ x8 ?_
      clear hK K
      iterate 8 (refine wpSeq_quiet rfl rfl ?_; apply Exists.intro; refine ⟨?_, ?_⟩; (intro W hW; have u1 := v1 W ((x8.transN hW).drewL); have u2 := v2 W ((x8.transN hW).drewL); have u3 := v3 W ((x8.transN hW).drewL); have u4 := v4 W ((x8.transN hW).drewL); go_simp; try with_reducible rfl); (intro K hK; simp only [Act.put, List.setIfInBounds_toArray, List.set_cons_zero, List.set_cons_succ]; refine hK _ ?_; clear hK K))
      refine wpSeq_call rfl rfl (fun K hK => ?_)
      go_simp
      have ctr := rshort_calls w8 kk L (by omega) (by omega)
      with_reducible refine Calls.mono ctr ?_
      clear ctr
      rintro e w9 ⟨rfl, x9⟩
      go_simp
      refine hK _ _ x9 ?_
      clear hK K
      iterate 3 (refine wpSeq_quiet rfl rfl ?_; apply Exists.intro; refine ⟨?_, ?_⟩; (intro W hW; go_simp; try with_reducible rfl); (intro K hK; simp only [Act.put, List.setIfInBounds_toArray, List.set_cons_zero, List.set_cons_succ]; refine hK _ ?_; clear hK K))
      refine wpSeq_end ?_
      have X9 := (X8.drew.transN x8).transN x9
      clear v1 v2 v3 v4 s1 s2 s3
      go_wp2_with fail
      go_ret
      exact ⟨by simp, X9.belowN⟩
end Go.Proofs.YtgbaijmpfdhoeaaDoor
