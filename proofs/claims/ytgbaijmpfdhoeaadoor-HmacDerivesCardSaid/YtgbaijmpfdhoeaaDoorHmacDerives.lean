/- The law HmacDerives: keys of a key are what the document says; for any array, any text, any slice of slices of bytes. -/
import Derived.Test.YtgbaijmpfdhoeaaDoorJoin
import Derived.Test.YtgbaijmpfdhoeaaDoorDerive
namespace Go.Proofs.YtgbaijmpfdhoeaaDoor
open Go.RowKit

set_option maxRecDepth 100000 in
set_option maxHeartbeats 4000000 in
theorem derives_walk (w : World) (G : Glob w) (hw2 : 2 ≤ w.heap.size) (kk : List UInt8) (hkk : kk.length = 32) (lb : List UInt8) (hlb : lb.length ≤ maxLen) (A1 : Option Addr) (len cap : Nat) (hd : Dec Tryd.prog w 30 [.slice A1 len cap]) :
    Calls Tryd.prog 7 #[.agg (ba kk), .string (str lb), .slice A1 len cap] w fun e w' => e = .returned (.bool true) ∧ Below w.heap.size w w' := by
  obtain ⟨qs, hql, hlc, hcm, hqs, r1⟩ := hd.parts
  clear hd
  obtain ⟨n0, hn0⟩ : ∃ n, lb.length = n := ⟨_, rfl⟩
  obtain ⟨k0, hk0, hk0a, hk0b, _⟩ := min_at n0 200 (by omega)
  obtain ⟨a, ha⟩ : ∃ l, lb.take k0 = l := ⟨_, rfl⟩
  have la : a.length = k0 := by rw [← ha]; simp; omega
  have hz : (str lb).size = n0 := by rw [str_size, hn0]
  have hx : (str lb).extract 0 k0 = str a := by rw [str_extract, List.drop_zero, ha]
  have ia : (k0 : Int) ≤ (n0 : Int) := by omega
  clear ha hlb hn0
  have n1 := row_ne (n := 31) (a := ba kk) (by rw [ba_size, hkk])
  have z2 := zrow32_ne
  have X0 : Ext Non w (w.alloc (.cells (ba kk) 29)) := (Ext.refl Non w).alloc _
  have K0 := Blk.new w 29 (ba kk)
  go_enter Tryd.func7, Tryd.ntmps7
  go_wp2_with fail
  have ctr := shown_calls (G.extN X0) (by rw [World.size_alloc]; omega)
  with_reducible refine Calls.mono ctr ?_
  clear ctr
  rintro e w1 ⟨rfl, x1⟩
  have K1 := K0.extN_ x1
  have X1 := X0.transN x1
  clear x1 X0 K0
  go_wp2_with fail
  clear hx hz
  have ctr := joined_calls A1 len cap hlc hcm X1 qs hql hqs r1
  with_reducible refine Calls.mono ctr ?_
  clear ctr
  rintro e w3 ⟨ps, k, A, c, T, d, rfl, hpl, hk5, M, o, ot, x3⟩
  have X3 := X1.transN x3
  have K3 := K1.extN_ x3
  have P3 := M.parts o
  have hcap : k ≤ c := by have := o.len.1; rw [List.length_map, hpl] at this; exact this
  have hw3 := X3.size
  have lk := K3.big_load Tryd.underlying29 rfl (key_info _ (by rw [ba_size, hkk]))
  have hps : ∀ q ∈ ps, q.l.length ≤ 1000 := fun q hq => Nat.le_trans (M.each q hq).2 (by decide)
  have rt := OwV.rd ot
  rw [show ps.map ptxt = (ps.map Part.l).map txt from by rw [List.map_map]; rfl] at rt
  have hml : (ps.map Part.l).length = k := by rw [List.length_map, hpl]
  have hts : ∀ t ∈ ps.map Part.l, t.length ≤ 1000 := fun t ht => by
    obtain ⟨q, hq, rfl⟩ := List.mem_map.1 ht
    exact hps q hq
  clear hqs r1 hql x3 X1 K1 o ot M
  go_wp2_with fail
  clear lk
  have ctr := derive_calls (G.extN X3) (by omega) kk hkk a (by omega) k c P3 hpl hcap (by omega) hps
  with_reducible refine Calls.mono ctr ?_
  clear ctr
  rintro e w4 ⟨rfl, x4⟩
  generalize ps.map Part.l = ts at *
  have y4 : Ext Non w3 (w4.alloc (.cells (ba (hm kk (dmsg a ts))) 29)) := x4.alloc _
  have B5 := Blk.new w4 29 (ba (hm kk (dmsg a ts)))
  have X5 := X3.transN y4
  have K5 := K3.extN_ y4
  have r5 := rt.extN y4
  clear P3 hpl hps x4 X3 K3 rt y4
  go_wp2_with fail
  generalize w4.alloc (.cells (ba (hm kk (dmsg a ts))) 29) = w5 at *
  generalize w4.heap.size = g5 at *
  have s1 := fun W g => run_arr_all (P := Tryd.prog) W Tryd.underlying29 s8 g 0 (by decide)
  have v1 : ∀ W, Ext Non w5 W → (convert 22 9 (.slice (some ⟨g5, 0, none⟩) 32 32)).run Tryd.prog W = .ok (.string (str (hm kk (dmsg a ts)))) W := fun W hW =>
    run_convert_rd W 22 9 5 Tryd.underlying22 Tryd.underlying9 Tryd.underlying5 ((rd_ba B5).extN hW) 32 32 (hm_len _ _)
  have v3 : ∀ W, Ext Non w5 W → (convert 22 9 (.slice (some ⟨w.heap.size, 0, none⟩) 32 32)).run Tryd.prog W = .ok (.string (str kk)) W := fun W hW =>
    run_convert_rd W 22 9 5 Tryd.underlying22 Tryd.underlying9 Tryd.underlying5 ((rd_ba K5).extN hW) 32 32 hkk
  refine wp_region_seq Non ((0, true) :: (1, true) :: (2, true) :: (3, true) :: (4, true) :: (5, true) :: (6, true) :: (7, true) :: (8, false) :: (9, true) :: (10, true) :: (11, true) :: []) (by kernel_rfl) (by kernel_rfl) (by kernel_rfl) ?_
  iterate 8 (refine wpSeq_quiet rfl rfl ?_; apply Exists.intro; refine ⟨?_, ?_⟩; (intro W hW; have u1 := v1 W hW.drewL; have u3 := v3 W hW.drewL; go_simp; try with_reducible rfl); (intro K hK; simp only [Act.put, List.setIfInBounds_toArray, List.set_cons_zero, List.set_cons_succ]; refine hK _ ?_; clear hK K))
  refine wpSeq_call rfl rfl (fun K hK => ?_)
  go_simp
  have ctr := rderive_calls w5.drew kk a ts (by omega) (by omega) hts k d hml (by omega) (Rd.extN r5 (Ext.refl Non w5).drew)
  with_reducible refine Calls.mono ctr ?_
  clear ctr
  rintro e w6 ⟨rfl, x6⟩
  go_simp
  refine hK _ _ x6 ?_
  clear hK K
  iterate 3 (refine wpSeq_quiet rfl rfl ?_; apply Exists.intro; refine ⟨?_, ?_⟩; (intro W hW; go_simp; try with_reducible rfl); (intro K hK; simp only [Act.put, List.setIfInBounds_toArray, List.set_cons_zero, List.set_cons_succ]; refine hK _ ?_; clear hK K))
  refine wpSeq_end ?_
  have X6 := X5.drew.transN x6
  clear v1 v3 s1
  go_wp2_with fail
  go_ret
  exact ⟨by simp, X6.belowN⟩
end Go.Proofs.YtgbaijmpfdhoeaaDoor
