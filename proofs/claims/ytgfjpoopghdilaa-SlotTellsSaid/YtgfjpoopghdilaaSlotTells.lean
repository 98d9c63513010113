/- The law SlotTells: slots are right, and have the bytes, that the document says, and bytes are its slots. -/
import Derived.Test.YtgfjpoopghdilaaRef10D
namespace Go.Proofs.Ytgfjpoopghdilaa
open Go.RowKit

set_option maxRecDepth 100000 in
set_option maxHeartbeats 8000000 in
theorem tells_walk (w : World) {s : Sl} {b : List UInt8} (hs : s.ok) (hb : b.length = 64) :
    Calls Try.prog 3 #[.agg (sl s), .agg (ba b)] w fun e w' => e = .returned (.bool true) ∧ Below w.heap.size w w' := by
  have ns := sl_ne s
  have nb := ba64_ne hb
  have nz := row_ne (zrow_size 64)
  have n0 := sl_ne sl0
  have BS := (Blk.new w 32 (sl s)).alloc (.cells (ba b) 33)
  have BB := Blk.new (w.alloc (.cells (sl s) 32)) 33 (ba b)
  have X0 : Ext Non w ((w.alloc (.cells (sl s) 32)).alloc (.cells (ba b) 33)) := ((Ext.refl Non w).alloc _).alloc _
  rw [World.size_alloc] at BB
  go_enter Try.func3, Try.ntmps3
  go_upto_region 1 with (fail)
  generalize (w.alloc (.cells (sl s) 32)).alloc (.cells (ba b) 33) = v at *
  have ls := fun W (x : Ext Non v W) => load_sl hs (BS.extN_ x)
  have lb := fun W (x : Ext Non v W) => load_b64 (BB.extN_ x) hb
  have cb := fun W (x : Ext Non v W) => cv_sub (cs := bvs b) (BB.extN_ x) [] b [] (by simp) 0 64 rfl hb
  have sb := fun W => run_arr_all (P := Try.prog) W Try.underlying33 s8 (w.heap.size + 1) 0 (by decide)
  clear BS BB
  go_wp2_with fail
  have ctr := shown_calls v
  with_reducible refine Calls.mono ctr ?_
  clear ctr
  rintro e w1 ⟨rfl, x1⟩
  have l1 := ls w1 x1
  go_wp2_with fail
  have ctr := rright_calls w1 hs
  with_reducible refine Calls.mono ctr ?_
  clear ctr
  rintro e w2 ⟨rfl, x2⟩
  clear l1
  have X2 := x1.transN x2
  have l2 := ls w2 X2
  clear x1 x2
  rcases ence_cases s with ⟨r, e⟩ | ⟨r, e⟩
  · rw [r]
    go_wp2_with fail
    have ctr := right_calls w2 hs
    with_reducible refine Calls.mono ctr ?_
    clear ctr
    rintro e w3 ⟨rfl, x3⟩
    clear l2
    rw [e]
    have X3 := X2.transN x3
    have l3 := ls w3 X3
    go_wp2_with fail
    have ctr := right_calls w3 hs
    with_reducible refine Calls.mono ctr ?_
    clear ctr
    rintro e w4 ⟨rfl, x4⟩
    clear l3
    rw [e]
    have X4 := X3.transN x4
    have l4 := ls w4 X4
    go_wp2_with fail
    have ctr := encode_calls w4 hs
    with_reducible refine Calls.mono ctr ?_
    clear ctr
    rintro e w5 ⟨rfl, x5⟩
    clear l4
    rw [e]
    have L5 := encb_len hs
    have n5 := ba64_ne L5
    have st5 := store_b64 w5 L5
    have E5 := Blk.new w5 33 (ba (encb s))
    have X5 : Ext Non v (w5.alloc (.cells (ba (encb s)) 33)) := (X4.transN x5).alloc _
    clear X3 X4 x3 x4 x5 X2
    go_upto_region 6 with (fail)
    clear st5
    generalize w5.alloc (.cells (ba (encb s)) 33) = v5 at *
    generalize w5.heap.size = g5 at *
    have he : encb s = slb s := by unfold encb; rw [if_pos r]
    have sx := fun W => run_arr_all (P := Try.prog) W Try.underlying33 s8 g5 0 (by decide)
    have cx := fun W (x : Ext Non v5 W) => cv_sub (cs := bvs (encb s)) (E5.extN_ x) [] (encb s) [] (by simp) 0 64 rfl L5
    have lsx := fun W (x : Ext Non v5 W) => ls W (X5.transN x)
    rw [he] at cx
    refine wp_region_seq Non ((0, true) :: (1, true) :: (2, true) :: (3, true) :: (4, true) :: (5, true) :: (6, true) :: (7, true) :: (8, false) :: (9, true) :: (10, true) :: (11, true) :: (12, true) :: (13, true) :: (14, true) :: (15, true) :: (16, true) :: (17, true) :: (18, true) :: (19, true) :: (20, true) :: (21, true) :: (22, true) :: (23, true) :: (24, true) :: []) (by kernel_rfl) (by kernel_rfl) (by kernel_rfl) ?_
    iterate 8 (refine wpSeq_quiet rfl rfl ?_; apply Exists.intro; refine ⟨?_, ?_⟩; (intro W hW; have u1 := cx W hW.drewL; have u2 := lsx W hW.drewL; go_simp; try with_reducible rfl); (intro K hK; simp only [Act.put, List.setIfInBounds_toArray, List.set_cons_zero, List.set_cons_succ]; refine hK _ ?_; clear hK K))
    refine wpSeq_call rfl rfl (fun K hK => ?_)
    go_simp
    have ctr := rwrite_calls v5.drew hs
    with_reducible refine Calls.mono ctr ?_
    clear ctr
    rintro e w6 ⟨rfl, x6⟩
    go_simp
    refine hK _ _ x6 ?_
    clear hK K
    iterate 7 (refine wpSeq_quiet rfl rfl ?_; apply Exists.intro; refine ⟨?_, ?_⟩; (intro W hW; go_simp; try with_reducible rfl); (intro K hK; simp only [Act.put, List.setIfInBounds_toArray, List.set_cons_zero, List.set_cons_succ]; refine hK _ ?_; clear hK K))
    iterate 7 (refine wpSeq_skip rfl rfl (fun K hK => ?_); simp only [Act.put, List.setIfInBounds_toArray, List.set_cons_zero, List.set_cons_succ]; refine hK _ ?_; clear hK K)
    iterate 2 (refine wpSeq_quiet rfl rfl ?_; apply Exists.intro; refine ⟨?_, ?_⟩; (intro W hW; go_simp; try with_reducible rfl); (intro K hK; simp only [Act.put, List.setIfInBounds_toArray, List.set_cons_zero, List.set_cons_succ]; refine hK _ ?_; clear hK K))
    refine wpSeq_end ?_
    have X6 := X5.transN x6.drewL
    clear cx lsx sx he x6 E5
    have lb6 := lb w6 X6
    go_wp2_with fail
    have ctr := decode_calls w6 hb
    with_reducible refine Calls.mono ctr ?_
    clear ctr
    rintro e w7 ⟨rfl, x7⟩
    have okd := decs_ok hb
    have nd := sl_ne (decs b)
    have X7 : Ext Non v (w7.alloc (.cells (sl (decs b)) 32)) := (X6.transN x7).alloc _
    have D7 := Blk.new w7 32 (sl (decs b))
    have cb7 := cb _ X7
    clear lb6 x7 X6
    go_wp2_with fail
    have ctr := rread_calls (w7.alloc (.cells (sl (decs b)) 32)) hb
    with_reducible refine Calls.mono ctr ?_
    clear ctr
    rintro e w8 ⟨rfl, x8⟩
    have X8 : Ext Non v (w8.alloc (.cells (sl (decs b)) 32)) := (X7.transN x8).alloc _
    have l8 := load_sl okd ((D7.extN_ x8).alloc (.cells (sl (decs b)) 32))
    have l9 := load_sl okd (Blk.new w8 32 (sl (decs b)))
    have q2 := fun W => eql_sl W okd okd
    rw [show decide (decs b = decs b) = true from decide_eq_true rfl] at q2
    clear cb7 x8 X7 D7
    go_wp2_with fail
    go_ret
    exact ⟨rfl, (X0.transN X8).belowN⟩
  · rw [r]
    go_wp2_with fail
    have ctr := right_calls w2 hs
    with_reducible refine Calls.mono ctr ?_
    clear ctr
    rintro e w3 ⟨rfl, x3⟩
    clear l2
    rw [e]
    have X3 := X2.transN x3
    have l3 := ls w3 X3
    go_wp2_with fail
    have ctr := right_calls w3 hs
    with_reducible refine Calls.mono ctr ?_
    clear ctr
    rintro e w4 ⟨rfl, x4⟩
    clear l3
    rw [e]
    have X4 := X3.transN x4
    have l4 := ls w4 X4
    go_wp2_with fail
    have ctr := encode_calls w4 hs
    with_reducible refine Calls.mono ctr ?_
    clear ctr
    rintro e w5 ⟨rfl, x5⟩
    clear l4
    rw [e]
    have L5 := encb_len hs
    have n5 := ba64_ne L5
    have st5 := store_b64 w5 L5
    have E5 := Blk.new w5 33 (ba (encb s))
    have X5 : Ext Non v (w5.alloc (.cells (ba (encb s)) 33)) := (X4.transN x5).alloc _
    clear X3 X4 x3 x4 x5 X2
    go_upto_region 6 with (fail)
    clear st5
    generalize w5.alloc (.cells (ba (encb s)) 33) = v5 at *
    generalize w5.heap.size = g5 at *
    have he : encb s = zeros 64 := by unfold encb; rw [if_neg (by rw [r]; decide)]
    have lx := fun W (x : Ext Non v5 W) => load_b64 (E5.extN_ x) L5
    have q1 : ∀ W, (binOp .neq 33 (.agg (ba (zeros 64))) (.agg (zrow 64))).run Try.prog W = .ok (.bool false) W := fun W => by
      have := neq_b64 W (zeros_length 64) (zeros_length 64)
      rw [show (zeros 64 == zeros 64) = true from beq_self_eq_true _] at this
      exact this
    rw [he] at lx
    refine wp_region_seq Non ((0, true) :: (1, true) :: (2, true) :: (3, true) :: (4, true) :: (5, true) :: (6, true) :: (7, true) :: (8, false) :: (9, true) :: (10, true) :: (11, true) :: (12, true) :: (13, true) :: (14, true) :: (15, true) :: (16, true) :: (17, true) :: (18, true) :: (19, true) :: (20, true) :: (21, true) :: (22, true) :: (23, true) :: (24, true) :: []) (by kernel_rfl) (by kernel_rfl) (by kernel_rfl) ?_
    iterate 2 (refine wpSeq_quiet rfl rfl ?_; apply Exists.intro; refine ⟨?_, ?_⟩; (intro W hW; go_simp; try with_reducible rfl); (intro K hK; simp only [Act.put, List.setIfInBounds_toArray, List.set_cons_zero, List.set_cons_succ]; refine hK _ ?_; clear hK K))
    iterate 6 (refine wpSeq_skip rfl rfl (fun K hK => ?_); simp only [Act.put, List.setIfInBounds_toArray, List.set_cons_zero, List.set_cons_succ]; refine hK _ ?_; clear hK K)
    iterate 1 (refine wpSeq_pass rfl rfl (fun K hK => ?_); simp only [Act.put, List.setIfInBounds_toArray, List.set_cons_zero, List.set_cons_succ]; refine hK _ ?_; clear hK K)
    iterate 2 (refine wpSeq_skip rfl rfl (fun K hK => ?_); simp only [Act.put, List.setIfInBounds_toArray, List.set_cons_zero, List.set_cons_succ]; refine hK _ ?_; clear hK K)
    iterate 14 (refine wpSeq_quiet rfl rfl ?_; apply Exists.intro; refine ⟨?_, ?_⟩; (intro W hW; have u1 := lx W hW.drewL; go_simp; try with_reducible rfl); (intro K hK; simp only [Act.put, List.setIfInBounds_toArray, List.set_cons_zero, List.set_cons_succ]; refine hK _ ?_; clear hK K))
    refine wpSeq_end ?_
    have X6 : Ext Non v v5.drew := X5.drew
    clear lx q1 he E5
    generalize v5.drew = w6 at *
    have lb6 := lb w6 X6
    go_wp2_with fail
    have ctr := decode_calls w6 hb
    with_reducible refine Calls.mono ctr ?_
    clear ctr
    rintro e w7 ⟨rfl, x7⟩
    have okd := decs_ok hb
    have nd := sl_ne (decs b)
    have X7 : Ext Non v (w7.alloc (.cells (sl (decs b)) 32)) := (X6.transN x7).alloc _
    have D7 := Blk.new w7 32 (sl (decs b))
    have cb7 := cb _ X7
    clear lb6 x7 X6
    go_wp2_with fail
    have ctr := rread_calls (w7.alloc (.cells (sl (decs b)) 32)) hb
    with_reducible refine Calls.mono ctr ?_
    clear ctr
    rintro e w8 ⟨rfl, x8⟩
    have X8 : Ext Non v (w8.alloc (.cells (sl (decs b)) 32)) := (X7.transN x8).alloc _
    have l8 := load_sl okd ((D7.extN_ x8).alloc (.cells (sl (decs b)) 32))
    have l9 := load_sl okd (Blk.new w8 32 (sl (decs b)))
    have q2 := fun W => eql_sl W okd okd
    rw [show decide (decs b = decs b) = true from decide_eq_true rfl] at q2
    clear cb7 x8 X7 D7
    go_wp2_with fail
    go_ret
    exact ⟨rfl, (X0.transN X8).belowN⟩
end Go.Proofs.Ytgfjpoopghdilaa
