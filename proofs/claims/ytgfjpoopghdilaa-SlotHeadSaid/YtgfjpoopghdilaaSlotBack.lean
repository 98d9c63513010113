/- The law SlotBack: each right slot has its own bytes, and the other way round. -/
import Derived.Test.YtgfjpoopghdilaaSlotS
namespace Go.Proofs.Ytgfjpoopghdilaa
open Go.RowKit

theorem slb_beq {s t : Sl} (h : s.ok) (hr : right s = true) (h' : t.ok) (hr' : right t = true) : (encb s == encb t) = decide (s = t) := by
  unfold encb
  rw [if_pos hr, if_pos hr']
  by_cases e : s = t
  · subst e
    simp
  · rw [decide_eq_false e, beq_eq_false_iff_ne]
    exact fun e' => e (slb_inj h hr h' hr' e')
theorem ence_cases (s : Sl) : (right s = true ∧ ence s = 0) ∨ (right s = false ∧ ence s = 1) := by
  unfold ence
  cases h : right s
  · exact .inr ⟨rfl, rfl⟩
  · exact .inl ⟨rfl, rfl⟩
/-- What bytes decode to. -/
theorem dec_cases (l : List UInt8) : (dece l = 0 ∧ right (decs l) = true ∧ encb (decs l) = l) ∨ (dece l = 3 ∧ decs l = sl0) := by
  unfold dece decs
  cases h : (right (rdsl l) && decide (slb (rdsl l) = l))
  · exact .inr ⟨rfl, rfl⟩
  · simp only [Bool.and_eq_true, decide_eq_true_eq] at h
    refine .inl ⟨rfl, h.1, ?_⟩
    unfold encb
    simp only [if_true, if_pos h.1]
    exact h.2
set_option maxRecDepth 100000 in
set_option maxHeartbeats 4000000 in
theorem slback_walk (w : World) {s t : Sl} {b : List UInt8} (hs : s.ok) (ht : t.ok) (hb : b.length = 64) :
    Calls Try.prog 4 #[.agg (sl s), .agg (sl t), .agg (ba b)] w fun e w' => e = .returned (.bool true) ∧ Below w.heap.size w w' := by
  have ns := sl_ne s
  have nt := sl_ne t
  have nb := ba64_ne hb
  have nz := row_ne (zrow_size 64)
  have n0 := sl_ne sl0
  have BS := ((Blk.new w 32 (sl s)).alloc (.cells (sl t) 32)).alloc (.cells (ba b) 33)
  have BT := (Blk.new (w.alloc (.cells (sl s) 32)) 32 (sl t)).alloc (.cells (ba b) 33)
  have BB := Blk.new ((w.alloc (.cells (sl s) 32)).alloc (.cells (sl t) 32)) 33 (ba b)
  have X0 : Ext Non w (((w.alloc (.cells (sl s) 32)).alloc (.cells (sl t) 32)).alloc (.cells (ba b) 33)) := (((Ext.refl Non w).alloc _).alloc _).alloc _
  rw [World.size_alloc, World.size_alloc] at BB
  rw [World.size_alloc] at BT
  go_enter Try.func4, Try.ntmps4
  go_upto_region 1 with (fail)
  generalize ((w.alloc (.cells (sl s) 32)).alloc (.cells (sl t) 32)).alloc (.cells (ba b) 33) = v at *
  have ls := fun W (x : Ext Non v W) => load_sl hs (BS.extN_ x)
  have lt := fun W (x : Ext Non v W) => load_sl ht (BT.extN_ x)
  have lb := fun W (x : Ext Non v W) => load_b64 (BB.extN_ x) hb
  clear BS BT BB
  go_wp2_with fail
  have ctr := shown_calls v
  with_reducible refine Calls.mono ctr ?_
  clear ctr
  rintro e w1 ⟨rfl, x1⟩
  have l1 := ls w1 x1
  go_wp2_with fail
  have ctr := encode_calls w1 hs
  with_reducible refine Calls.mono ctr ?_
  clear ctr
  rintro e w2 ⟨rfl, x2⟩
  clear l1
  have L2 := encb_len hs
  have n2 := ba64_ne L2
  have st2 := store_b64 w2 L2
  have E2 := Blk.new w2 33 (ba (encb s))
  have X2 : Ext Non v (w2.alloc (.cells (ba (encb s)) 33)) := (x1.transN x2).alloc _
  have l2 := lt _ X2
  go_wp2_with fail
  have ctr := encode_calls (w2.alloc (.cells (ba (encb s)) 33)) ht
  with_reducible refine Calls.mono ctr ?_
  clear ctr
  rintro e w3 ⟨rfl, x3⟩
  clear l2 st2 x1 x2
  have L3 := encb_len ht
  have n3 := ba64_ne L3
  have st3 := store_b64 w3 L3
  have E3 := Blk.new w3 33 (ba (encb t))
  have D3 := (E2.extN_ x3).alloc (.cells (ba (encb t)) 33)
  have X3 : Ext Non v (w3.alloc (.cells (ba (encb t)) 33)) := (X2.transN x3).alloc _
  go_upto_region 4 with (fail)
  clear st3 E2 X2 x3
  generalize w3.alloc (.cells (ba (encb t)) 33) = v3 at *
  generalize w2.heap.size = g2 at *
  generalize w3.heap.size = g3 at *
  have la := fun W (x : Ext Non v3 W) => load_b64 (D3.extN_ x) L2
  have lc := fun W (x : Ext Non v3 W) => load_b64 (E3.extN_ x) L3
  have ca := ence_cases s
  have cb := ence_cases t
  generalize ence s = es at *
  generalize ence t = et at *
  have hbq := fun h1 h2 => slb_beq (s := s) (t := t) hs h1 ht h2
  go_upto_if 30 with (fail)
  go_cut [12, 13] from 30 (fun _ _ wc => Ext Non v3 wc)
  case first =>
    have la3 := la v3 (Ext.refl Non v3)
    rcases ca with ⟨ra, rfl⟩ | ⟨ra, rfl⟩
    · obtain ⟨d1, d2⟩ := dec_enc hs ra
      go_wp2_with fail
      have ctr := decode_calls v3 L2
      with_reducible refine Calls.mono ctr ?_
      clear ctr
      rintro e w4 ⟨rfl, x4⟩
      rw [d1, d2]
      have l4 := ls _ ((X3.transN x4).alloc (.cells (sl s) 32))
      have l5 := load_sl hs (Blk.new w4 32 (sl s))
      have nq := fun W => neq_sl W hs hs
      have hq : decide (s = s) = true := decide_eq_true rfl
      simp only [hq] at nq
      clear la3
      go_wp2_with fail
      go_meet
      case rel => exact x4.alloc _
    · go_wp2_with fail
      go_meet
      case rel => exact Ext.refl _ _
  case rest =>
    go_upto_region 8 with (fail)
    go_cut [57] from 43 (fun c57 wd => c57 = .bool false ∧ Ext Non v3 wd)
    case first =>
      rcases ca with ⟨ra, rfl⟩ | ⟨ra, rfl⟩
      · rcases cb with ⟨rb, rfl⟩ | ⟨rb, rfl⟩
        · have q1 := fun W => eql_b64 W L2 L3
          have q2 := fun W => eql_sl W hs ht
          rw [hbq ra rb] at q1
          clear hbq ra rb
          generalize decide (s = t) = d at q1 q2
          cases d
          all_goals
            refine wp_region_seq Non ((0, true) :: (1, true) :: (2, true) :: (3, true) :: (4, true) :: (5, true) :: (6, true) :: (7, true) :: (8, true) :: (9, true) :: (10, true) :: (11, true) :: (12, true) :: (13, true) :: (14, true) :: []) (by kernel_rfl) (by kernel_rfl) (by kernel_rfl) ?_
            iterate 15 (refine wpSeq_quiet rfl rfl ?_; apply Exists.intro; refine ⟨?_, ?_⟩; (intro W hW; have u1 := la W (hcut.transN hW.drewL); have u2 := lc W (hcut.transN hW.drewL); have u3 := ls W ((X3.transN hcut).transN hW.drewL); have u4 := lt W ((X3.transN hcut).transN hW.drewL); go_simp; try with_reducible rfl); (intro K hK; simp only [Act.put, List.setIfInBounds_toArray, List.set_cons_zero, List.set_cons_succ]; refine hK _ ?_; clear hK K))
            refine wpSeq_end ?_
            go_wp2_with fail
            go_meet
            case rel => exact ⟨rfl, hcut.drew⟩
        · refine wp_region_seq Non ((0, true) :: (1, true) :: (2, true) :: (3, true) :: (4, true) :: (5, true) :: (6, true) :: (7, true) :: (8, true) :: (9, true) :: (10, true) :: (11, true) :: (12, true) :: (13, true) :: (14, true) :: []) (by kernel_rfl) (by kernel_rfl) (by kernel_rfl) ?_
          iterate 7 (refine wpSeq_quiet rfl rfl ?_; apply Exists.intro; refine ⟨?_, ?_⟩; (intro W hW; go_simp; try with_reducible rfl); (intro K hK; simp only [Act.put, List.setIfInBounds_toArray, List.set_cons_zero, List.set_cons_succ]; refine hK _ ?_; clear hK K))
          iterate 7 (refine wpSeq_skip rfl rfl (fun K hK => ?_); simp only [Act.put, List.setIfInBounds_toArray, List.set_cons_zero, List.set_cons_succ]; refine hK _ ?_; clear hK K)
          iterate 1 (refine wpSeq_quiet rfl rfl ?_; apply Exists.intro; refine ⟨?_, ?_⟩; (intro W hW; go_simp; try with_reducible rfl); (intro K hK; simp only [Act.put, List.setIfInBounds_toArray, List.set_cons_zero, List.set_cons_succ]; refine hK _ ?_; clear hK K))
          refine wpSeq_end ?_
          go_wp2_with fail
          go_meet
          case rel => exact ⟨rfl, hcut.drew⟩
      · refine wp_region_seq Non ((0, true) :: (1, true) :: (2, true) :: (3, true) :: (4, true) :: (5, true) :: (6, true) :: (7, true) :: (8, true) :: (9, true) :: (10, true) :: (11, true) :: (12, true) :: (13, true) :: (14, true) :: []) (by kernel_rfl) (by kernel_rfl) (by kernel_rfl) ?_
        iterate 3 (refine wpSeq_quiet rfl rfl ?_; apply Exists.intro; refine ⟨?_, ?_⟩; (intro W hW; go_simp; try with_reducible rfl); (intro K hK; simp only [Act.put, List.setIfInBounds_toArray, List.set_cons_zero, List.set_cons_succ]; refine hK _ ?_; clear hK K))
        iterate 2 (refine wpSeq_skip rfl rfl (fun K hK => ?_); simp only [Act.put, List.setIfInBounds_toArray, List.set_cons_zero, List.set_cons_succ]; refine hK _ ?_; clear hK K)
        iterate 2 (refine wpSeq_quiet rfl rfl ?_; apply Exists.intro; refine ⟨?_, ?_⟩; (intro W hW; go_simp; try with_reducible rfl); (intro K hK; simp only [Act.put, List.setIfInBounds_toArray, List.set_cons_zero, List.set_cons_succ]; refine hK _ ?_; clear hK K))
        iterate 7 (refine wpSeq_skip rfl rfl (fun K hK => ?_); simp only [Act.put, List.setIfInBounds_toArray, List.set_cons_zero, List.set_cons_succ]; refine hK _ ?_; clear hK K)
        iterate 1 (refine wpSeq_quiet rfl rfl ?_; apply Exists.intro; refine ⟨?_, ?_⟩; (intro W hW; go_simp; try with_reducible rfl); (intro K hK; simp only [Act.put, List.setIfInBounds_toArray, List.set_cons_zero, List.set_cons_succ]; refine hK _ ?_; clear hK K))
        refine wpSeq_end ?_
        go_wp2_with fail
        go_meet
        case rel => exact ⟨rfl, hcut.drew⟩
    case rest =>
      rename_i hcut1
      obtain ⟨rfl, hcut2⟩ := hcut
      have X4 := X3.transN hcut2
      have l4 := lb _ X4
      clear la lc D3 E3 hbq ca cb ls lt
      go_wp2_with fail
      have ctr := decode_calls wc hb
      with_reducible refine Calls.mono ctr ?_
      clear ctr
      rintro e w5 ⟨rfl, x5⟩
      clear l4
      have okd := decs_ok hb
      have cd := dec_cases b
      generalize dece b = de at *
      have X5 : Ext Non v (w5.alloc (.cells (sl (decs b)) 32)) := (X4.transN x5).alloc _
      have D5 := Blk.new w5 32 (sl (decs b))
      have l5 := load_sl okd D5
      have n5 := sl_ne (decs b)
      rcases cd with ⟨rfl, hr, he⟩ | ⟨rfl, hz⟩
      · have e0 : ence (decs b) = 0 := by unfold ence; rw [if_pos hr]
        go_wp2_with fail
        have ctr := encode_calls (w5.alloc (.cells (sl (decs b)) 32)) okd
        with_reducible refine Calls.mono ctr ?_
        clear ctr
        rintro e w6 ⟨rfl, x6⟩
        rw [he, e0]
        clear l5
        have st6 := store_b64 w6 hb
        have X6 : Ext Non v (w6.alloc (.cells (ba b) 33)) := (X5.transN x6).alloc _
        have l6 := load_b64 (Blk.new w6 33 (ba b)) hb
        have l7 := lb _ X6
        have l8 := load_sl okd ((D5.extN_ x6).alloc (.cells (ba b) 33))
        have q1 := fun W => eql_b64 W hb hb
        have hq : (b == b) = true := beq_self_eq_true b
        simp only [hq] at q1
        go_wp2_with fail
        have ctr := right_calls (w6.alloc (.cells (ba b) 33)) okd
        with_reducible refine Calls.mono ctr ?_
        clear ctr
        rintro e w7 ⟨rfl, x7⟩
        rw [e0]
        go_wp2_with fail
        go_ret
        exact ⟨rfl, (X0.transN (X6.transN x7)).belowN⟩
      · rw [hz] at l5 X5 n5 ⊢
        have q1 := fun W => eql_sl W sl0_ok sl0_ok
        have hq : decide (sl0 = sl0) = true := decide_eq_true rfl
        simp only [hq] at q1
        have ok0 := sl0_ok
        go_wp2_with fail
        go_ret
        exact ⟨rfl, (X0.transN X5).belowN⟩
end Go.Proofs.Ytgfjpoopghdilaa
