/- The law SlotPacks: packets have the bytes that the document says, and any 614 bytes are one. -/
import Derived.Test.YtgfjpoopghdilaaRef10
namespace Go.Proofs.Ytgfjpoopghdilaa
open Go.RowKit

theorem cv_ownB {w : World} {base : Nat} {A : Option Addr} {c : Nat} {l : List UInt8} (h : OwB w base A c l) (n : Nat) (hn : l.length = n) : (convert 40 9 (.slice A n c)).run Try.prog w = .ok (.string (str l)) w :=
  run_convert_rd w 40 9 5 Try.underlying40 Try.underlying9 Try.underlying5 h.rd n c hn
set_option maxRecDepth 100000 in
set_option maxHeartbeats 8000000 in
theorem packs_walk (w : World) {s : Pk} (hs : s.ok) (A1 : Option Addr) (n1 c1 : Nat) (l1 : List UInt8) (hl1 : l1.length = n1) (hc1 : n1 ≤ c1) (r1 : Rd w (· < w.heap.size) A1 (bvs l1)) :
    Calls Try.prog 5 #[.agg (pk s), .slice A1 n1 c1] w fun e w' => e = .returned (.bool true) ∧ Below w.heap.size w w' := by
  obtain ⟨k1, hk1, hk1a, hk1b, _⟩ := min_at n1 700 (by omega)
  obtain ⟨b, hb⟩ : ∃ l, l1.take k1 = l := ⟨_, rfl⟩
  have rb : Rd w (· < w.heap.size) A1 (bvs b) := by
    rw [← hb, show bvs (l1.take k1) = (bvs l1).take k1 from by simp [bvs]]
    exact r1.take k1
  have lb : b.length = k1 := by rw [← hb]; simp; omega
  have mb : k1 ≤ c1 := by omega
  have ib : (k1 : Int) ≤ (c1 : Int) := by omega
  clear hb r1 hl1
  have np := pk_ne s
  have n0 := pk_ne pk0
  have B0 := Blk.new w 50 (pk s)
  have X0 : Ext Non w (w.alloc (.cells (pk s) 50)) := (Ext.refl Non w).alloc _
  go_enter Try.func5, Try.ntmps5
  go_upto_region 1 with (fail)
  generalize w.alloc (.cells (pk s) 50) = v at *
  go_wp2_with fail
  have ctr := shown_calls v
  with_reducible refine Calls.mono ctr ?_
  clear ctr
  rintro e w1 ⟨rfl, x1⟩
  have O1 : OwB (w1.alloc (.cells #[] 5)) w1.heap.size (some ⟨w1.heap.size, 0, none⟩) 0 [] := World.ownsRow_made w1 #[] 0 (Nat.le_refl _) (by simp [maxLen]) rfl
  have X1 : Ext Non v (w1.alloc (.cells #[] 5)) := x1.alloc _
  have hs1 : w1.heap.size ≤ (w1.alloc (.cells #[] 5)).heap.size := by rw [World.size_alloc]; omega
  have hvs := x1.size
  go_wp2_with (at_builtin; refine wp_ap8 rfl (.tmp 14) (.tmp 19) rfl 0 rfl O1 rfl k1 c1 rfl (rb.extN (X0.transN X1)) lb (by simp; omega) hs1 ?_; intro A2 c2 w2 o2 x2 hob2)
  rw [List.nil_append] at o2
  have X2 : Ext Non v w2 := X1.trans x2 (fun i hi h => by
    have h : w1.heap.size = i := Option.some.inj h
    omega)
  clear X1 O1 hs1 x2 hob2 x1
  have cv2 := cv_ownB o2 k1 lb
  have l2 := load_pk (B0.extN_ X2) hs
  go_simp
  go_wp2_with fail
  have ctr := pack_calls w2 hs
  with_reducible refine Calls.mono ctr ?_
  clear ctr
  rintro e w3 ⟨A, c, rfl, O, x3⟩
  clear cv2 l2
  have X3 := X2.transN x3
  have o3 := o2.extN x3
  go_wp2_with fail
  have ctr := unpack_calls c O.rd (pkb_len hs)
  with_reducible refine Calls.mono ctr ?_
  clear ctr
  rintro e w4 ⟨rfl, x4⟩
  rw [rdpk_pkb hs]
  have st4 := store_pk w4 hs
  have X4 : Ext Non v (w4.alloc (.cells (pk s) 50)) := (X3.transN x4).alloc _
  have o4 := (o3.extN x4).alloc (.cells (pk s) 50)
  have O4 := (O.extN x4).alloc (.cells (pk s) 50)
  have Q4 := Blk.new w4 50 (pk s)
  clear x3 o3 x4 o2 O X2 X3
  go_upto_region 6 with (fail)
  clear st4
  generalize w4.alloc (.cells (pk s) 50) = v4 at *
  generalize w4.heap.size = g4 at *
  have cx := fun W (x : Ext Non v4 W) => cv_ownB (O4.extN x) 614 (pkb_len hs)
  have lp := fun W (x : Ext Non v4 W) => load_pk (B0.extN_ (X4.transN x)) hs
  have lq := fun W (x : Ext Non v4 W) => load_pk (Q4.extN_ x) hs
  have q1 := fun W => neq_pk W hs hs
  simp only [show decide (s = s) = true from decide_eq_true rfl] at q1
  go_wp2_with fail
  refine wp_region_seq Non ((0, true) :: (1, true) :: (2, true) :: (3, false) :: (4, true) :: (5, true) :: (6, true) :: (7, true) :: (8, true) :: (9, true) :: (10, true) :: (11, true) :: (12, true) :: (13, true) :: []) (by kernel_rfl) (by kernel_rfl) (by kernel_rfl) ?_
  iterate 3 (refine wpSeq_quiet rfl rfl ?_; apply Exists.intro; refine ⟨?_, ?_⟩; (intro W hW; have u1 := cx W hW.drewL; have u2 := lp W hW.drewL; go_simp; try with_reducible rfl); (intro K hK; simp only [Act.put, List.setIfInBounds_toArray, List.set_cons_zero, List.set_cons_succ]; refine hK _ ?_; clear hK K))
  refine wpSeq_call rfl rfl (fun K hK => ?_)
  go_simp
  have ctr := rpack_calls v4.drew hs
  with_reducible refine Calls.mono ctr ?_
  clear ctr
  rintro e w5 ⟨rfl, x5⟩
  go_simp
  refine hK _ _ x5 ?_
  clear hK K
  iterate 10 (refine wpSeq_quiet rfl rfl ?_; apply Exists.intro; refine ⟨?_, ?_⟩; (intro W hW; have u1 := lq W (x5.drewL.transN hW); have u2 := lp W (x5.drewL.transN hW); go_simp; try with_reducible rfl); (intro K hK; simp only [Act.put, List.setIfInBounds_toArray, List.set_cons_zero, List.set_cons_succ]; refine hK _ ?_; clear hK K))
  refine wpSeq_end ?_
  have X5 := X4.transN x5.drewL
  have o5 := o4.extN x5.drewL
  clear cx lp lq q1 O4 Q4 x5 o4 X4 B0
  have hcs : k1 < 614 ∨ k1 = 614 ∨ 614 < k1 := by omega
  have q2 := fun W => eql_pk W pk0_ok pk0_ok
  simp only [show decide (pk0 = pk0) = true from decide_eq_true rfl] at q2
  rcases hcs with hk | rfl | hk
  · have ik : (k1 : Int) < 614 := by omega
    have ik2 : ¬ (614 : Int) < (k1 : Int) := by omega
    go_wp2_with fail
    have ctr := unpack_short w5 A2 k1 c2 hk
    with_reducible refine Calls.mono ctr ?_
    clear ctr
    rintro e w6 ⟨rfl, x6⟩
    have st6 := store_pk w6 pk0_ok
    have X6 := (X5.transN x6).alloc (.cells (pk pk0) 50)
    have ld := load_pk (Blk.new w6 50 (pk pk0)) pk0_ok
    have cb := cv_ownB ((o5.extN x6).alloc (.cells (pk pk0) 50)) k1 lb
    go_wp2_with fail
    go_ret
    exact ⟨rfl, (X0.transN X6).belowN⟩
  · go_wp2_with fail
    have ctr := unpack_calls c2 o5.rd lb
    with_reducible refine Calls.mono ctr ?_
    clear ctr
    rintro e w6 ⟨rfl, x6⟩
    have ok6 := rdpk_ok lb
    have n6 := pk_ne (rdpk b)
    have st6 := store_pk w6 ok6
    have X6 := (X5.transN x6).alloc (.cells (pk (rdpk b)) 50)
    have ld := load_pk (Blk.new w6 50 (pk (rdpk b))) ok6
    have o6 := (o5.extN x6).alloc (.cells (pk (rdpk b)) 50)
    go_wp2_with fail
    have ctr := pack_calls (w6.alloc (.cells (pk (rdpk b)) 50)) ok6
    with_reducible refine Calls.mono ctr ?_
    clear ctr
    rintro e w7 ⟨A7, c7, rfl, O7, x7⟩
    rw [pkb_rdpk lb] at O7
    have cv7 := cv_ownB O7 614 lb
    have cb := cv_ownB (o6.extN x7) 614 lb
    have X7 := X6.transN x7
    go_wp2_with fail
    go_ret
    exact ⟨rfl, (X0.transN X7).belowN⟩
  · have ik : ¬ (k1 : Int) < 614 := by omega
    have ik2 : (614 : Int) < (k1 : Int) := by omega
    go_wp2_with fail
    have ctr := unpack_long w5 A2 k1 c2 hk
    with_reducible refine Calls.mono ctr ?_
    clear ctr
    rintro e w6 ⟨rfl, x6⟩
    have st6 := store_pk w6 pk0_ok
    have X6 := (X5.transN x6).alloc (.cells (pk pk0) 50)
    have ld := load_pk (Blk.new w6 50 (pk pk0)) pk0_ok
    have cb := cv_ownB ((o5.extN x6).alloc (.cells (pk pk0) 50)) k1 lb
    go_wp2_with fail
    go_ret
    exact ⟨rfl, (X0.transN X6).belowN⟩
end Go.Proofs.Ytgfjpoopghdilaa
