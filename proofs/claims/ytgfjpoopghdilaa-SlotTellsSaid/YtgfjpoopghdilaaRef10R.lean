/- The document's answer for layer 10: Right, Write. -/
import Derived.Test.YtgfjpoopghdilaaRef10
import Derived.Test.YtgfjpoopghdilaaSlotFields
namespace Go.Proofs.Ytgfjpoopghdilaa
open Go.RowKit

theorem list_beq (a b : List UInt8) : (a == b) = decide (a = b) := by
  by_cases h : a = b
  · subst h; simp
  · rw [decide_eq_false h, beq_eq_false_iff_ne.2 h]
theorem str_toList_inj {a b : List UInt8} (h : str a = str b) : a = b := by
  have := congrArg (fun s : ByteArray => s.data.toList) h
  simpa [str] using this
set_option maxRecDepth 100000 in
set_option maxHeartbeats 4000000 in
theorem rright_calls (w : World) {s : Sl} (h : s.ok) : Calls Try.prog 13 #[.agg (sl s)] w fun e w' => e = .returned (.bool (right s)) ∧ Ext Non w w' := by
  have ne := sl_ne s
  have B0 := Blk.new w 32 (sl s)
  have X0 : Ext Non w (w.alloc (.cells (sl s) 32)) := (Ext.refl Non w).alloc _
  go_enter Try.func13, Try.ntmps13
  go_upto_region 1 with (fail)
  generalize w.alloc (.cells (sl s) 32) = v at *
  have c0 := (B0.cell 0).trans (sl_get0 h)
  have c1 := (B0.cell 1).trans (sl_get1 h)
  have c2 := (B0.cell 2).trans (sl_get2 h)
  have c3 := (B0.cell 3).trans (sl_get3 h)
  have c4 := (B0.cell 4).trans (sl_get4 h)
  have c37 := (B0.cell 37).trans (sl_get37 h)
  have c38 := (B0.cell 38).trans (sl_get38 h)
  by_cases hlo : s.lo ≤ s.hi
  · have i1 : ¬ (s.hi : Int) < (s.lo : Int) := by omega
    cases hl : s.last
    · rw [hl] at c0
      have e : right s = decide (s.box = 0) := by
        apply right_bool
        simp [hl, hlo]
      have E := Lib.hid e
      clear e
      go_wp2_with fail
      go_ret
      exact ⟨congrArg (fun b => Ending.returned (.bool b)) ((int_beq s.box 0).trans E.out.symm), X0⟩
    · rw [hl] at c0
      go_wp2_with fail
      have ctr := rzeros_calls v 16 (by omega)
      with_reducible refine Calls.mono ctr ?_
      clear ctr
      rintro e w1 ⟨rfl, rfl⟩
      have s5 := fun W => run_arr_all (P := Try.prog) W Try.underlying28 s8 w.heap.size 5 (by decide)
      have s21 := fun W => run_arr_all (P := Try.prog) W Try.underlying29 s8 w.heap.size 21 (by decide)
      have v5 := cv_sub B0 _ _ _ (slL_nonce s) 5 16 rfl h.nonce
      have v21 := cv_sub B0 _ _ _ (slL_mac s) 21 16 (by simp [bvs_length, h.nonce]) h.mac
      have cases6 : ∀ (d1 d2 d3 d4 d5 : Bool), decide (s.next = 0) = d1 → decide (s.who = 0) = d2 → decide (s.epoch = 0) = d3 → decide (s.nonce = zeros 16) = d4 → decide (s.mac = zeros 16) = d5 → right s = (d1 && d2 && d3 && d4 && d5) := by
        intro d1 d2 d3 d4 d5 h1 h2 h3 h4 h5
        subst h1 h2 h3 h4 h5
        apply right_bool
        simp [hl, hlo, and_assoc]
      obtain ⟨d1, h1⟩ : ∃ d, decide (s.next = 0) = d := ⟨_, rfl⟩
      obtain ⟨d2, h2⟩ : ∃ d, decide (s.who = 0) = d := ⟨_, rfl⟩
      obtain ⟨d3, h3⟩ : ∃ d, decide (s.epoch = 0) = d := ⟨_, rfl⟩
      obtain ⟨d4, h4⟩ : ∃ d, decide (s.nonce = zeros 16) = d := ⟨_, rfl⟩
      obtain ⟨d5, h5⟩ : ∃ d, decide (s.mac = zeros 16) = d := ⟨_, rfl⟩
      have E := Lib.hid (cases6 d1 d2 d3 d4 d5 h1 h2 h3 h4 h5)
      have i1 : ((s.next : Int) == 0) = d1 := (int_beq s.next 0).trans h1
      have i2 : ((s.who : Int) == 0) = d2 := (int_beq s.who 0).trans h2
      have i3 : ((s.epoch : Int) == 0) = d3 := (int_beq s.epoch 0).trans h3
      have i4 : (s.nonce == zeros 16) = d4 := (list_beq _ _).trans h4
      have i5 : (s.mac == zeros 16) = d5 := (list_beq _ _).trans h5
      clear cases6 h1 h2 h3 h4 h5
      have hz : str (zeros (Int.toNat 16)) = str (zeros 16) := rfl
      cases d1
      · go_wp2_with fail
        go_ret
        exact ⟨by rw [E.out]; rfl, X0⟩
      · cases d2
        · go_wp2_with fail
          go_ret
          exact ⟨by rw [E.out]; rfl, X0⟩
        · cases d3
          · go_wp2_with fail
            go_ret
            exact ⟨by rw [E.out]; rfl, X0⟩
          · cases d4
            · go_wp2_with fail
              go_ret
              exact ⟨by rw [E.out]; rfl, X0⟩
            · cases d5
              all_goals
                go_wp2_with fail
                go_ret
                exact ⟨by rw [E.out]; rfl, X0⟩
  · have i1 : (s.hi : Int) < (s.lo : Int) := by omega
    have e : right s = false := by
      apply right_bool
      simp [hlo]
    go_wp2_with fail
    go_ret
    exact ⟨by rw [e]; rfl, X0⟩

set_option maxRecDepth 100000 in
set_option maxHeartbeats 4000000 in
theorem rwrite_calls (w : World) {s : Sl} (h : s.ok) : Calls Try.prog 16 #[.agg (sl s)] w fun e w' => e = .returned (.string (str (slb s))) ∧ Ext Non w w' := by
  have ne := sl_ne s
  have B0 := Blk.new w 32 (sl s)
  have X0 : Ext Non w (w.alloc (.cells (sl s) 32)) := (Ext.refl Non w).alloc _
  go_enter Try.func16, Try.ntmps16
  go_upto_region 1 with (fail)
  generalize w.alloc (.cells (sl s) 32) = v at *
  have c0 := fun W (x : Ext Non v W) => ((B0.extN_ x).cell 0).trans (sl_get0 h)
  have c1 := fun W (x : Ext Non v W) => ((B0.extN_ x).cell 1).trans (sl_get1 h)
  have c2 := fun W (x : Ext Non v W) => ((B0.extN_ x).cell 2).trans (sl_get2 h)
  have c3 := fun W (x : Ext Non v W) => ((B0.extN_ x).cell 3).trans (sl_get3 h)
  have c4 := fun W (x : Ext Non v W) => ((B0.extN_ x).cell 4).trans (sl_get4 h)
  have c37 := fun W (x : Ext Non v W) => ((B0.extN_ x).cell 37).trans (sl_get37 h)
  have c38 := fun W (x : Ext Non v W) => ((B0.extN_ x).cell 38).trans (sl_get38 h)
  have c39 := fun W (x : Ext Non v W) => ((B0.extN_ x).cell 39).trans (sl_get39 h)
  have s5 := fun W => run_arr_all (P := Try.prog) W Try.underlying28 s8 w.heap.size 5 (by decide)
  have s21 := fun W => run_arr_all (P := Try.prog) W Try.underlying29 s8 w.heap.size 21 (by decide)
  have v5 := fun W (x : Ext Non v W) => cv_sub (B0.extN_ x) _ _ _ (slL_nonce s) 5 16 rfl h.nonce
  have v21 := fun W (x : Ext Non v W) => cv_sub (B0.extN_ x) _ _ _ (slL_mac s) 21 16 (by simp [bvs_length, h.nonce]) h.mac
  have hn := h.next
  have hb := h.box
  have hw := h.who
  have he := h.epoch
  have hl := h.lo
  have hh := h.hi
  have hd := h.delay
  have wnext : IntKind.u64.wrap (s.next : Int) = (s.next : Int) := by rw [IntKind.wrap_u64]; omega
  have wbox : IntKind.u64.wrap (s.box : Int) = (s.box : Int) := by rw [IntKind.wrap_u64]; omega
  have wwho : IntKind.u64.wrap (s.who : Int) = (s.who : Int) := by rw [IntKind.wrap_u64]; omega
  have wepoch : IntKind.u64.wrap (s.epoch : Int) = (s.epoch : Int) := by rw [IntKind.wrap_u64]; omega
  have wlo : IntKind.u64.wrap (s.lo : Int) = (s.lo : Int) := by rw [IntKind.wrap_u64]; omega
  have whi : IntKind.u64.wrap (s.hi : Int) = (s.hi : Int) := by rw [IntKind.wrap_u64]; omega
  have wdelay : IntKind.u64.wrap (s.delay : Int) = (s.delay : Int) := by rw [IntKind.wrap_u64]; omega
  obtain ⟨kd, hkd⟩ : ∃ k : Nat, (if s.last then 1 else 0) = k := ⟨_, rfl⟩
  obtain ⟨tw, htw⟩ : ∃ k : Nat, (if s.last then s.box else s.next) = k := ⟨_, rfl⟩
  obtain ⟨L0, h0⟩ : ∃ L, be 1 kd ++ be 2 tw = L := ⟨_, rfl⟩
  obtain ⟨L1, h1⟩ : ∃ L, L0 ++ be 8 s.lo = L := ⟨_, rfl⟩
  obtain ⟨L2, h2⟩ : ∃ L, L1 ++ be 8 s.hi = L := ⟨_, rfl⟩
  obtain ⟨L3, h3⟩ : ∃ L, L2 ++ be 4 s.delay = L := ⟨_, rfl⟩
  obtain ⟨L4, h4⟩ : ∃ L, L3 ++ be 2 s.who = L := ⟨_, rfl⟩
  obtain ⟨L5, h5⟩ : ∃ L, L4 ++ be 4 s.epoch = L := ⟨_, rfl⟩
  obtain ⟨L6, h6⟩ : ∃ L, L5 ++ s.nonce = L := ⟨_, rfl⟩
  obtain ⟨L7, h7⟩ : ∃ L, L6 ++ s.mac = L := ⟨_, rfl⟩
  obtain ⟨L8, h8⟩ : ∃ L, L7 ++ zeros 3 = L := ⟨_, rfl⟩
  have hfin : slb s = L8 := by rw [← h8, ← h7, ← h6, ← h5, ← h4, ← h3, ← h2, ← h1, ← h0, ← hkd, ← htw]; rfl
  have n0 : L0.length = 3 := by rw [← h0]; simp [be_length]
  have n1 : L1.length = 11 := by rw [← h1]; simp [n0, be_length]
  have n2 : L2.length = 19 := by rw [← h2]; simp [n1, be_length]
  have n3 : L3.length = 23 := by rw [← h3]; simp [n2, be_length]
  have n4 : L4.length = 25 := by rw [← h4]; simp [n3, be_length]
  have n5 : L5.length = 29 := by rw [← h5]; simp [n4, be_length]
  have n6 : L6.length = 45 := by rw [← h6]; simp [n5, h.nonce]
  have n7 : L7.length = 61 := by rw [← h7]; simp [n6, h.mac]
  obtain ⟨p01, p02, p03, p04, p05⟩ := sum_facts h0 1 2 (be_length _ _) (be_length _ _) (by omega)
  obtain ⟨p11, p12, p13, p14, p15⟩ := sum_facts h1 3 8 n0 (be_length _ _) (by omega)
  obtain ⟨p21, p22, p23, p24, p25⟩ := sum_facts h2 11 8 n1 (be_length _ _) (by omega)
  obtain ⟨p31, p32, p33, p34, p35⟩ := sum_facts h3 19 4 n2 (be_length _ _) (by omega)
  obtain ⟨p41, p42, p43, p44, p45⟩ := sum_facts h4 23 2 n3 (be_length _ _) (by omega)
  obtain ⟨p51, p52, p53, p54, p55⟩ := sum_facts h5 25 4 n4 (be_length _ _) (by omega)
  obtain ⟨p61, p62, p63, p64, p65⟩ := sum_facts h6 29 16 n5 h.nonce (by omega)
  obtain ⟨p71, p72, p73, p74, p75⟩ := sum_facts h7 45 16 n6 h.mac (by omega)
  obtain ⟨p81, p82, p83, p84, p85⟩ := sum_facts h8 61 3 n7 (zeros_length 3) (by omega)
  have HF := Lib.hid hfin
  clear h1 h2 h3 h4 h5 h6 h7 h8 n0 n1 n2 n3 n4 n5 n6 n7 hfin
  go_wp2_with fail
  refine wp_region_seq Non ((1, true) :: (2, true) :: (3, true) :: (0, false) :: (4, false) :: (5, true) :: (6, true) :: []) (by kernel_rfl) (by kernel_rfl) (by kernel_rfl) ?_
  iterate 3 (refine wpSeq_quiet rfl rfl ?_; apply Exists.intro; refine ⟨?_, ?_⟩; (intro W hW; have u0 := c1 W hW.drewL; go_simp; try with_reducible rfl); (intro K hK; simp only [Act.put, List.setIfInBounds_toArray, List.set_cons_zero, List.set_cons_succ]; refine hK _ ?_; clear hK K))
  refine wpSeq_call rfl rfl (fun K hK => ?_)
  go_simp
  have ctr := text_calls v.drew 0 (by omega) 1 (by omega)
  with_reducible refine Calls.mono ctr ?_
  clear ctr
  rintro e w1 ⟨rfl, x1⟩
  go_simp
  refine hK _ _ x1 ?_
  clear hK K
  refine wpSeq_call rfl rfl (fun K hK => ?_)
  go_simp
  have ctr := text_calls w1 s.next (by omega) 2 (by omega)
  with_reducible refine Calls.mono ctr ?_
  clear ctr
  rintro e w2 ⟨rfl, x2⟩
  go_simp
  refine hK _ _ x2 ?_
  clear hK K
  obtain ⟨La, ha⟩ : ∃ L, be 1 0 ++ be 2 s.next = L := ⟨_, rfl⟩
  obtain ⟨q1, q2, q3, q4, q5⟩ := sum_facts ha 1 2 (be_length _ _) (be_length _ _) (by omega)
  iterate 2 (refine wpSeq_quiet rfl rfl ?_; apply Exists.intro; refine ⟨?_, ?_⟩; (intro W hW; go_simp; try with_reducible rfl); (intro K hK; simp only [Act.put, List.setIfInBounds_toArray, List.set_cons_zero, List.set_cons_succ]; refine hK _ ?_; clear hK K))
  refine wpSeq_end ?_
  have X2 : Ext Non v w2 := x1.drewL.transN x2
  clear x1 x2 q1 q2 q3 q4 q5
  have d0 := c0 w2 X2
  go_upto_if 11 with (fail)
  go_cut [3] from 11 (fun c3 wc => c3 = .string (str L0) ∧ Ext Non v wc)
  case first =>
    cases hl0 : s.last
    · rw [hl0] at d0 hkd htw
      have e : La = L0 := by rw [← ha, ← h0, ← hkd, ← htw]; rfl
      go_wp2_with fail
      go_meet
      case rel => exact ⟨by rw [e], X2⟩
    · rw [hl0] at d0 hkd htw
      have e1 : 1 = kd := hkd
      have e2 : s.box = tw := htw
      subst e1 e2
      go_wp2_with fail
      refine wp_region_seq Non ((1, true) :: (2, true) :: (3, true) :: (0, false) :: (4, false) :: (5, true) :: (6, true) :: []) (by kernel_rfl) (by kernel_rfl) (by kernel_rfl) ?_
      iterate 3 (refine wpSeq_quiet rfl rfl ?_; apply Exists.intro; refine ⟨?_, ?_⟩; (intro W hW; have u0 := c2 W (X2.transN hW.drewL); go_simp; try with_reducible rfl); (intro K hK; simp only [Act.put, List.setIfInBounds_toArray, List.set_cons_zero, List.set_cons_succ]; refine hK _ ?_; clear hK K))
      refine wpSeq_call rfl rfl (fun K hK => ?_)
      go_simp
      have ctr := text_calls w2.drew 1 (by omega) 1 (by omega)
      with_reducible refine Calls.mono ctr ?_
      clear ctr
      rintro e w3 ⟨rfl, x3⟩
      go_simp
      refine hK _ _ x3 ?_
      clear hK K
      refine wpSeq_call rfl rfl (fun K hK => ?_)
      go_simp
      have ctr := text_calls w3 s.box (by omega) 2 (by omega)
      with_reducible refine Calls.mono ctr ?_
      clear ctr
      rintro e w4 ⟨rfl, x4⟩
      go_simp
      refine hK _ _ x4 ?_
      clear hK K
      iterate 2 (refine wpSeq_quiet rfl rfl ?_; apply Exists.intro; refine ⟨?_, ?_⟩; (intro W hW; go_simp; try with_reducible rfl); (intro K hK; simp only [Act.put, List.setIfInBounds_toArray, List.set_cons_zero, List.set_cons_succ]; refine hK _ ?_; clear hK K))
      refine wpSeq_end ?_
      go_wp2_with fail
      go_meet
      case rel => exact ⟨rfl, X2.transN (x3.drewL.transN x4)⟩
  case rest =>
    obtain ⟨rfl, Xc⟩ := hcut
    clear d0 X2 c0 c1 c2
    go_wp2_with fail
    refine wp_region_seq Non ((0, true) :: (1, true) :: (2, true) :: (5, true) :: (6, true) :: (9, true) :: (10, true) :: (11, true) :: (3, false) :: (4, true) :: (7, false) :: (8, true) :: (12, false) :: (13, true) :: (14, true) :: []) (by kernel_rfl) (by kernel_rfl) (by kernel_rfl) ?_
    iterate 8 (refine wpSeq_quiet rfl rfl ?_; apply Exists.intro; refine ⟨?_, ?_⟩; (intro W hW; have u1 := c37 W (Xc.transN hW.drewL); have u2 := c38 W (Xc.transN hW.drewL); have u3 := c39 W (Xc.transN hW.drewL); go_simp; try with_reducible rfl); (intro K hK; simp only [Act.put, List.setIfInBounds_toArray, List.set_cons_zero, List.set_cons_succ]; refine hK _ ?_; clear hK K))
    refine wpSeq_call rfl rfl (fun K hK => ?_)
    go_simp
    have ctr := text_calls wc.drew s.lo (by omega) 8 (by omega)
    with_reducible refine Calls.mono ctr ?_
    clear ctr
    rintro e w3 ⟨rfl, x3⟩
    go_simp
    refine hK _ _ x3 ?_
    clear hK K
    iterate 1 (refine wpSeq_quiet rfl rfl ?_; apply Exists.intro; refine ⟨?_, ?_⟩; (intro W hW; go_simp; try with_reducible rfl); (intro K hK; simp only [Act.put, List.setIfInBounds_toArray, List.set_cons_zero, List.set_cons_succ]; refine hK _ ?_; clear hK K))
    refine wpSeq_call rfl rfl (fun K hK => ?_)
    go_simp
    have ctr := text_calls w3 s.hi (by omega) 8 (by omega)
    with_reducible refine Calls.mono ctr ?_
    clear ctr
    rintro e w4 ⟨rfl, x4⟩
    go_simp
    refine hK _ _ x4 ?_
    clear hK K
    iterate 1 (refine wpSeq_quiet rfl rfl ?_; apply Exists.intro; refine ⟨?_, ?_⟩; (intro W hW; go_simp; try with_reducible rfl); (intro K hK; simp only [Act.put, List.setIfInBounds_toArray, List.set_cons_zero, List.set_cons_succ]; refine hK _ ?_; clear hK K))
    refine wpSeq_call rfl rfl (fun K hK => ?_)
    go_simp
    have ctr := text_calls w4 s.delay (by omega) 4 (by omega)
    with_reducible refine Calls.mono ctr ?_
    clear ctr
    rintro e w5 ⟨rfl, x5⟩
    go_simp
    refine hK _ _ x5 ?_
    clear hK K
    iterate 2 (refine wpSeq_quiet rfl rfl ?_; apply Exists.intro; refine ⟨?_, ?_⟩; (intro W hW; go_simp; try with_reducible rfl); (intro K hK; simp only [Act.put, List.setIfInBounds_toArray, List.set_cons_zero, List.set_cons_succ]; refine hK _ ?_; clear hK K))
    refine wpSeq_end ?_
    have X5 := Xc.transN ((x3.drewL.transN x4).transN x5)
    clear x3 x4 x5 Xc
    go_wp2_with fail
    refine wp_region_seq Non ((0, true) :: (1, true) :: (2, true) :: (3, true) :: (6, true) :: (7, true) :: (8, true) :: (11, true) :: (12, true) :: (13, true) :: (15, true) :: (16, true) :: (17, true) :: (4, false) :: (5, true) :: (9, false) :: (10, true) :: (14, true) :: (18, true) :: (19, false) :: (20, true) :: (21, true) :: []) (by kernel_rfl) (by kernel_rfl) (by kernel_rfl) ?_
    iterate 13 (refine wpSeq_quiet rfl rfl ?_; apply Exists.intro; refine ⟨?_, ?_⟩; (intro W hW; have u1 := c3 W (X5.transN hW.drewL); have u2 := c4 W (X5.transN hW.drewL); have u3 := v5 W (X5.transN hW.drewL); have u4 := v21 W (X5.transN hW.drewL); go_simp; try with_reducible rfl); (intro K hK; simp only [Act.put, List.setIfInBounds_toArray, List.set_cons_zero, List.set_cons_succ]; refine hK _ ?_; clear hK K))
    refine wpSeq_call rfl rfl (fun K hK => ?_)
    go_simp
    have ctr := text_calls w5.drew s.who (by omega) 2 (by omega)
    with_reducible refine Calls.mono ctr ?_
    clear ctr
    rintro e w6 ⟨rfl, x6⟩
    go_simp
    refine hK _ _ x6 ?_
    clear hK K
    iterate 1 (refine wpSeq_quiet rfl rfl ?_; apply Exists.intro; refine ⟨?_, ?_⟩; (intro W hW; go_simp; try with_reducible rfl); (intro K hK; simp only [Act.put, List.setIfInBounds_toArray, List.set_cons_zero, List.set_cons_succ]; refine hK _ ?_; clear hK K))
    refine wpSeq_call rfl rfl (fun K hK => ?_)
    go_simp
    have ctr := text_calls w6 s.epoch (by omega) 4 (by omega)
    with_reducible refine Calls.mono ctr ?_
    clear ctr
    rintro e w7 ⟨rfl, x7⟩
    go_simp
    refine hK _ _ x7 ?_
    clear hK K
    iterate 3 (refine wpSeq_quiet rfl rfl ?_; apply Exists.intro; refine ⟨?_, ?_⟩; (intro W hW; go_simp; try with_reducible rfl); (intro K hK; simp only [Act.put, List.setIfInBounds_toArray, List.set_cons_zero, List.set_cons_succ]; refine hK _ ?_; clear hK K))
    refine wpSeq_call rfl rfl (fun K hK => ?_)
    go_simp
    have ctr := rzeros_calls w7 3 (by omega)
    with_reducible refine Calls.mono ctr ?_
    clear ctr
    rintro e w8 ⟨rfl, rfl⟩
    go_simp
    refine hK _ _ (Ext.refl Non w7) ?_
    clear hK K
    have hz : str (zeros (Int.toNat 3)) = str (zeros 3) := rfl
    iterate 2 (refine wpSeq_quiet rfl rfl ?_; apply Exists.intro; refine ⟨?_, ?_⟩; (intro W hW; go_simp; try with_reducible rfl); (intro K hK; simp only [Act.put, List.setIfInBounds_toArray, List.set_cons_zero, List.set_cons_succ]; refine hK _ ?_; clear hK K))
    refine wpSeq_end ?_
    have X7 := X5.transN (x6.drewL.transN x7)
    go_wp2_with fail
    go_ret
    exact ⟨by rw [HF.out]; rfl, X0.transN X7⟩
end Go.Proofs.Ytgfjpoopghdilaa
