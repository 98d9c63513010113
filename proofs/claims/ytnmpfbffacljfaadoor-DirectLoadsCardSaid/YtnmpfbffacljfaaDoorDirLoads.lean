/- The law DirectLoads: its walk. -/
import Derived.Test.YtnmpfbffacljfaaDoorDirJ
import Derived.Test.YtnmpfbffacljfaaDoorConv
import Derived.Test.YtnmpfbffacljfaaDoorSeqS
namespace Go.Proofs.YtnmpfbffacljfaaDoor
open Go.RowKit

set_option maxRecDepth 100000 in
set_option maxHeartbeats 4000000 in
theorem loads_walk (w0 : World) (A : Option Addr) (n c : Nat) (l0 : List UInt8) (hl0 : l0.length = n) (hc : n ≤ c) (R0 : Rd w0 (· < w0.heap.size) A (bvs l0)) (ep : Nat) (G : Glob w0) (hw2 : 2 ≤ w0.heap.size) :
    Calls Tryd.prog 4 #[.slice A n c, .int .u32 ep] w0 fun e' w' => e' = .returned (.bool true) ∧ Below w0.heap.size w0 w' := by

  obtain ⟨k, hk1, hk2, hk3⟩ : ∃ k : Nat, min n 600 = k ∧ k ≤ n ∧ k ≤ 600 := ⟨min n 600, rfl, by omega, by omega⟩
  obtain ⟨l, hl⟩ : ∃ l, l0.take k = l := ⟨_, rfl⟩
  have R : Rd w0 (· < w0.heap.size) A (bvs l) := by rw [← hl]; have := R0.take k; simpa [bvs, List.map_take] using this
  have hlk : l.length = k := by rw [← hl, List.length_take]; omega
  have ik : (k : Int) ≤ (c : Int) := by omega
  have imin : min (n : Int) 600 = (k : Int) := by omega
  clear hl R0 hl0 hk1
  go_enter Tryd.func4, Tryd.ntmps4
  go_wp2_with fail
  have ctr := shown_calls G hw2
  with_reducible refine Calls.mono ctr ?_
  clear ctr
  rintro e w1 ⟨rfl, X1⟩
  go_wp2_with fail
  go_loopw [6] (fun z wr => ∃ i : Nat, i ≤ 2 ∧ z = .int .i64 i ∧ Ext Non w0 wr) (fun z _ => 2 - (intOf z).toNat)
  case atStart => exact ⟨0, by omega, rfl, X1⟩
  case round =>
    obtain ⟨i, hi, rfl, X⟩ := hrel
    by_cases h2 : i < 2
    · have R1 := R.extN X
      have i1 : (i : Int) < 2 := by omega
      have cv := conv_str R1 k c hlk
      rcases Nat.eq_zero_or_pos i with h0 | h0
      · have i2 : ¬ ((i : Int) = 1) := by omega
        go_upto_region 9 with (fail)
        have X5 : Ext Non w0 wr := X
        obtain ⟨cm, w5, hcv, hcm, x5, hs5, R5⟩ := conv_bytes wr l
        obtain ⟨q, hq⟩ : ∃ q, (l).length = q := ⟨_, rfl⟩
        rw [hq] at hcv hcm
        have X6 := X5.transN x5
        have hs6 := X6.size
        have G6 := G.extN X6
        have hMM : (l == l) = true := beq_self_eq_true _
        go_wp2_with fail
        clear hcv
        by_cases hz0 : (lode l).1 = 0
        case neg =>
          obtain ⟨z, hz⟩ : ∃ z, (lode l).1 = z := ⟨_, rfl⟩
          rw [hz] at hz0
          have HZ := Lib.hid hz
          clear hz
          have n1 : ((z : Int) != 0) = true := by simpa using hz0
          have ctr := load_no G6 (by omega) cm q R5 hq hcm (by omega) (fun k hk => by omega) z HZ.out hz0
          with_reducible refine Calls.mono ctr ?_
          clear ctr
          rintro e w6 ⟨rfl, x6⟩
          have R6 := R5.extN x6
          go_wp2_with fail
          have ctr := rload_no w6 l (by omega) z HZ.out hz0
          with_reducible refine Calls.mono ctr ?_
          clear ctr
          rintro e w7 ⟨rfl, x7⟩
          have cv7 := conv_str (R6.extN x7) q cm hq
          have X7 := (X6.transN x6).transN x7
          go_upto_region 14 with (fail)
          refine wp_region_seq Non ((0, true) :: (1, true) :: (2, true) :: (3, true) :: (5, true) :: (6, true) :: (7, true) :: (8, true) :: (9, true) :: (4, false) :: (10, true) :: (11, true) :: (12, true) :: (15, true) :: (13, false) :: (14, true) :: (16, true) :: (17, true) :: (18, true) :: (19, true) :: (20, true) :: (22, true) :: (23, true) :: (21, false) :: (24, false) :: (25, false) :: (26, true) :: (27, true) :: (28, true) :: []) (by kernel_rfl) (by kernel_rfl) (by kernel_rfl) ?_
          iterate 3 (refine wpSeq_quiet rfl rfl ?_; apply Exists.intro; refine ⟨?_, ?_⟩; (intro W hW; go_simp; try with_reducible rfl); (intro K hK; simp only [Act.put, List.setIfInBounds_toArray, List.set_cons_zero, List.set_cons_succ]; refine hK _ ?_; clear hK K))
          iterate 6 (refine wpSeq_skip rfl rfl (fun K hK => ?_); simp only [Act.put, List.setIfInBounds_toArray, List.set_cons_zero, List.set_cons_succ]; refine hK _ ?_; clear hK K)
          iterate 1 (refine wpSeq_pass rfl rfl (fun K hK => ?_); simp only [Act.put, List.setIfInBounds_toArray, List.set_cons_zero, List.set_cons_succ]; refine hK _ ?_; clear hK K)
          iterate 4 (refine wpSeq_skip rfl rfl (fun K hK => ?_); simp only [Act.put, List.setIfInBounds_toArray, List.set_cons_zero, List.set_cons_succ]; refine hK _ ?_; clear hK K)
          iterate 1 (refine wpSeq_pass rfl rfl (fun K hK => ?_); simp only [Act.put, List.setIfInBounds_toArray, List.set_cons_zero, List.set_cons_succ]; refine hK _ ?_; clear hK K)
          iterate 8 (refine wpSeq_skip rfl rfl (fun K hK => ?_); simp only [Act.put, List.setIfInBounds_toArray, List.set_cons_zero, List.set_cons_succ]; refine hK _ ?_; clear hK K)
          iterate 3 (refine wpSeq_pass rfl rfl (fun K hK => ?_); simp only [Act.put, List.setIfInBounds_toArray, List.set_cons_zero, List.set_cons_succ]; refine hK _ ?_; clear hK K)
          iterate 2 (refine wpSeq_skip rfl rfl (fun K hK => ?_); simp only [Act.put, List.setIfInBounds_toArray, List.set_cons_zero, List.set_cons_succ]; refine hK _ ?_; clear hK K)
          iterate 1 (refine wpSeq_quiet rfl rfl ?_; apply Exists.intro; refine ⟨?_, ?_⟩; (intro W hW; go_simp; try with_reducible rfl); (intro K hK; simp only [Act.put, List.setIfInBounds_toArray, List.set_cons_zero, List.set_cons_succ]; refine hK _ ?_; clear hK K))
          refine wpSeq_end ?_
          go_wp2_with fail
          go_roundw
          case rel => exact ⟨i + 1, by omega, by go_num, X7.drew⟩
          case measure => simp [intOf]; omega
        case pos =>
          obtain ⟨T, hT⟩ : ∃ T, lode l = (0, T) := ⟨(lode l).2, by rw [← hz0]⟩
          obtain ⟨hS, hdT⟩ := lode_sound hT
          have HT := Lib.hid hT
          clear hT hz0
          obtain ⟨nT, hnT⟩ : ∃ nT, T.length = nT := ⟨_, rfl⟩
          obtain ⟨V, hV⟩ : ∃ V, T.filter (fun r => r.has ep) = V := ⟨_, rfl⟩
          obtain ⟨nv, hnv⟩ : ∃ nv, V.length = nv := ⟨_, rfl⟩
          have hnv64 : nv ≤ 64 := by
            have h1 : V.length ≤ T.length := by rw [← hV]; exact List.length_filter_le _ _
            have h2 := hS.len
            omega
          have HV := Lib.hid hV
          have HD := Lib.hid hdT
          clear hV hdT
          have ctr := load_ok G6 (by omega) cm q R5 hq hcm (by omega) (fun k hk => by omega) T HT.out
          with_reducible refine Calls.mono ctr ?_
          clear ctr
          rintro e w6 ⟨d, rfl, H6, x6⟩
          have R6 := R5.extN x6
          go_wp2_with fail
          have ctr := rload_ok w6 l (by omega) T HT.out
          with_reducible refine Calls.mono ctr ?_
          clear ctr
          rintro e w7 ⟨d2, rfl, H7, x7⟩
          have cv7 := conv_str (R6.extN x7) q cm hq
          have X7 := (X6.transN x6).transN x7
          have J7 := H6.extN x7
          have G7 := G.extN X7
          go_upto_region 14 with (fail)
          refine wp_region_seq Non ((0, true) :: (1, true) :: (2, true) :: (3, true) :: (5, true) :: (6, true) :: (7, true) :: (8, true) :: (9, true) :: (4, false) :: (10, true) :: (11, true) :: (12, true) :: (15, true) :: (13, false) :: (14, true) :: (16, true) :: (17, true) :: (18, true) :: (19, true) :: (20, true) :: (22, true) :: (23, true) :: (21, false) :: (24, false) :: (25, false) :: (26, true) :: (27, true) :: (28, true) :: []) (by kernel_rfl) (by kernel_rfl) (by kernel_rfl) ?_
          clear cv7
          have y8 : Ext Non w7 w7.drew := (Ext.refl Non w7).drew
          replace X7 := X7.transN y8
          replace J7 := J7.extN y8
          replace H7 := H7.extN y8
          replace G7 := G7.extN y8
          have hs7 := X7.size
          obtain ⟨A2, c2, B2, _, _⟩ := H7.ex
          rw [hnT] at B2
          clear y8 R6 R5
          generalize w7.drew = w8 at *
          iterate 9 (refine wpSeq_quiet rfl rfl ?_; apply Exists.intro; refine ⟨?_, ?_⟩; (intro W hW; have u := (B2.extN_ hW).cell 0; go_simp; try with_reducible rfl); (intro K hK; simp only [Act.put, List.setIfInBounds_toArray, List.set_cons_zero, List.set_cons_succ]; refine hK _ ?_; clear hK K))
          clear B2
          refine wpSeq_call rfl rfl (fun K hK => ?_)
          go_simp
          have ctr := len_calls J7 nT hnT
          with_reducible refine Calls.mono ctr ?_
          clear ctr
          rintro e w9 ⟨rfl, rfl⟩
          go_simp
          refine hK _ _ (Ext.refl _ _) ?_
          clear hK K
          iterate 4 (refine wpSeq_quiet rfl rfl ?_; apply Exists.intro; refine ⟨?_, ?_⟩; (intro W hW; go_simp; try with_reducible rfl); (intro K hK; simp only [Act.put, List.setIfInBounds_toArray, List.set_cons_zero, List.set_cons_succ]; refine hK _ ?_; clear hK K))
          refine wpSeq_call rfl rfl (fun K hK => ?_)
          go_simp
          have ctr := bytes_calls G7 (by omega) J7 q (by rw [HD.out]; exact hq)
          with_reducible refine Calls.mono ctr ?_
          clear ctr
          rintro e w9 ⟨Ab, cb, rfl, Ob, x9⟩
          go_simp
          refine hK _ _ x9 ?_
          clear hK K
          rw [HD.out] at Ob
          have Rb := Ob.rd
          iterate 8 (refine wpSeq_quiet rfl rfl ?_; apply Exists.intro; refine ⟨?_, ?_⟩; (intro W hW; have cv := conv_str (Rb.extN hW) q cb hq; go_simp; try with_reducible rfl); (intro K hK; simp only [Act.put, List.setIfInBounds_toArray, List.set_cons_zero, List.set_cons_succ]; refine hK _ ?_; clear hK K))
          clear Ob Rb
          have J9 := J7.extN x9
          have H9 := H7.extN x9
          refine wpSeq_call rfl rfl (fun K hK => ?_)
          go_simp
          have ctr := valid_calls J9 ep V HV.out nv hnv
          with_reducible refine Calls.mono ctr ?_
          clear ctr
          rintro e w10 ⟨A3, c3, rfl, O3, x10⟩
          go_simp
          refine hK _ _ x10 ?_
          clear hK K
          have H10 := H9.extN x10
          refine wpSeq_call rfl rfl (fun K hK => ?_)
          go_simp
          have ctr := rvalid_calls H10 hS.len ep V HV.out nv hnv
          with_reducible refine Calls.mono ctr ?_
          clear ctr
          rintro e w11 ⟨A4, c4, rfl, O4, x11⟩
          go_simp
          refine hK _ _ x11 ?_
          clear hK K
          refine wpSeq_call rfl rfl (fun K hK => ?_)
          go_simp
          have ctr := same_calls (OwO.extN O3 x11) O4 nv hnv hnv64
          with_reducible refine Calls.mono ctr ?_
          clear ctr
          rintro e w12 ⟨rfl, x12⟩
          go_simp
          refine hK _ _ x12 ?_
          clear hK K
          iterate 3 (refine wpSeq_quiet rfl rfl ?_; apply Exists.intro; refine ⟨?_, ?_⟩; (intro W hW; go_simp; try with_reducible rfl); (intro K hK; simp only [Act.put, List.setIfInBounds_toArray, List.set_cons_zero, List.set_cons_succ]; refine hK _ ?_; clear hK K))
          refine wpSeq_end ?_
          have X12 := (((X7.transN x9).transN x10).transN x11).transN x12
          go_wp2_with fail
          go_roundw
          case rel => exact ⟨i + 1, by omega, by go_num, X12⟩
          case measure => simp [intOf]; omega
      · have i2 : (i : Int) = 1 := by omega
        obtain ⟨m, hm⟩ : ∃ m, l ++ sha l = m := ⟨_, rfl⟩
        have HM := Lib.hid hm
        have hml : m.length = k + 32 := by rw [← hm, List.length_append, sha_len, hlk]
        clear hm
        go_wp2_with fail
        have ctr := sealed_calls wr l (by omega) m HM.out
        with_reducible refine Calls.mono ctr ?_
        clear ctr
        rintro e w2 ⟨rfl, x2⟩
        go_upto_region 9 with (fail)
        have X5 : Ext Non w0 w2 := (X.transN x2)
        obtain ⟨cm, w5, hcv, hcm, x5, hs5, R5⟩ := conv_bytes w2 m
        obtain ⟨q, hq⟩ : ∃ q, (m).length = q := ⟨_, rfl⟩
        rw [hq] at hcv hcm
        have X6 := X5.transN x5
        have hs6 := X6.size
        have G6 := G.extN X6
        have hMM : (m == m) = true := beq_self_eq_true _
        go_wp2_with fail
        clear hcv
        by_cases hz0 : (lode m).1 = 0
        case neg =>
          obtain ⟨z, hz⟩ : ∃ z, (lode m).1 = z := ⟨_, rfl⟩
          rw [hz] at hz0
          have HZ := Lib.hid hz
          clear hz
          have n1 : ((z : Int) != 0) = true := by simpa using hz0
          have ctr := load_no G6 (by omega) cm q R5 hq hcm (by omega) (fun k hk => by omega) z HZ.out hz0
          with_reducible refine Calls.mono ctr ?_
          clear ctr
          rintro e w6 ⟨rfl, x6⟩
          have R6 := R5.extN x6
          go_wp2_with fail
          have ctr := rload_no w6 m (by omega) z HZ.out hz0
          with_reducible refine Calls.mono ctr ?_
          clear ctr
          rintro e w7 ⟨rfl, x7⟩
          have cv7 := conv_str (R6.extN x7) q cm hq
          have X7 := (X6.transN x6).transN x7
          go_upto_region 14 with (fail)
          refine wp_region_seq Non ((0, true) :: (1, true) :: (2, true) :: (3, true) :: (5, true) :: (6, true) :: (7, true) :: (8, true) :: (9, true) :: (4, false) :: (10, true) :: (11, true) :: (12, true) :: (15, true) :: (13, false) :: (14, true) :: (16, true) :: (17, true) :: (18, true) :: (19, true) :: (20, true) :: (22, true) :: (23, true) :: (21, false) :: (24, false) :: (25, false) :: (26, true) :: (27, true) :: (28, true) :: []) (by kernel_rfl) (by kernel_rfl) (by kernel_rfl) ?_
          iterate 3 (refine wpSeq_quiet rfl rfl ?_; apply Exists.intro; refine ⟨?_, ?_⟩; (intro W hW; go_simp; try with_reducible rfl); (intro K hK; simp only [Act.put, List.setIfInBounds_toArray, List.set_cons_zero, List.set_cons_succ]; refine hK _ ?_; clear hK K))
          iterate 6 (refine wpSeq_skip rfl rfl (fun K hK => ?_); simp only [Act.put, List.setIfInBounds_toArray, List.set_cons_zero, List.set_cons_succ]; refine hK _ ?_; clear hK K)
          iterate 1 (refine wpSeq_pass rfl rfl (fun K hK => ?_); simp only [Act.put, List.setIfInBounds_toArray, List.set_cons_zero, List.set_cons_succ]; refine hK _ ?_; clear hK K)
          iterate 4 (refine wpSeq_skip rfl rfl (fun K hK => ?_); simp only [Act.put, List.setIfInBounds_toArray, List.set_cons_zero, List.set_cons_succ]; refine hK _ ?_; clear hK K)
          iterate 1 (refine wpSeq_pass rfl rfl (fun K hK => ?_); simp only [Act.put, List.setIfInBounds_toArray, List.set_cons_zero, List.set_cons_succ]; refine hK _ ?_; clear hK K)
          iterate 8 (refine wpSeq_skip rfl rfl (fun K hK => ?_); simp only [Act.put, List.setIfInBounds_toArray, List.set_cons_zero, List.set_cons_succ]; refine hK _ ?_; clear hK K)
          iterate 3 (refine wpSeq_pass rfl rfl (fun K hK => ?_); simp only [Act.put, List.setIfInBounds_toArray, List.set_cons_zero, List.set_cons_succ]; refine hK _ ?_; clear hK K)
          iterate 2 (refine wpSeq_skip rfl rfl (fun K hK => ?_); simp only [Act.put, List.setIfInBounds_toArray, List.set_cons_zero, List.set_cons_succ]; refine hK _ ?_; clear hK K)
          iterate 1 (refine wpSeq_quiet rfl rfl ?_; apply Exists.intro; refine ⟨?_, ?_⟩; (intro W hW; go_simp; try with_reducible rfl); (intro K hK; simp only [Act.put, List.setIfInBounds_toArray, List.set_cons_zero, List.set_cons_succ]; refine hK _ ?_; clear hK K))
          refine wpSeq_end ?_
          go_wp2_with fail
          go_roundw
          case rel => exact ⟨i + 1, by omega, by go_num, X7.drew⟩
          case measure => simp [intOf]; omega
        case pos =>
          obtain ⟨T, hT⟩ : ∃ T, lode m = (0, T) := ⟨(lode m).2, by rw [← hz0]⟩
          obtain ⟨hS, hdT⟩ := lode_sound hT
          have HT := Lib.hid hT
          clear hT hz0
          obtain ⟨nT, hnT⟩ : ∃ nT, T.length = nT := ⟨_, rfl⟩
          obtain ⟨V, hV⟩ : ∃ V, T.filter (fun r => r.has ep) = V := ⟨_, rfl⟩
          obtain ⟨nv, hnv⟩ : ∃ nv, V.length = nv := ⟨_, rfl⟩
          have hnv64 : nv ≤ 64 := by
            have h1 : V.length ≤ T.length := by rw [← hV]; exact List.length_filter_le _ _
            have h2 := hS.len
            omega
          have HV := Lib.hid hV
          have HD := Lib.hid hdT
          clear hV hdT
          have ctr := load_ok G6 (by omega) cm q R5 hq hcm (by omega) (fun k hk => by omega) T HT.out
          with_reducible refine Calls.mono ctr ?_
          clear ctr
          rintro e w6 ⟨d, rfl, H6, x6⟩
          have R6 := R5.extN x6
          go_wp2_with fail
          have ctr := rload_ok w6 m (by omega) T HT.out
          with_reducible refine Calls.mono ctr ?_
          clear ctr
          rintro e w7 ⟨d2, rfl, H7, x7⟩
          have cv7 := conv_str (R6.extN x7) q cm hq
          have X7 := (X6.transN x6).transN x7
          have J7 := H6.extN x7
          have G7 := G.extN X7
          go_upto_region 14 with (fail)
          refine wp_region_seq Non ((0, true) :: (1, true) :: (2, true) :: (3, true) :: (5, true) :: (6, true) :: (7, true) :: (8, true) :: (9, true) :: (4, false) :: (10, true) :: (11, true) :: (12, true) :: (15, true) :: (13, false) :: (14, true) :: (16, true) :: (17, true) :: (18, true) :: (19, true) :: (20, true) :: (22, true) :: (23, true) :: (21, false) :: (24, false) :: (25, false) :: (26, true) :: (27, true) :: (28, true) :: []) (by kernel_rfl) (by kernel_rfl) (by kernel_rfl) ?_
          clear cv7
          have y8 : Ext Non w7 w7.drew := (Ext.refl Non w7).drew
          replace X7 := X7.transN y8
          replace J7 := J7.extN y8
          replace H7 := H7.extN y8
          replace G7 := G7.extN y8
          have hs7 := X7.size
          obtain ⟨A2, c2, B2, _, _⟩ := H7.ex
          rw [hnT] at B2
          clear y8 R6 R5
          generalize w7.drew = w8 at *
          iterate 9 (refine wpSeq_quiet rfl rfl ?_; apply Exists.intro; refine ⟨?_, ?_⟩; (intro W hW; have u := (B2.extN_ hW).cell 0; go_simp; try with_reducible rfl); (intro K hK; simp only [Act.put, List.setIfInBounds_toArray, List.set_cons_zero, List.set_cons_succ]; refine hK _ ?_; clear hK K))
          clear B2
          refine wpSeq_call rfl rfl (fun K hK => ?_)
          go_simp
          have ctr := len_calls J7 nT hnT
          with_reducible refine Calls.mono ctr ?_
          clear ctr
          rintro e w9 ⟨rfl, rfl⟩
          go_simp
          refine hK _ _ (Ext.refl _ _) ?_
          clear hK K
          iterate 4 (refine wpSeq_quiet rfl rfl ?_; apply Exists.intro; refine ⟨?_, ?_⟩; (intro W hW; go_simp; try with_reducible rfl); (intro K hK; simp only [Act.put, List.setIfInBounds_toArray, List.set_cons_zero, List.set_cons_succ]; refine hK _ ?_; clear hK K))
          refine wpSeq_call rfl rfl (fun K hK => ?_)
          go_simp
          have ctr := bytes_calls G7 (by omega) J7 q (by rw [HD.out]; exact hq)
          with_reducible refine Calls.mono ctr ?_
          clear ctr
          rintro e w9 ⟨Ab, cb, rfl, Ob, x9⟩
          go_simp
          refine hK _ _ x9 ?_
          clear hK K
          rw [HD.out] at Ob
          have Rb := Ob.rd
          iterate 8 (refine wpSeq_quiet rfl rfl ?_; apply Exists.intro; refine ⟨?_, ?_⟩; (intro W hW; have cv := conv_str (Rb.extN hW) q cb hq; go_simp; try with_reducible rfl); (intro K hK; simp only [Act.put, List.setIfInBounds_toArray, List.set_cons_zero, List.set_cons_succ]; refine hK _ ?_; clear hK K))
          clear Ob Rb
          have J9 := J7.extN x9
          have H9 := H7.extN x9
          refine wpSeq_call rfl rfl (fun K hK => ?_)
          go_simp
          have ctr := valid_calls J9 ep V HV.out nv hnv
          with_reducible refine Calls.mono ctr ?_
          clear ctr
          rintro e w10 ⟨A3, c3, rfl, O3, x10⟩
          go_simp
          refine hK _ _ x10 ?_
          clear hK K
          have H10 := H9.extN x10
          refine wpSeq_call rfl rfl (fun K hK => ?_)
          go_simp
          have ctr := rvalid_calls H10 hS.len ep V HV.out nv hnv
          with_reducible refine Calls.mono ctr ?_
          clear ctr
          rintro e w11 ⟨A4, c4, rfl, O4, x11⟩
          go_simp
          refine hK _ _ x11 ?_
          clear hK K
          refine wpSeq_call rfl rfl (fun K hK => ?_)
          go_simp
          have ctr := same_calls (OwO.extN O3 x11) O4 nv hnv hnv64
          with_reducible refine Calls.mono ctr ?_
          clear ctr
          rintro e w12 ⟨rfl, x12⟩
          go_simp
          refine hK _ _ x12 ?_
          clear hK K
          iterate 3 (refine wpSeq_quiet rfl rfl ?_; apply Exists.intro; refine ⟨?_, ?_⟩; (intro W hW; go_simp; try with_reducible rfl); (intro K hK; simp only [Act.put, List.setIfInBounds_toArray, List.set_cons_zero, List.set_cons_succ]; refine hK _ ?_; clear hK K))
          refine wpSeq_end ?_
          have X12 := (((X7.transN x9).transN x10).transN x11).transN x12
          go_wp2_with fail
          go_roundw
          case rel => exact ⟨i + 1, by omega, by go_num, X12⟩
          case measure => simp [intOf]; omega
    · obtain rfl : i = 2 := by omega
      go_wp2_with fail
      go_ret
      exact ⟨rfl, X.belowN⟩
end Go.Proofs.YtnmpfbffacljfaaDoor
