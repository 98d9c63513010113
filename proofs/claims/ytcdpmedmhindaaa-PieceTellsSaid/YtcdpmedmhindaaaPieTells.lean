/- The law PieceTells: pieces are right, and have the bytes, that the document says, and bytes are its pieces. -/
import Derived.Test.YtcdpmedmhindaaaRef16P
namespace Go.Proofs.Ytcdpmedmhindaaa
open Go.RowKit

theorem rd_b {w : World} {g : Nat} {t : TypeId} {l : List UInt8} (hb : Blk w g t (ba l)) : Rd w (fun k => k = g) (some ⟨g, 0, none⟩) (bvs l) := by
  have R0 := Rd.of_blk (D := fun k => k = g) hb rfl 0 l.length
  have eR : ((ba l).toList.drop 0).take l.length = bvs l := by
    rw [List.drop_zero]
    show (bvs l).take l.length = bvs l
    exact List.take_of_length_le (by rw [bvs_length]; exact Nat.le_refl _)
  rw [eR] at R0
  exact R0
set_option maxRecDepth 100000 in
set_option maxHeartbeats 4000000 in
theorem tells_walk (p : Pc) (hp : p.ok) (A0 : Option Addr) (c0 : Nat) (l : List UInt8) (w : World) (hl : l.length = 256) (hc0 : p.b.length ≤ c0) (hm0 : c0 ≤ maxLen)
    (r0 : Rd w (· < w.heap.size) A0 (bvs p.b)) :
    Calls Try.prog 14 #[.agg (pcA p A0 c0), .agg (ba l)] w fun e w' => e = .returned (.bool true) ∧ Below w.heap.size w w' := by
  obtain ⟨ki, id, fr, bx, pl, co, b⟩ := p
  obtain ⟨hp1, hp2, hp3⟩ := hp
  unfold pcA
  simp only at hc0 r0 hp1 hp2 hp3 ⊢
  obtain ⟨n0, hn0⟩ : ∃ n, b.length = n := ⟨_, rfl⟩
  simp only [hn0] at hc0 ⊢
  obtain ⟨d, hd⟩ : ∃ d, b.take 300 = d := ⟨_, rfl⟩
  obtain ⟨k0, hk0⟩ : ∃ n, d.length = n := ⟨_, rfl⟩
  have hk0a : k0 ≤ 300 := by rw [← hk0, ← hd, List.length_take]; omega
  have ne : ba l ≠ #[] := row_ne (n := 255) (by rw [ba_size, hl])
  go_enter Try.func14, Try.ntmps14
  have B0 := (Blk.new w 45 #[.int .i64 ki, .int .u32 id, .int .u16 fr, .int .u16 bx, .int .i64 pl, .int .i64 co, .slice A0 n0 c0]).alloc (.cells (ba l) 35)
  have B2 := Blk.new (w.alloc (.cells #[.int .i64 ki, .int .u32 id, .int .u16 fr, .int .u16 bx, .int .i64 pl, .int .i64 co, .slice A0 n0 c0] 45)) 35 (ba l)
  have X1 := ((Ext.refl Non w).alloc (.cells #[.int .i64 ki, .int .u32 id, .int .u16 fr, .int .u16 bx, .int .i64 pl, .int .i64 co, .slice A0 n0 c0] 45)).alloc (.cells (ba l) 35)
  simp only [World.size_alloc] at B2
  go_upto_region 1 with (fail)
  generalize (w.alloc (.cells #[.int .i64 ki, .int .u32 id, .int .u16 fr, .int .u16 bx, .int .i64 pl, .int .i64 co, .slice A0 n0 c0] 45)).alloc (.cells (ba l) 35) = w1 at *
  go_wp2_with fail
  have ctr := shown_calls w1
  with_reducible refine Calls.mono ctr ?_
  clear ctr
  rintro e w2 ⟨rfl, x2⟩
  have C0 := B0.extN_ x2
  have C2 := B2.extN_ x2
  have X2 := X1.transN x2
  have hs2 := C2.lt
  clear B0 B2 X1 x2
  go_upto_region 2 with (fail)
  obtain ⟨b0, b1, b2, b3, b4, b5, b6⟩ := pc_cellsR C0
  go_wp2_with fail
  clear b0 b1 b2 b3 b4 b5 b6
  have ctr := few_x w2 ki id fr bx pl co b rfl rfl rfl A0 c0 n0 hn0 (r0.extN X2) hc0 hm0 d hd k0 hk0
  with_reducible refine Calls.mono ctr ?_
  clear ctr
  rintro e w3 ⟨A3, c3, rfl, O3, x3⟩
  have D0 := C0.extN_ x3
  have st := D0.big_store (P := Try.prog) (ty := 45) (cs' := #[.int .i64 ki, .int .u32 id, .int .u16 fr, .int .u16 bx, .int .i64 pl, .int .i64 co, .slice A3 k0 c3]) rfl (by kernel_rfl) (by simp [Value.oneCell'])
  have E0 := D0.setRow #[.int .i64 ki, .int .u32 id, .int .u16 fr, .int .u16 bx, .int .i64 pl, .int .i64 co, .slice A3 k0 c3]
  have Y := (Ext.refl (One w.heap.size) w3).setRow (g := w.heap.size) (.inr rfl) #[.int .i64 ki, .int .u32 id, .int .u16 fr, .int .u16 bx, .int .i64 pl, .int .i64 co, .slice A3 k0 c3]
  have E2 := (C2.extN_ x3).ext Y (fun h => by have h : w.heap.size + 1 = w.heap.size := h; omega)
  have X3 := (X2.transN x3).setRow (g := w.heap.size) (.inl (Nat.le_refl _)) #[.int .i64 ki, .int .u32 id, .int .u16 fr, .int .u16 bx, .int .i64 pl, .int .i64 co, .slice A3 k0 c3]
  have P3 := O3.ext Y (fun b hb h => by have h : b = w.heap.size := h; have := (O3.lt hb).1; omega)
  clear D0 C0 C2 x3 X2 O3 Y
  go_upto_region 3 with (fail)
  clear st
  generalize w3.setRow w.heap.size #[.int .i64 ki, .int .u32 id, .int .u16 fr, .int .u16 bx, .int .i64 pl, .int .i64 co, .slice A3 k0 c3] = w4 at *
  have hk3 := P3.len
  rw [hk0] at hk3
  have hkm : k0 ≤ maxLen := by omega
  obtain ⟨er, her⟩ : ∃ e, pence ⟨ki, id, fr, bx, pl, co, d⟩ = e := ⟨_, rfl⟩
  obtain ⟨px, hpx⟩ : ∃ e, pencb ⟨ki, id, fr, bx, pl, co, d⟩ = e := ⟨_, rfl⟩
  have hpx256 : px.length = 256 := by rw [← hpx]; exact pencb_len _
  obtain ⟨b0, b1, b2, b3, b4, b5, b6⟩ := pc_cellsR E0
  go_wp2_with fail
  clear b0 b1 b2 b3 b4 b5 b6
  have ctr := of_x w4 ki id fr bx pl co d rfl rfl rfl A3 c3 k0 hk0 P3.rd
  with_reducible refine Calls.mono ctr ?_
  clear ctr
  rintro e w5 ⟨rfl, x5⟩
  go_wp2_with fail
  obtain ⟨rr, hrr⟩ : ∃ r, prt ⟨ki, id, fr, bx, pl, co, d⟩ = r := ⟨_, rfl⟩
  have crr := rright_calls w5 ⟨ki, id, fr, bx, pl, co, d⟩ (by show d.length ≤ _; omega)
  rw [hrr] at crr
  have ctr := crr
  with_reducible refine Calls.mono ctr ?_
  clear ctr
  rintro e w6 ⟨rfl, x6⟩
  clear crr
  have Y := x5.transN x6
  have F0 := E0.extN_ Y
  have F2 := E2.extN_ Y
  have P5 := P3.extN Y
  have X6 := X3.transN Y
  clear E0 E2 P3 X3 Y x5 x6
  go_upto_region 4 with (fail)
  obtain ⟨b0, b1, b2, b3, b4, b5, b6⟩ := pc_cellsR F0
  go_wp2_with fail
  clear b0 b1 b2 b3 b4 b5 b6
  have ctr := bytes_x w6 ki id fr bx pl co d hp1 hp2 hp3 rfl rfl rfl A3 c3 k0 hk0 P5.rd hkm px er hpx her rfl
  with_reducible refine Calls.mono ctr ?_
  clear ctr
  rintro e w7 ⟨rfl, x7⟩
  have Y := x7.alloc (.cells (ba px) 35)
  have G0 := F0.extN_ Y
  have G2 := F2.extN_ Y
  have P7 := P5.extN Y
  have X7 := X6.transN Y
  have Bx := Blk.new w7 35 (ba px)
  have sb := store_b w7 (l := px) hpx256
  clear F0 F2 P5 X6 Y x7
  go_upto_region 5 with (fail)
  clear sb
  generalize w7.alloc (.cells (ba px) 35) = w8 at *
  generalize w7.heap.size = gx at *
  have cx := fun W (x : Ext Non w8 W) => conv_str (rd_b (Bx.extN_ x)) 256 256 hpx256
  have sx := fun W => run_arr_all (P := Try.prog) W Try.underlying35 s8 gx 0 (by decide)
  go_cut [63] (fun s wc => s = .bool false ∧ Ext Non w8 wc)
  case first =>
    by_cases rp : prt ⟨ki, id, fr, bx, pl, co, d⟩ = true
    · have e0 : er = 0 := by rw [← her]; exact pence_rt rp
      have e1 : px = pcb ⟨ki, id, fr, bx, pl, co, d⟩ := by rw [← hpx]; exact pencb_rt rp
      have hrt := fun W => rtext_calls W ⟨ki, id, fr, bx, pl, co, d⟩ ⟨hp1, hp2, hp3⟩ rp
      rw [← e1] at hrt
      have er1 : rr = true := by rw [← hrr]; exact rp
      subst er1
      subst e0
      clear e1 hrr
      refine wp_region_seq Non ((0, true) :: (3, true) :: (1, false) :: (2, true) :: (4, true) :: (5, true) :: (6, true) :: (7, true) :: (8, true) :: (9, true) :: (10, true) :: (11, true) :: (12, true) :: (13, true) :: (14, true) :: (15, true) :: (16, true) :: (17, false) :: (18, false) :: (19, true) :: (20, true) :: (21, true) :: (22, true) :: (23, true) :: (24, true) :: (25, true) :: (26, true) :: (27, true) :: (28, true) :: (29, true) :: (30, true) :: (31, true) :: (32, true) :: (33, true) :: (34, true) :: (35, false) :: (36, true) :: (37, true) :: (38, true) :: (39, true) :: []) (by kernel_rfl) (by kernel_rfl) (by kernel_rfl) ?_
      iterate 2 (refine wpSeq_quiet rfl rfl ?_; apply Exists.intro; refine ⟨?_, ?_⟩; (intro W hW; have ux := pc_cellsR (G0.extN_ hW.drewL); obtain ⟨b0, b1, b2, b3, b4, b5, b6⟩ := ux; go_simp; try with_reducible rfl); (intro K hK; simp only [Act.put, List.setIfInBounds_toArray, List.set_cons_zero, List.set_cons_succ]; refine hK _ ?_; clear hK K))
      refine wpSeq_call rfl rfl (fun K hK => ?_)
      go_simp
      have ctr := right_x w8.drew ki id fr bx pl co d rfl rfl rfl A3 c3 k0 hk0 P7.drew.rd hkm 0 her rfl
      with_reducible refine Calls.mono ctr ?_
      clear ctr
      rintro e w9 ⟨rfl, x9⟩
      go_simp
      refine hK _ _ x9 ?_
      clear hK K
      iterate 14 (refine wpSeq_quiet rfl rfl ?_; apply Exists.intro; refine ⟨?_, ?_⟩; (intro W hW; have ux := pc_cellsR (G0.extN_ (x9.drewL.transN hW)); obtain ⟨b0, b1, b2, b3, b4, b5, b6⟩ := ux; have u7 := cx W (x9.drewL.transN hW); go_simp; try with_reducible rfl); (intro K hK; simp only [Act.put, List.setIfInBounds_toArray, List.set_cons_zero, List.set_cons_succ]; refine hK _ ?_; clear hK K))
      refine wpSeq_call rfl rfl (fun K hK => ?_)
      go_simp
      have ctr := of_x w9 ki id fr bx pl co d rfl rfl rfl A3 c3 k0 hk0 (P7.drew.extN x9).rd
      with_reducible refine Calls.mono ctr ?_
      clear ctr
      rintro e w10 ⟨rfl, x10⟩
      go_simp
      refine hK _ _ x10 ?_
      clear hK K
      refine wpSeq_call rfl rfl (fun K hK => ?_)
      go_simp
      have ctr := hrt w10
      with_reducible refine Calls.mono ctr ?_
      clear ctr
      rintro e w11 ⟨rfl, x11⟩
      go_simp
      refine hK _ _ x11 ?_
      clear hK K
      iterate 7 (refine wpSeq_quiet rfl rfl ?_; apply Exists.intro; refine ⟨?_, ?_⟩; (intro W hW; go_simp; try with_reducible rfl); (intro K hK; simp only [Act.put, List.setIfInBounds_toArray, List.set_cons_zero, List.set_cons_succ]; refine hK _ ?_; clear hK K))
      iterate 9 (refine wpSeq_skip rfl rfl (fun K hK => ?_); simp only [Act.put, List.setIfInBounds_toArray, List.set_cons_zero, List.set_cons_succ]; refine hK _ ?_; clear hK K)
      iterate 1 (refine wpSeq_pass rfl rfl (fun K hK => ?_); simp only [Act.put, List.setIfInBounds_toArray, List.set_cons_zero, List.set_cons_succ]; refine hK _ ?_; clear hK K)
      iterate 2 (refine wpSeq_skip rfl rfl (fun K hK => ?_); simp only [Act.put, List.setIfInBounds_toArray, List.set_cons_zero, List.set_cons_succ]; refine hK _ ?_; clear hK K)
      iterate 2 (refine wpSeq_quiet rfl rfl ?_; apply Exists.intro; refine ⟨?_, ?_⟩; (intro W hW; go_simp; try with_reducible rfl); (intro K hK; simp only [Act.put, List.setIfInBounds_toArray, List.set_cons_zero, List.set_cons_succ]; refine hK _ ?_; clear hK K))
      refine wpSeq_end ?_
      have Y := (x9.drewL.transN x10).transN x11
      go_wp2_with fail
      go_meet
      case rel => exact ⟨rfl, Y⟩
    · have e0 : er = 1 := by rw [← her]; unfold pence; rw [if_neg rp]
      have e1 : px = zeros 256 := by rw [← hpx]; unfold pencb; rw [if_neg rp]
      have er1 : rr = false := by rw [← hrr]; simpa using rp
      subst er1
      clear hrr
      subst e0 e1
      have q : ∀ W, (binOp .neq 35 (.agg (ba (zeros 256))) (.agg (zrow 256))).run Try.prog W = .ok (.bool false) W := fun W => by
        have := neq_b W (zeros_length 256) (zeros_length 256)
        rw [beq_self_eq_true] at this
        exact this
      refine wp_region_seq Non ((0, true) :: (3, true) :: (1, false) :: (2, true) :: (4, true) :: (5, true) :: (6, true) :: (7, true) :: (8, true) :: (9, true) :: (10, true) :: (11, true) :: (12, true) :: (13, true) :: (14, true) :: (15, true) :: (16, true) :: (17, false) :: (18, false) :: (19, true) :: (20, true) :: (21, true) :: (22, true) :: (23, true) :: (24, true) :: (25, true) :: (26, true) :: (27, true) :: (28, true) :: (29, true) :: (30, true) :: (31, true) :: (32, true) :: (33, true) :: (34, true) :: (35, false) :: (36, true) :: (37, true) :: (38, true) :: (39, true) :: []) (by kernel_rfl) (by kernel_rfl) (by kernel_rfl) ?_
      iterate 2 (refine wpSeq_quiet rfl rfl ?_; apply Exists.intro; refine ⟨?_, ?_⟩; (intro W hW; have ux := pc_cellsR (G0.extN_ hW.drewL); obtain ⟨b0, b1, b2, b3, b4, b5, b6⟩ := ux; go_simp; try with_reducible rfl); (intro K hK; simp only [Act.put, List.setIfInBounds_toArray, List.set_cons_zero, List.set_cons_succ]; refine hK _ ?_; clear hK K))
      refine wpSeq_call rfl rfl (fun K hK => ?_)
      go_simp
      have ctr := right_x w8.drew ki id fr bx pl co d rfl rfl rfl A3 c3 k0 hk0 P7.drew.rd hkm 1 her rfl
      with_reducible refine Calls.mono ctr ?_
      clear ctr
      rintro e w9 ⟨rfl, x9⟩
      go_simp
      refine hK _ _ x9 ?_
      clear hK K
      iterate 11 (refine wpSeq_quiet rfl rfl ?_; apply Exists.intro; refine ⟨?_, ?_⟩; (intro W hW; go_simp; try with_reducible rfl); (intro K hK; simp only [Act.put, List.setIfInBounds_toArray, List.set_cons_zero, List.set_cons_succ]; refine hK _ ?_; clear hK K))
      iterate 3 (refine wpSeq_skip rfl rfl (fun K hK => ?_); simp only [Act.put, List.setIfInBounds_toArray, List.set_cons_zero, List.set_cons_succ]; refine hK _ ?_; clear hK K)
      iterate 2 (refine wpSeq_pass rfl rfl (fun K hK => ?_); simp only [Act.put, List.setIfInBounds_toArray, List.set_cons_zero, List.set_cons_succ]; refine hK _ ?_; clear hK K)
      iterate 1 (refine wpSeq_skip rfl rfl (fun K hK => ?_); simp only [Act.put, List.setIfInBounds_toArray, List.set_cons_zero, List.set_cons_succ]; refine hK _ ?_; clear hK K)
      iterate 15 (refine wpSeq_quiet rfl rfl ?_; apply Exists.intro; refine ⟨?_, ?_⟩; (intro W hW; have ux := pc_cellsR (G0.extN_ (x9.drewL.transN hW)); obtain ⟨b0, b1, b2, b3, b4, b5, b6⟩ := ux; have u7 := load_ba (Bx.extN_ (x9.drewL.transN hW)) hpx256; go_simp; try with_reducible rfl); (intro K hK; simp only [Act.put, List.setIfInBounds_toArray, List.set_cons_zero, List.set_cons_succ]; refine hK _ ?_; clear hK K))
      refine wpSeq_call rfl rfl (fun K hK => ?_)
      go_simp
      have ctr := right_x w9 ki id fr bx pl co d rfl rfl rfl A3 c3 k0 hk0 (P7.drew.extN x9).rd hkm 1 her rfl
      with_reducible refine Calls.mono ctr ?_
      clear ctr
      rintro e w10 ⟨rfl, x10⟩
      go_simp
      refine hK _ _ x10 ?_
      clear hK K
      iterate 4 (refine wpSeq_quiet rfl rfl ?_; apply Exists.intro; refine ⟨?_, ?_⟩; (intro W hW; go_simp; try with_reducible rfl); (intro K hK; simp only [Act.put, List.setIfInBounds_toArray, List.set_cons_zero, List.set_cons_succ]; refine hK _ ?_; clear hK K))
      refine wpSeq_end ?_
      have Y := x9.drewL.transN x10
      go_wp2_with fail
      go_meet
      case rel => exact ⟨rfl, Y⟩
  case rest =>
    obtain ⟨rfl, Y⟩ := hcut
    generalize wc = w12 at *
    have H2 := G2.extN_ Y
    have X12 := X7.transN Y
    clear G0 G2 P7 Bx X7 Y cx sx hpx her hpx256 hrr
    obtain ⟨z, hz⟩ : ∃ z, pdec l = z := ⟨_, rfl⟩
    obtain ⟨ez, he⟩ : ∃ z, pdece l = z := ⟨_, rfl⟩
    have hzok := pdec_ok hl
    rw [hz] at hzok
    obtain ⟨zk, zi, zf, zb, zp, zc, zd⟩ := z
    obtain ⟨nz, hnz⟩ : ∃ n, zd.length = n := ⟨_, rfl⟩
    have lb := load_ba H2 hl
    go_upto_region 7 with (fail)
    go_wp2_with fail
    clear lb
    have ctr := parse_x w12 hl zk zi zf zb zp zc zd ez hz he rfl rfl rfl rfl nz hnz
    with_reducible refine Calls.mono ctr ?_
    clear ctr
    rintro e w13 ⟨A13, c13, rfl, O13, x13⟩
    have Bz := Blk.new w13 45 #[.int .i64 zk, .int .u32 zi, .int .u16 zf, .int .u16 zb, .int .i64 zp, .int .i64 zc, .slice A13 nz c13]
    have Y := x13.alloc (.cells #[.int .i64 zk, .int .u32 zi, .int .u16 zf, .int .u16 zb, .int .i64 zp, .int .i64 zc, .slice A13 nz c13] 45)
    have I2 := H2.extN_ Y
    have O14 := O13.alloc (.cells #[.int .i64 zk, .int .u32 zi, .int .u16 zf, .int .u16 zb, .int .i64 zp, .int .i64 zc, .slice A13 nz c13] 45)
    have X14 := X12.transN Y
    clear O13 x13 Y X12 H2
    go_upto_region 8 with (fail)
    generalize w13.alloc (.cells #[.int .i64 zk, .int .u32 zi, .int .u16 zf, .int .u16 zb, .int .i64 zp, .int .i64 zc, .slice A13 nz c13] 45) = w14 at *
    generalize w13.heap.size = gz at *
    have cb := conv_str (rd_b I2) 256 256 hl
    have sx := fun W => run_arr_all (P := Try.prog) W Try.underlying35 s8 (w.heap.size + 1) 0 (by decide)
    have cp := rparse_calls w14 l hl
    rw [hz, he] at cp
    unfold rpc at cp
    go_wp2_with fail
    clear cb sx
    with_reducible refine Calls.mono cp ?_
    clear cp
    rintro e w15 ⟨rfl, x15⟩
    have Zr := Blk.new w15 52 #[.int .i64 0, .int .u32 0, .int .u16 0, .int .u16 0, .int .i64 0, .int .i64 0, .string ⟨#[]⟩]
    have st := Zr.big_store (P := Try.prog) (ty := 52) (cs' := #[.int .i64 zk, .int .u32 zi, .int .u16 zf, .int .u16 zb, .int .i64 zp, .int .i64 zc, .string (str zd)]) rfl (by kernel_rfl) (by simp [Value.oneCell'])
    have Br := Zr.setRow #[.int .i64 zk, .int .u32 zi, .int .u16 zf, .int .u16 zb, .int .i64 zp, .int .i64 zc, .string (str zd)]
    have Y := (x15.alloc (.cells #[.int .i64 0, .int .u32 0, .int .u16 0, .int .u16 0, .int .i64 0, .int .i64 0, .string ⟨#[]⟩] 52)).setRow (g := w15.heap.size) (.inl x15.size) #[.int .i64 zk, .int .u32 zi, .int .u16 zf, .int .u16 zb, .int .i64 zp, .int .i64 zc, .string (str zd)]
    have Cz := Bz.extN_ Y
    have O16 := O14.extN Y
    have X16 := X14.transN Y
    clear Zr x15 Y Bz O14 X14 I2
    go_upto_region 9 with (fail)
    clear st
    generalize (w15.alloc (.cells #[.int .i64 0, .int .u32 0, .int .u16 0, .int .u16 0, .int .i64 0, .int .i64 0, .string ⟨#[]⟩] 52)).setRow w15.heap.size #[.int .i64 zk, .int .u32 zi, .int .u16 zf, .int .u16 zb, .int .i64 zp, .int .i64 zc, .string (str zd)] = w16 at *
    generalize w15.heap.size = gr at *
    have br := fun W (x : Ext Non w16 W) => (Br.extN_ x)
    have q : ∀ W, (binOp .eql 52 (.agg (rpc ⟨zk, zi, zf, zb, zp, zc, zd⟩)) (.agg #[.int .i64 zk, .int .u32 zi, .int .u16 zf, .int .u16 zb, .int .i64 zp, .int .i64 zc, .string (str zd)])).run Try.prog W = .ok (.bool true) W := fun W => by
      have := eql_rp W ⟨zk, zi, zf, zb, zp, zc, zd⟩ ⟨zk, zi, zf, zb, zp, zc, zd⟩
      rw [decide_eq_true rfl] at this
      exact this
    refine wp_region_seq Non ((0, true) :: (1, true) :: (2, true) :: (3, true) :: (4, true) :: (5, true) :: (6, true) :: (7, true) :: (9, true) :: (8, false) :: (10, true) :: (11, true) :: (12, true) :: []) (by kernel_rfl) (by kernel_rfl) (by kernel_rfl) ?_
    iterate 9 (refine wpSeq_quiet rfl rfl ?_; apply Exists.intro; refine ⟨?_, ?_⟩; (intro W hW; have ux := pc_cellsR (Cz.extN_ hW.drewL); obtain ⟨b0, b1, b2, b3, b4, b5, b6⟩ := ux; have v := Br.extN_ hW.drewL; have a0 : W.cell? ⟨gr, 0, none⟩ = some (.int .i64 zk) := v.cell 0; have a1 : W.cell? ⟨gr, 1, none⟩ = some (.int .u32 zi) := v.cell 1; have a2 : W.cell? ⟨gr, 2, none⟩ = some (.int .u16 zf) := v.cell 2; have a3 : W.cell? ⟨gr, 3, none⟩ = some (.int .u16 zb) := v.cell 3; have a4 : W.cell? ⟨gr, 4, none⟩ = some (.int .i64 zp) := v.cell 4; have a5 : W.cell? ⟨gr, 5, none⟩ = some (.int .i64 zc) := v.cell 5; have a6 : W.cell? ⟨gr, 6, none⟩ = some (.string (str zd)) := v.cell 6; go_simp; try with_reducible rfl); (intro K hK; simp only [Act.put, List.setIfInBounds_toArray, List.set_cons_zero, List.set_cons_succ]; refine hK _ ?_; clear hK K))
    refine wpSeq_call rfl rfl (fun K hK => ?_)
    go_simp
    have ctr := of_x w16.drew zk zi zf zb zp zc zd rfl rfl rfl A13 c13 nz hnz O16.drew.rd
    with_reducible refine Calls.mono ctr ?_
    clear ctr
    rintro e w17 ⟨rfl, x17⟩
    go_simp
    refine hK _ _ x17 ?_
    clear hK K
    iterate 3 (refine wpSeq_quiet rfl rfl ?_; apply Exists.intro; refine ⟨?_, ?_⟩; (intro W hW; go_simp; try with_reducible rfl); (intro K hK; simp only [Act.put, List.setIfInBounds_toArray, List.set_cons_zero, List.set_cons_succ]; refine hK _ ?_; clear hK K))
    refine wpSeq_end ?_
    have X17 := X16.transN x17.drewL
    go_wp2_with fail
    go_ret
    exact ⟨rfl, X17.belowN⟩
end Go.Proofs.Ytcdpmedmhindaaa
