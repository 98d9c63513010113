/- The law PieceBack: each right piece has its own bytes, and the other way round. -/
import Derived.Test.YtcdpmedmhindaaaPieF
import Derived.Deep.DeepCutAuto
namespace Go.Proofs.Ytcdpmedmhindaaa
open Go.RowKit

theorem pcb_eq {p q : Pc} (hp : p.ok) (hq : q.ok) (rp : prt p = true) (rq : prt q = true) : (pcb p == pcb q) = decide (p = q) := by
  by_cases h : p = q
  · subst h
    simp
  · rw [decide_eq_false h, beq_eq_false_iff_ne]
    intro e
    apply h
    rw [← rdpc_pcb hp rp, e, rdpc_pcb hq rq]
def few (p : Pc) : Pc := { p with b := p.b.take 300 }
set_option maxRecDepth 100000 in
set_option maxHeartbeats 4000000 in
theorem back_walk (p q : Pc) (hp : p.ok) (hq : q.ok) (A0 A1 : Option Addr) (c0 c1 : Nat) (l : List UInt8) (w : World) (hl : l.length = 256) (hc0 : p.b.length ≤ c0) (hc1 : q.b.length ≤ c1) (hm0 : c0 ≤ maxLen) (hm1 : c1 ≤ maxLen)
    (r0 : Rd w (· < w.heap.size) A0 (bvs p.b)) (r1 : Rd w (· < w.heap.size) A1 (bvs q.b)) :
    Calls Try.prog 15 #[.agg (pcA p A0 c0), .agg (pcA q A1 c1), .agg (ba l)] w fun e w' => e = .returned (.bool true) ∧ Below w.heap.size w w' := by
  obtain ⟨ki, id, fr, bx, pl, co, b⟩ := p
  obtain ⟨ki', id', fr', bx', pl', co', b'⟩ := q
  obtain ⟨hp1, hp2, hp3⟩ := hp
  obtain ⟨hq1, hq2, hq3⟩ := hq
  unfold pcA
  simp only at hc0 hc1 r0 r1 hp1 hp2 hp3 hq1 hq2 hq3 ⊢
  obtain ⟨n0, hn0⟩ : ∃ n, b.length = n := ⟨_, rfl⟩
  obtain ⟨n1, hn1⟩ : ∃ n, b'.length = n := ⟨_, rfl⟩
  simp only [hn0, hn1] at hc0 hc1 ⊢
  obtain ⟨d, hd⟩ : ∃ d, b.take 300 = d := ⟨_, rfl⟩
  obtain ⟨d', hd'⟩ : ∃ d, b'.take 300 = d := ⟨_, rfl⟩
  obtain ⟨k0, hk0⟩ : ∃ n, d.length = n := ⟨_, rfl⟩
  obtain ⟨k1, hk1⟩ : ∃ n, d'.length = n := ⟨_, rfl⟩
  have hk0a : k0 ≤ 300 := by rw [← hk0, ← hd, List.length_take]; omega
  have hk1a : k1 ≤ 300 := by rw [← hk1, ← hd', List.length_take]; omega
  have ne : ba l ≠ #[] := row_ne (n := 255) (by rw [ba_size, hl])
  go_enter Try.func15, Try.ntmps15
  have B0 := ((Blk.new w 45 #[.int .i64 ki, .int .u32 id, .int .u16 fr, .int .u16 bx, .int .i64 pl, .int .i64 co, .slice A0 n0 c0]).alloc (.cells #[.int .i64 ki', .int .u32 id', .int .u16 fr', .int .u16 bx', .int .i64 pl', .int .i64 co', .slice A1 n1 c1] 45)).alloc (.cells (ba l) 35)
  have B1 := (Blk.new (w.alloc (.cells #[.int .i64 ki, .int .u32 id, .int .u16 fr, .int .u16 bx, .int .i64 pl, .int .i64 co, .slice A0 n0 c0] 45)) 45 #[.int .i64 ki', .int .u32 id', .int .u16 fr', .int .u16 bx', .int .i64 pl', .int .i64 co', .slice A1 n1 c1]).alloc (.cells (ba l) 35)
  have B2 := Blk.new ((w.alloc (.cells #[.int .i64 ki, .int .u32 id, .int .u16 fr, .int .u16 bx, .int .i64 pl, .int .i64 co, .slice A0 n0 c0] 45)).alloc (.cells #[.int .i64 ki', .int .u32 id', .int .u16 fr', .int .u16 bx', .int .i64 pl', .int .i64 co', .slice A1 n1 c1] 45)) 35 (ba l)
  have X1 := (((Ext.refl Non w).alloc (.cells #[.int .i64 ki, .int .u32 id, .int .u16 fr, .int .u16 bx, .int .i64 pl, .int .i64 co, .slice A0 n0 c0] 45)).alloc (.cells #[.int .i64 ki', .int .u32 id', .int .u16 fr', .int .u16 bx', .int .i64 pl', .int .i64 co', .slice A1 n1 c1] 45)).alloc (.cells (ba l) 35)
  simp only [World.size_alloc] at B1 B2
  go_upto_region 1 with (fail)
  generalize ((w.alloc (.cells #[.int .i64 ki, .int .u32 id, .int .u16 fr, .int .u16 bx, .int .i64 pl, .int .i64 co, .slice A0 n0 c0] 45)).alloc (.cells #[.int .i64 ki', .int .u32 id', .int .u16 fr', .int .u16 bx', .int .i64 pl', .int .i64 co', .slice A1 n1 c1] 45)).alloc (.cells (ba l) 35) = w1 at *
  go_wp2_with fail
  have ctr := shown_calls w1
  with_reducible refine Calls.mono ctr ?_
  clear ctr
  rintro e w2 ⟨rfl, x2⟩
  have C0 := B0.extN_ x2
  have C1 := B1.extN_ x2
  have C2 := B2.extN_ x2
  have X2 := X1.transN x2
  have hs2 := C2.lt
  clear B0 B1 B2 X1 x2
  go_upto_region 2 with (fail)
  obtain ⟨b0, b1, b2, b3, b4, b5, b6⟩ := pc_cellsR C0
  go_wp2_with fail
  clear b0 b1 b2 b3 b4 b5 b6
  have ctr := few_x w2 ki id fr bx pl co b rfl rfl rfl A0 c0 n0 hn0 (r0.extN X2) hc0 hm0 d hd k0 hk0
  with_reducible refine Calls.mono ctr ?_
  clear ctr
  rintro e w3 ⟨A3, c3, rfl, O3, x3⟩
  have D0 := C0.extN_ x3
  have st := D0.big_store (P := Try.prog) (ty := 45) (cs' := #[.int .i64 ki, .int .u32 id, .int .u16 fr, .int .u16 bx, .int .i64 pl, .int .i64 co, .slice A3 k0 c3]) rfl (by kernel_rfl) (by simp [Value.oneCell'])
  have E0 := D0.setRow #[.int .i64 ki, .int .u32 id, .int .u16 fr, .int .u16 bx, .int .i64 pl, .int .i64 co, .slice A3 k0 c3]
  have Y := (Ext.refl (One w.heap.size) w3).setRow (g := w.heap.size) (.inr rfl) #[.int .i64 ki, .int .u32 id, .int .u16 fr, .int .u16 bx, .int .i64 pl, .int .i64 co, .slice A3 k0 c3]
  have E1 := (C1.extN_ x3).ext Y (fun h => by have h : w.heap.size + 1 = w.heap.size := h; omega)
  have E2 := (C2.extN_ x3).ext Y (fun h => by have h : w.heap.size + 1 + 1 = w.heap.size := h; omega)
  have X3 := (X2.transN x3).setRow (g := w.heap.size) (.inl (Nat.le_refl _)) #[.int .i64 ki, .int .u32 id, .int .u16 fr, .int .u16 bx, .int .i64 pl, .int .i64 co, .slice A3 k0 c3]
  have P3 := O3.ext Y (fun b hb h => by have h : b = w.heap.size := h; have := (O3.lt hb).1; omega)
  have hs3 := x3.size
  have hs3' : w3.heap.size = (w3.setRow w.heap.size #[.int .i64 ki, .int .u32 id, .int .u16 fr, .int .u16 bx, .int .i64 pl, .int .i64 co, .slice A3 k0 c3]).heap.size := by simp
  clear D0 C0 C1 C2 x3 X2 O3 Y
  go_upto_region 3 with (fail)
  clear st
  generalize w3.setRow w.heap.size #[.int .i64 ki, .int .u32 id, .int .u16 fr, .int .u16 bx, .int .i64 pl, .int .i64 co, .slice A3 k0 c3] = w4 at *
  obtain ⟨b0, b1, b2, b3, b4, b5, b6⟩ := pc_cellsR E1
  go_wp2_with fail
  clear b0 b1 b2 b3 b4 b5 b6
  have ctr := few_x w4 ki' id' fr' bx' pl' co' b' rfl rfl rfl A1 c1 n1 hn1 (r1.extN X3) hc1 hm1 d' hd' k1 hk1
  with_reducible refine Calls.mono ctr ?_
  clear ctr
  rintro e w5 ⟨A4, c4, rfl, O5, x5⟩
  have D1 := E1.extN_ x5
  have st := D1.big_store (P := Try.prog) (ty := 45) (cs' := #[.int .i64 ki', .int .u32 id', .int .u16 fr', .int .u16 bx', .int .i64 pl', .int .i64 co', .slice A4 k1 c4]) rfl (by kernel_rfl) (by simp [Value.oneCell'])
  have F1 := D1.setRow #[.int .i64 ki', .int .u32 id', .int .u16 fr', .int .u16 bx', .int .i64 pl', .int .i64 co', .slice A4 k1 c4]
  have Y := (Ext.refl (One (w.heap.size + 1)) w5).setRow (g := w.heap.size + 1) (.inr rfl) #[.int .i64 ki', .int .u32 id', .int .u16 fr', .int .u16 bx', .int .i64 pl', .int .i64 co', .slice A4 k1 c4]
  have F0 := (E0.extN_ x5).ext Y (fun h => by have h : w.heap.size = w.heap.size + 1 := h; omega)
  have F2 := (E2.extN_ x5).ext Y (fun h => by have h : w.heap.size + 1 + 1 = w.heap.size + 1 := h; omega)
  have X5 := (X3.transN x5).setRow (g := w.heap.size + 1) (.inl (Nat.le_succ _)) #[.int .i64 ki', .int .u32 id', .int .u16 fr', .int .u16 bx', .int .i64 pl', .int .i64 co', .slice A4 k1 c4]
  have P5 := (P3.extN x5).ext Y (fun b hb h => by have h : b = w.heap.size + 1 := h; have := (P3.lt hb).1; omega)
  have Q5 := O5.ext Y (fun b hb h => by have h : b = w.heap.size + 1 := h; have := (O5.lt hb).1; omega)
  clear D1 E0 E1 E2 x5 X3 O5 P3 Y
  go_upto_region 4 with (fail)
  clear st
  generalize w5.setRow (w.heap.size + 1) #[.int .i64 ki', .int .u32 id', .int .u16 fr', .int .u16 bx', .int .i64 pl', .int .i64 co', .slice A4 k1 c4] = w6 at *
  have hk3 := P5.len
  have hk4 := Q5.len
  rw [hk0] at hk3
  rw [hk1] at hk4
  have hkm : k0 ≤ maxLen ∧ k1 ≤ maxLen := by omega
  obtain ⟨er, her⟩ : ∃ e, pence ⟨ki, id, fr, bx, pl, co, d⟩ = e := ⟨_, rfl⟩
  obtain ⟨es, hes⟩ : ∃ e, pence ⟨ki', id', fr', bx', pl', co', d'⟩ = e := ⟨_, rfl⟩
  obtain ⟨px, hpx⟩ : ∃ e, pencb ⟨ki, id, fr, bx, pl, co, d⟩ = e := ⟨_, rfl⟩
  obtain ⟨py, hpy⟩ : ∃ e, pencb ⟨ki', id', fr', bx', pl', co', d'⟩ = e := ⟨_, rfl⟩
  have hpx256 : px.length = 256 := by rw [← hpx]; exact pencb_len _
  have hpy256 : py.length = 256 := by rw [← hpy]; exact pencb_len _
  obtain ⟨b0, b1, b2, b3, b4, b5, b6⟩ := pc_cellsR F0
  go_wp2_with fail
  clear b0 b1 b2 b3 b4 b5 b6
  have ctr := bytes_x w6 ki id fr bx pl co d hp1 hp2 hp3 rfl rfl rfl A3 c3 k0 hk0 P5.rd hkm.1 px er hpx her rfl
  with_reducible refine Calls.mono ctr ?_
  clear ctr
  rintro e w7 ⟨rfl, x7⟩
  have Y := x7.alloc (.cells (ba px) 35)
  have G0 := F0.extN_ Y
  have G1 := F1.extN_ Y
  have G2 := F2.extN_ Y
  have P7 := P5.extN Y
  have Q7 := Q5.extN Y
  have X7 := X5.transN Y
  have Bx := Blk.new w7 35 (ba px)
  have sb := store_b w7 (l := px) hpx256
  clear F0 F1 F2 P5 Q5 X5 Y x7
  go_upto_region 5 with (fail)
  clear sb
  generalize w7.alloc (.cells (ba px) 35) = w8 at *
  generalize w7.heap.size = gx at *
  obtain ⟨b0, b1, b2, b3, b4, b5, b6⟩ := pc_cellsR G1
  go_wp2_with fail
  clear b0 b1 b2 b3 b4 b5 b6
  have ctr := bytes_x w8 ki' id' fr' bx' pl' co' d' hq1 hq2 hq3 rfl rfl rfl A4 c4 k1 hk1 Q7.rd hkm.2 py es hpy hes rfl
  with_reducible refine Calls.mono ctr ?_
  clear ctr
  rintro e w9 ⟨rfl, x9⟩
  have Y := x9.alloc (.cells (ba py) 35)
  have H0 := G0.extN_ Y
  have H1 := G1.extN_ Y
  have H2 := G2.extN_ Y
  have P9 := P7.extN Y
  have Q9 := Q7.extN Y
  have X9 := X7.transN Y
  have Bx9 := Bx.extN_ Y
  have By := Blk.new w9 35 (ba py)
  have sb := store_b w9 (l := py) hpy256
  clear G0 G1 G2 P7 Q7 X7 Y x9 Bx
  go_upto_region 6 with (fail)
  clear sb
  generalize w9.alloc (.cells (ba py) 35) = w10 at *
  generalize w9.heap.size = gy at *
  have lx := load_ba Bx9 hpx256
  go_upto_if 34 with (fail)
  go_cut [13] (fun s wc => Ext Non w10 wc)
  case first =>
    by_cases rp : prt ⟨ki, id, fr, bx, pl, co, d⟩ = true
    · have e0 : er = 0 := by rw [← her]; exact pence_rt rp
      have e1 : px = pcb ⟨ki, id, fr, bx, pl, co, d⟩ := by rw [← hpx]; exact pencb_rt rp
      subst e0
      go_wp2_with fail
      rw [e1]
      have ctr := parse_p w10 ki id fr bx pl co d hp1 hp2 hp3 rp rfl rfl rfl k0 hk0
      with_reducible refine Calls.mono ctr ?_
      clear ctr
      rintro e w11 ⟨A5, c5, rfl, O11, x11⟩
      have Bz := Blk.new w11 45 #[.int .i64 ki, .int .u32 id, .int .u16 fr, .int .u16 bx, .int .i64 pl, .int .i64 co, .slice A5 k0 c5]
      have Y := x11.alloc (.cells #[.int .i64 ki, .int .u32 id, .int .u16 fr, .int .u16 bx, .int .i64 pl, .int .i64 co, .slice A5 k0 c5] 45)
      have O12 := O11.alloc (.cells #[.int .i64 ki, .int .u32 id, .int .u16 fr, .int .u16 bx, .int .i64 pl, .int .i64 co, .slice A5 k0 c5] 45)
      have P12 := P9.extN Y
      have I0 := H0.extN_ Y
      clear O11 x11
      go_upto_region 8 with (fail)
      generalize w11.alloc (.cells #[.int .i64 ki, .int .u32 id, .int .u16 fr, .int .u16 bx, .int .i64 pl, .int .i64 co, .slice A5 k0 c5] 45) = w12 at *
      generalize w11.heap.size = gz at *
      refine wp_region_seq Non ((0, true) :: (1, true) :: (2, true) :: (3, true) :: (5, true) :: (4, false) :: (6, false) :: (7, true) :: (8, true) :: []) (by kernel_rfl) (by kernel_rfl) (by kernel_rfl) ?_
      iterate 5 (refine wpSeq_quiet rfl rfl ?_; apply Exists.intro; refine ⟨?_, ?_⟩; (intro W hW; have uz := pc_cellsR (Bz.extN_ hW.drewL); have ux := pc_cellsR (I0.extN_ hW.drewL); obtain ⟨a0, a1, a2, a3, a4, a5, a6⟩ := uz; obtain ⟨b0, b1, b2, b3, b4, b5, b6⟩ := ux; go_simp; try with_reducible rfl); (intro K hK; simp only [Act.put, List.setIfInBounds_toArray, List.set_cons_zero, List.set_cons_succ]; refine hK _ ?_; clear hK K))
      refine wpSeq_call rfl rfl (fun K hK => ?_)
      go_simp
      have ctr := of_x w12.drew ki id fr bx pl co d rfl rfl rfl A5 c5 k0 hk0 O12.drew.rd
      with_reducible refine Calls.mono ctr ?_
      clear ctr
      rintro e w13 ⟨rfl, x13⟩
      go_simp
      refine hK _ _ x13 ?_
      clear hK K
      refine wpSeq_call rfl rfl (fun K hK => ?_)
      go_simp
      have ctr := of_x w13 ki id fr bx pl co d rfl rfl rfl A3 c3 k0 hk0 (P12.drew.extN x13).rd
      with_reducible refine Calls.mono ctr ?_
      clear ctr
      rintro e w14 ⟨rfl, x14⟩
      go_simp
      refine hK _ _ x14 ?_
      clear hK K
      have q1 := fun W => neq_rp W ⟨ki, id, fr, bx, pl, co, d⟩ ⟨ki, id, fr, bx, pl, co, d⟩
      simp only [show decide ((⟨ki, id, fr, bx, pl, co, d⟩ : Pc) = ⟨ki, id, fr, bx, pl, co, d⟩) = true from decide_eq_true rfl] at q1
      iterate 2 (refine wpSeq_quiet rfl rfl ?_; apply Exists.intro; refine ⟨?_, ?_⟩; (intro W hW; go_simp; try with_reducible rfl); (intro K hK; simp only [Act.put, List.setIfInBounds_toArray, List.set_cons_zero, List.set_cons_succ]; refine hK _ ?_; clear hK K))
      refine wpSeq_end ?_
      have X14 := (Y.drew.transN x13).transN x14
      clear q1
      go_wp2_with fail
      go_meet
      case rel => exact X14
    · have e0 : er = 1 := by rw [← her]; unfold pence; rw [if_neg rp]
      subst e0
      go_wp2_with fail
      go_meet
      case rel => exact Ext.refl _ _
  case rest =>
    have Y := hcut
    have J0 := H0.extN_ Y
    have J1 := H1.extN_ Y
    have J2 := H2.extN_ Y
    have Jx := Bx9.extN_ Y
    have Jy := By.extN_ Y
    have P11 := P9.extN Y
    have Q11 := Q9.extN Y
    have X11 := X9.transN Y
    clear H0 H1 H2 Bx9 By P9 Q9 X9 Y hcut lx
    go_upto_region 10 with (fail)
    generalize wc = w11 at *
    go_cut [65] (fun s wc => s = .bool false ∧ Ext Non w11 wc)
    case first =>
      by_cases rp : prt ⟨ki, id, fr, bx, pl, co, d⟩ = true
      · have e0 : er = 0 := by rw [← her]; exact pence_rt rp
        subst e0
        by_cases rq : prt ⟨ki', id', fr', bx', pl', co', d'⟩ = true
        · have e1 : es = 0 := by rw [← hes]; exact pence_rt rq
          subst e1
          have hpq : (px == py) = decide ((⟨ki, id, fr, bx, pl, co, d⟩ : Pc) = ⟨ki', id', fr', bx', pl', co', d'⟩) := by rw [← hpx, ← hpy, pencb_rt rp, pencb_rt rq]; exact pcb_eq ⟨hp1, hp2, hp3⟩ ⟨hq1, hq2, hq3⟩ rp rq
          have q0 := fun W => eql_b W hpx256 hpy256
          have q1 := fun W => eql_rp W ⟨ki, id, fr, bx, pl, co, d⟩ ⟨ki', id', fr', bx', pl', co', d'⟩
          rw [hpq] at q0
          generalize decide ((⟨ki, id, fr, bx, pl, co, d⟩ : Pc) = ⟨ki', id', fr', bx', pl', co', d'⟩) = bpq at *
          clear hpq
          refine wp_region_seq Non ((0, true) :: (1, true) :: (2, true) :: (3, true) :: (4, true) :: (5, true) :: (6, true) :: (7, true) :: (8, true) :: (9, true) :: (10, true) :: (12, true) :: (11, false) :: (13, false) :: (14, true) :: (15, true) :: (16, true) :: []) (by kernel_rfl) (by kernel_rfl) (by kernel_rfl) ?_
          iterate 12 (refine wpSeq_quiet rfl rfl ?_; apply Exists.intro; refine ⟨?_, ?_⟩; (intro W hW; have l1 := load_ba (Jx.extN_ hW.drewL) hpx256; have l2 := load_ba (Jy.extN_ hW.drewL) hpy256; have uz := pc_cellsR (J1.extN_ hW.drewL); have ux := pc_cellsR (J0.extN_ hW.drewL); obtain ⟨a0, a1, a2, a3, a4, a5, a6⟩ := uz; obtain ⟨b0, b1, b2, b3, b4, b5, b6⟩ := ux; go_simp; try with_reducible rfl); (intro K hK; simp only [Act.put, List.setIfInBounds_toArray, List.set_cons_zero, List.set_cons_succ]; refine hK _ ?_; clear hK K))
          refine wpSeq_call rfl rfl (fun K hK => ?_)
          go_simp
          have ctr := of_x w11.drew ki id fr bx pl co d rfl rfl rfl A3 c3 k0 hk0 P11.drew.rd
          with_reducible refine Calls.mono ctr ?_
          clear ctr
          rintro e w13 ⟨rfl, x13⟩
          go_simp
          refine hK _ _ x13 ?_
          clear hK K
          refine wpSeq_call rfl rfl (fun K hK => ?_)
          go_simp
          have ctr := of_x w13 ki' id' fr' bx' pl' co' d' rfl rfl rfl A4 c4 k1 hk1 (Q11.drew.extN x13).rd
          with_reducible refine Calls.mono ctr ?_
          clear ctr
          rintro e w14 ⟨rfl, x14⟩
          go_simp
          refine hK _ _ x14 ?_
          clear hK K
          iterate 3 (refine wpSeq_quiet rfl rfl ?_; apply Exists.intro; refine ⟨?_, ?_⟩; (intro W hW; go_simp; try with_reducible rfl); (intro K hK; simp only [Act.put, List.setIfInBounds_toArray, List.set_cons_zero, List.set_cons_succ]; refine hK _ ?_; clear hK K))
          refine wpSeq_end ?_
          have X14 := ((Ext.refl Non w11).drew.transN x13).transN x14
          clear q0 q1
          go_wp2_with fail
          go_meet
          case rel => exact ⟨rfl, X14⟩
        · have e1 : es = 1 := by rw [← hes]; unfold pence; rw [if_neg rq]
          subst e1
          refine wp_region_seq Non ((0, true) :: (1, true) :: (2, true) :: (3, true) :: (4, true) :: (5, true) :: (6, true) :: (7, true) :: (8, true) :: (9, true) :: (10, true) :: (12, true) :: (11, false) :: (13, false) :: (14, true) :: (15, true) :: (16, true) :: []) (by kernel_rfl) (by kernel_rfl) (by kernel_rfl) ?_
          iterate 7 (refine wpSeq_quiet rfl rfl ?_; apply Exists.intro; refine ⟨?_, ?_⟩; (intro W hW; go_simp; try with_reducible rfl); (intro K hK; simp only [Act.put, List.setIfInBounds_toArray, List.set_cons_zero, List.set_cons_succ]; refine hK _ ?_; clear hK K))
          iterate 5 (refine wpSeq_skip rfl rfl (fun K hK => ?_); simp only [Act.put, List.setIfInBounds_toArray, List.set_cons_zero, List.set_cons_succ]; refine hK _ ?_; clear hK K)
          iterate 2 (refine wpSeq_pass rfl rfl (fun K hK => ?_); simp only [Act.put, List.setIfInBounds_toArray, List.set_cons_zero, List.set_cons_succ]; refine hK _ ?_; clear hK K)
          iterate 2 (refine wpSeq_skip rfl rfl (fun K hK => ?_); simp only [Act.put, List.setIfInBounds_toArray, List.set_cons_zero, List.set_cons_succ]; refine hK _ ?_; clear hK K)
          iterate 1 (refine wpSeq_quiet rfl rfl ?_; apply Exists.intro; refine ⟨?_, ?_⟩; (intro W hW; go_simp; try with_reducible rfl); (intro K hK; simp only [Act.put, List.setIfInBounds_toArray, List.set_cons_zero, List.set_cons_succ]; refine hK _ ?_; clear hK K))
          refine wpSeq_end ?_
          go_wp2_with fail
          go_meet
          case rel => exact ⟨rfl, (Ext.refl Non w11).drew⟩
      · have e0 : er = 1 := by rw [← her]; unfold pence; rw [if_neg rp]
        subst e0
        refine wp_region_seq Non ((0, true) :: (1, true) :: (2, true) :: (3, true) :: (4, true) :: (5, true) :: (6, true) :: (7, true) :: (8, true) :: (9, true) :: (10, true) :: (12, true) :: (11, false) :: (13, false) :: (14, true) :: (15, true) :: (16, true) :: []) (by kernel_rfl) (by kernel_rfl) (by kernel_rfl) ?_
        iterate 3 (refine wpSeq_quiet rfl rfl ?_; apply Exists.intro; refine ⟨?_, ?_⟩; (intro W hW; go_simp; try with_reducible rfl); (intro K hK; simp only [Act.put, List.setIfInBounds_toArray, List.set_cons_zero, List.set_cons_succ]; refine hK _ ?_; clear hK K))
        iterate 2 (refine wpSeq_skip rfl rfl (fun K hK => ?_); simp only [Act.put, List.setIfInBounds_toArray, List.set_cons_zero, List.set_cons_succ]; refine hK _ ?_; clear hK K)
        iterate 2 (refine wpSeq_quiet rfl rfl ?_; apply Exists.intro; refine ⟨?_, ?_⟩; (intro W hW; go_simp; try with_reducible rfl); (intro K hK; simp only [Act.put, List.setIfInBounds_toArray, List.set_cons_zero, List.set_cons_succ]; refine hK _ ?_; clear hK K))
        iterate 5 (refine wpSeq_skip rfl rfl (fun K hK => ?_); simp only [Act.put, List.setIfInBounds_toArray, List.set_cons_zero, List.set_cons_succ]; refine hK _ ?_; clear hK K)
        iterate 2 (refine wpSeq_pass rfl rfl (fun K hK => ?_); simp only [Act.put, List.setIfInBounds_toArray, List.set_cons_zero, List.set_cons_succ]; refine hK _ ?_; clear hK K)
        iterate 2 (refine wpSeq_skip rfl rfl (fun K hK => ?_); simp only [Act.put, List.setIfInBounds_toArray, List.set_cons_zero, List.set_cons_succ]; refine hK _ ?_; clear hK K)
        iterate 1 (refine wpSeq_quiet rfl rfl ?_; apply Exists.intro; refine ⟨?_, ?_⟩; (intro W hW; go_simp; try with_reducible rfl); (intro K hK; simp only [Act.put, List.setIfInBounds_toArray, List.set_cons_zero, List.set_cons_succ]; refine hK _ ?_; clear hK K))
        refine wpSeq_end ?_
        go_wp2_with fail
        go_meet
        case rel => exact ⟨rfl, (Ext.refl Non w11).drew⟩
    case rest =>
      obtain ⟨rfl, Y⟩ := hcut
      have K2 := J2.extN_ Y
      have X12 := X11.transN Y
      clear J0 J1 J2 Jx Jy P11 Q11 X11 Y hpx hpy her hes hpx256 hpy256
      generalize wc = w12 at *
      go_upto_region 12 with (fail)
      have lb := load_ba K2 hl
      by_cases hg : pgood l = true
      · obtain ⟨g1, g2⟩ := pgood_facts hg
        obtain ⟨z1, z2, z3⟩ := rdpc_ok hl
        have hz : pdec l = rdpc l := by unfold pdec; rw [if_pos hg]
        have he : pdece l = 0 := by unfold pdece; rw [if_pos hg]
        generalize rdpc l = z at *
        obtain ⟨zk, zi, zf, zb, zp, zc, zd⟩ := z
        obtain ⟨nz, hnz⟩ : ∃ n, zd.length = n := ⟨_, rfl⟩
        have hnz244 : nz ≤ 244 := by rw [← hnz]; exact (prt_facts g1).2.2.2
        go_wp2_with fail
        have ctr := parse_x w12 hl zk zi zf zb zp zc zd 0 hz he rfl rfl rfl rfl nz hnz
        with_reducible refine Calls.mono ctr ?_
        clear ctr
        rintro e w13 ⟨A13, c13, rfl, O13, x13⟩
        have Bz := Blk.new w13 45 #[.int .i64 zk, .int .u32 zi, .int .u16 zf, .int .u16 zb, .int .i64 zp, .int .i64 zc, .slice A13 nz c13]
        have Y := x13.alloc (.cells #[.int .i64 zk, .int .u32 zi, .int .u16 zf, .int .u16 zb, .int .i64 zp, .int .i64 zc, .slice A13 nz c13] 45)
        have L2 := K2.extN_ Y
        have O14 := O13.alloc (.cells #[.int .i64 zk, .int .u32 zi, .int .u16 zf, .int .u16 zb, .int .i64 zp, .int .i64 zc, .slice A13 nz c13] 45)
        have X14 := X12.transN Y
        clear O13 x13 Y X12 K2 lb
        go_upto_region 15 with (fail)
        generalize w13.alloc (.cells #[.int .i64 zk, .int .u32 zi, .int .u16 zf, .int .u16 zb, .int .i64 zp, .int .i64 zc, .slice A13 nz c13] 45) = w14 at *
        generalize w13.heap.size = gz at *
        have hb1 : pencb ⟨zk, zi, zf, zb, zp, zc, zd⟩ = l := by rw [pencb_rt g1, g2]
        have hb2 : pence ⟨zk, zi, zf, zb, zp, zc, zd⟩ = 0 := pence_rt g1
        have hcz := O14.len
        rw [hnz] at hcz
        obtain ⟨b0, b1, b2, b3, b4, b5, b6⟩ := pc_cellsR Bz
        go_wp2_with fail
        clear b0 b1 b2 b3 b4 b5 b6
        have ctr := bytes_x w14 zk zi zf zb zp zc zd z1 z2 z3 rfl rfl rfl A13 c13 nz hnz O14.rd (by omega) l 0 hb1 hb2 rfl
        with_reducible refine Calls.mono ctr ?_
        clear ctr
        rintro e w15 ⟨rfl, x15⟩
        have Y := x15.alloc (.cells (ba l) 35)
        have Bc := Blk.new w15 35 (ba l)
        have M2 := L2.extN_ Y
        have Cz := Bz.extN_ Y
        have O16 := O14.extN Y
        have X16 := X14.transN Y
        have sb := store_b w15 (l := l) hl
        clear L2 Bz O14 X14 Y x15
        go_upto_region 16 with (fail)
        clear sb
        generalize w15.alloc (.cells (ba l) 35) = w16 at *
        generalize w15.heap.size = gc at *
        have l1 := load_ba Bc hl
        have l2 := load_ba M2 hl
        have q1 := equalIn_b w16 hl hl
        rw [beq_self_eq_true] at q1
        obtain ⟨b0, b1, b2, b3, b4, b5, b6⟩ := pc_cellsR Cz
        go_wp2_with fail
        clear l1 l2 q1 b0 b1 b2 b3 b4 b5 b6
        have ctr := right_x w16 zk zi zf zb zp zc zd rfl rfl rfl A13 c13 nz hnz O16.rd (by omega) 0 hb2 rfl
        with_reducible refine Calls.mono ctr ?_
        clear ctr
        rintro e w17 ⟨rfl, x17⟩
        have X17 := X16.transN x17
        go_wp2_with fail
        go_ret
        exact ⟨rfl, X17.belowN⟩
      · have hz : pdec l = pc0 := by unfold pdec; rw [if_neg hg]
        have he : pdece l = 3 := by unfold pdece; rw [if_neg hg]
        go_wp2_with fail
        have ctr := parse_x w12 hl 0 0 0 0 0 0 [] 3 hz he rfl rfl rfl rfl 0 rfl
        with_reducible refine Calls.mono ctr ?_
        clear ctr
        rintro e w13 ⟨A13, c13, rfl, O13, x13⟩
        have Bz := Blk.new w13 45 #[.int .i64 0, .int .u32 0, .int .u16 0, .int .u16 0, .int .i64 0, .int .i64 0, .slice A13 0 c13]
        have Y := x13.alloc (.cells #[.int .i64 0, .int .u32 0, .int .u16 0, .int .u16 0, .int .i64 0, .int .i64 0, .slice A13 0 c13] 45)
        have X14 := X12.transN Y
        have O14 := O13.alloc (.cells #[.int .i64 0, .int .u32 0, .int .u16 0, .int .u16 0, .int .i64 0, .int .i64 0, .slice A13 0 c13] 45)
        clear O13 x13 Y X12 K2 lb
        go_upto_region 13 with (fail)
        generalize w13.alloc (.cells #[.int .i64 0, .int .u32 0, .int .u16 0, .int .u16 0, .int .i64 0, .int .i64 0, .slice A13 0 c13] 45) = w14 at *
        generalize w13.heap.size = gz at *
        obtain ⟨b0, b1, b2, b3, b4, b5, b6⟩ := pc_cellsR Bz
        go_wp2_with fail
        clear b0 b1 b2 b3 b4 b5 b6
        have ctr := of_x w14 0 0 0 0 0 0 [] rfl rfl rfl A13 c13 0 rfl O14.rd
        with_reducible refine Calls.mono ctr ?_
        clear ctr
        rintro e w15 ⟨rfl, x15⟩
        have X15 := X14.transN x15
        go_wp2_with fail
        have ctr := of_x w15 0 0 0 0 0 0 [] rfl rfl rfl none 0 0 rfl (D := Non) (.inl rfl)
        with_reducible refine Calls.mono ctr ?_
        clear ctr
        rintro e w16 ⟨rfl, x16⟩
        have X16 := X15.transN x16
        have er0 : rpc ⟨0, 0, 0, 0, 0, 0, []⟩ = #[.int .i64 0, .int .u32 0, .int .u16 0, .int .u16 0, .int .i64 0, .int .i64 0, .string (str [])] := rfl
        rw [er0]
        go_wp2_with fail
        go_ret
        exact ⟨rfl, X16.belowN⟩
end Go.Proofs.Ytcdpmedmhindaaa
