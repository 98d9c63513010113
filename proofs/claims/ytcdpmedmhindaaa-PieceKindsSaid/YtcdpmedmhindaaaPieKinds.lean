/- The law PieceKinds: acknowledgements and covers say who, and nothing more; for any numbers. -/
import Derived.Test.YtcdpmedmhindaaaPieV
namespace Go.Proofs.Ytcdpmedmhindaaa
open Go.RowKit

abbrev pAck (id fr bx : Nat) : Pc := ⟨2, id, fr, bx, 0, 0, []⟩
abbrev pCov (id bx : Nat) : Pc := ⟨3, id, 0, bx, 0, 0, []⟩
theorem ack_rt (id fr bx : Nat) : prt (pAck id fr bx) = true := by simp [prt, pAck]
theorem cov_rt (id : Nat) : prt (pCov id 0) = true := by simp [prt, pCov]
theorem cov_ne (id bx : Nat) (h : bx ≠ 0) : prt (pCov id bx) = false := by simp [prt, pCov, h]
theorem pcb_tail (p : Pc) (h1 : p.place = 0) (h2 : p.count = 0) (h3 : p.b = []) (n : Nat) (hn : 9 ≤ n) (h : n < 256) : (pcb p).getD n 0 = 0 := by
  unfold pcb
  rw [h1, h2, h3]
  have e : be 1 p.kind.toNat ++ be 4 p.id ++ be 2 p.fr ++ be 2 p.bx ++ be 1 (0 : Int).toNat ++ be 1 (0 : Int).toNat ++ be 1 ([] : List UInt8).length ++ [] ++ zeros (244 - ([] : List UInt8).length) =
      (be 1 p.kind.toNat ++ be 4 p.id ++ be 2 p.fr ++ be 2 p.bx) ++ zeros 247 := by
    simp only [List.append_assoc]
    rfl
  rw [e, List.getD_eq_getElem?_getD, List.getElem?_append_right (by simp [be_length]; omega)]
  unfold zeros
  rw [List.getElem?_replicate]
  split <;> rfl
def PA (ki : Int) (x1 x2 x3 : Int) (A : Option Addr) (c : Nat) : Obj := .cells #[.int .i64 ki, .int .u32 x1, .int .u16 x2, .int .u16 x3, .int .i64 0, .int .i64 0, .slice A 0 c] 45
set_option maxRecDepth 100000 in
set_option maxHeartbeats 4000000 in
theorem kinds_walk (id fr bx : Nat) (hid : id < 4294967296) (hfr : fr < 65536) (hbx : bx < 65536) (w : World) :
    Calls Try.prog 10 #[.int .u32 id, .int .u16 fr, .int .u16 bx] w fun e w' => e = .returned (.bool true) ∧ Below w.heap.size w w' := by
  go_enter Try.func10, Try.ntmps10
  go_wp2_with fail
  have ctr := shown_calls w
  with_reducible refine Calls.mono ctr ?_
  clear ctr
  rintro e w1 ⟨rfl, x1⟩
  go_wp2_with fail
  have ctr := new_calls w1 1
  with_reducible refine Calls.mono ctr ?_
  clear ctr
  rintro e w2 ⟨j, rfl, J0, x2⟩
  have X2 := x1.transN x2
  have hs2 : w1.heap.size ≤ w2.heap.size := x2.size
  have Ba := (Blk.new w2 45 #[.int .i64 2, .int .u32 id, .int .u16 fr, .int .u16 bx, .int .i64 0, .int .i64 0, .slice none 0 0]).alloc (PA 3 id 0 0 none 0)
  have Bc := Blk.new (w2.alloc (PA 2 id fr bx none 0)) 45 #[.int .i64 3, .int .u32 id, .int .u16 0, .int .u16 0, .int .i64 0, .int .i64 0, .slice none 0 0]
  rw [World.size_alloc] at Bc
  have Y3 := ((Ext.refl Non w2).alloc (PA 2 id fr bx none 0)).alloc (PA 3 id 0 0 none 0)
  unfold PA at Ba Bc Y3
  have X3 := X2.transN Y3
  have J3 := J0.extN Y3
  have hs3 : ((w2.alloc (.cells #[.int .i64 2, .int .u32 id, .int .u16 fr, .int .u16 bx, .int .i64 0, .int .i64 0, .slice none 0 0] 45)).alloc (.cells #[.int .i64 3, .int .u32 id, .int .u16 0, .int .u16 0, .int .i64 0, .int .i64 0, .slice none 0 0] 45)).heap.size = w2.heap.size + 2 := by rw [World.size_alloc, World.size_alloc]
  obtain ⟨a0, a1, a2, a3, a4, a5, a6⟩ := pc_cellsR Ba
  go_wp2_with fail
  clear a0 a1 a2 a3 a4 a5 a6
  generalize (w2.alloc (.cells #[.int .i64 2, .int .u32 id, .int .u16 fr, .int .u16 bx, .int .i64 0, .int .i64 0, .slice none 0 0] 45)).alloc (.cells #[.int .i64 3, .int .u32 id, .int .u16 0, .int .u16 0, .int .i64 0, .int .i64 0, .slice none 0 0] 45) = w3 at *
  obtain ⟨q, hq⟩ : ∃ q, w2.heap.size = q := ⟨_, rfl⟩
  rw [hq] at Ba Bc hs3 hs2 J3
  simp only [hq]
  clear hq J0 Y3 x2
  have ctr := bytes_x w3 2 id fr bx 0 0 [] hid hfr hbx rfl rfl rfl none 0 0 rfl (Dp := Non) (.inl rfl) (by decide) (pcb (pAck id fr bx)) 0 (pencb_rt (ack_rt id fr bx)) (pence_rt (ack_rt id fr bx)) rfl
  with_reducible refine Calls.mono ctr ?_
  clear ctr
  rintro e w4 ⟨rfl, x4⟩
  have l1 := prt_len (ack_rt id fr bx)
  have l2 := prt_len (cov_rt id)
  have n1 : ba (pcb (pAck id fr bx)) ≠ #[] := row_ne (n := 255) (by rw [ba_size, l1])
  have n2 : ba (pcb (pCov id 0)) ≠ #[] := row_ne (n := 255) (by rw [ba_size, l2])
  have st := store_b w4 l1
  have qx : q ≤ w4.heap.size := by
    have := x4.size
    omega
  have Bx := Blk.new w4 35 (ba (pcb (pAck id fr bx)))
  have Y4 := x4.alloc (.cells (ba (pcb (pAck id fr bx))) 35)
  have Ba4 := Ba.extN_ Y4
  have Bc4 := Bc.extN_ Y4
  have X4 := X3.transN Y4
  have J4 := J3.extN Y4
  obtain ⟨a0, a1, a2, a3, a4, a5, a6⟩ := pc_cellsR Bc4
  clear Ba Bc X3 J3 Y4 x4
  go_wp2_with fail
  clear a0 a1 a2 a3 a4 a5 a6 st
  obtain ⟨gx, hgx⟩ : ∃ q, w4.heap.size = q := ⟨_, rfl⟩
  rw [hgx] at Bx qx
  simp only [hgx]
  clear hgx
  generalize w4.alloc (.cells (ba (pcb (pAck id fr bx))) 35) = w5 at *
  have ctr := bytes_x w5 3 id 0 0 0 0 [] hid (by decide) (by decide) rfl rfl rfl none 0 0 rfl (Dp := Non) (.inl rfl) (by decide) (pcb (pCov id 0)) 0 (pencb_rt (cov_rt id)) (pence_rt (cov_rt id)) rfl
  with_reducible refine Calls.mono ctr ?_
  clear ctr
  rintro e w6 ⟨rfl, x6⟩
  have st := store_b w6 l2
  have qy : q ≤ w6.heap.size := by
    have := x6.size
    have := Bx.lt
    omega
  have By := Blk.new w6 35 (ba (pcb (pCov id 0)))
  have Y6 := x6.alloc (.cells (ba (pcb (pCov id 0))) 35)
  have Ba6 := Ba4.extN_ Y6
  have Bc6 := Bc4.extN_ Y6
  have Bx6 := Bx.extN_ Y6
  have X6 := X4.transN Y6
  have J6 := J4.extN Y6
  have ld := load_ba Bx6 l1
  clear Ba4 Bc4 Bx X4 J4 Y6 x6
  go_wp2_with fail
  clear ld st
  obtain ⟨gy, hgy⟩ : ∃ q, w6.heap.size = q := ⟨_, rfl⟩
  rw [hgy] at By qy
  simp only [hgy]
  clear hgy
  generalize w6.alloc (.cells (ba (pcb (pCov id 0))) 35) = w7 at *
  have ctr := parse_p w7 2 id fr bx 0 0 [] hid hfr hbx (ack_rt id fr bx) rfl rfl rfl 0 rfl
  with_reducible refine Calls.mono ctr ?_
  clear ctr
  rintro e w8 ⟨A8, c8, rfl, O8, x8⟩
  have Bb := Blk.new w8 45 #[.int .i64 2, .int .u32 id, .int .u16 fr, .int .u16 bx, .int .i64 0, .int .i64 0, .slice A8 0 c8]
  have Y8 := x8.alloc (.cells #[.int .i64 2, .int .u32 id, .int .u16 fr, .int .u16 bx, .int .i64 0, .int .i64 0, .slice A8 0 c8] 45)
  have hqb0 := (Bc6.extN_ x8).lt
  have Ba8 := Ba6.extN_ Y8
  have Bc8 := Bc6.extN_ Y8
  have Bx8 := Bx6.extN_ Y8
  have By8 := By.extN_ Y8
  have X8 := X6.transN Y8
  have J8 := J6.extN Y8
  have ld := load_ba By8 l2
  clear Ba6 Bc6 Bx6 By X6 J6 Y8 x8 O8
  go_wp2_with fail
  clear ld
  have hqb : q + 1 < w8.heap.size := hqb0
  clear hqb0
  obtain ⟨gb, hgb⟩ : ∃ q, w8.heap.size = q := ⟨_, rfl⟩
  rw [hgb] at Bb hqb
  simp only [hgb]
  clear hgb
  generalize w8.alloc (.cells #[.int .i64 2, .int .u32 id, .int .u16 fr, .int .u16 bx, .int .i64 0, .int .i64 0, .slice A8 0 c8] 45) = w9 at *
  have ctr := parse_p w9 3 id 0 0 0 0 [] hid (by decide) (by decide) (cov_rt id) rfl rfl rfl 0 rfl
  with_reducible refine Calls.mono ctr ?_
  clear ctr
  rintro e w10 ⟨A10, c10, rfl, O10, x10⟩
  have Ba10 := Ba8.extN_ x10
  have Bc10 := Bc8.extN_ x10
  have Bx10 := Bx8.extN_ x10
  have By10 := By8.extN_ x10
  have Bb10 := Bb.extN_ x10
  have X10 := X8.transN x10
  have J10 := J8.extN x10
  have c3 := Bc10.cell 3
  have f3 := Bc10.frozen 3
  have hq1 := Bc10.lt
  have hgbl := Bb10.lt
  have Bc11 : Blk (w10.setCell ⟨q + 1, 3, none⟩ (.int .u16 bx)) (q + 1) 45 #[.int .i64 3, .int .u32 id, .int .u16 0, .int .u16 bx, .int .i64 0, .int .i64 0, .slice none 0 0] := Bc10.set_ 3 (.int .u16 bx)
  have Y11 := (Ext.refl (One (q + 1)) w10).setCell (p := ⟨q + 1, 3, none⟩) (.inr rfl) (.int .u16 bx)
  have X11 : Ext Non w (w10.setCell ⟨q + 1, 3, none⟩ (.int .u16 bx)) := X10.setCell (p := ⟨q + 1, 3, none⟩) (.inl (by
    have := x1.size
    show w.heap.size ≤ q + 1
    omega)) (.int .u16 bx)
  have J11 := J10.ext Y11 (fun k h hh => by
    have hh : k = q + 1 := hh
    have h := h.2
    omega)
  have ne := fun {g : Nat} {t : TypeId} {cs : Array Value} (h : Blk w10 g t cs) (hg : g ≠ q + 1) => h.ext Y11 (fun hh => hg hh)
  have Ba11 := ne Ba10 (by omega)
  have Bx11 := ne Bx10 (Bx10.ne_ Bc10 (by decide))
  have By11 := ne By10 (By10.ne_ Bc10 (by decide))
  have Bb11 := ne Bb10 (by omega)
  have hs11 : (w10.setCell ⟨q + 1, 3, none⟩ (.int .u16 bx)).heap.size = w10.heap.size := World.size_setCell ..
  have Bd := Blk.new (w10.setCell ⟨q + 1, 3, none⟩ (.int .u16 bx)) 45 #[.int .i64 3, .int .u32 id, .int .u16 0, .int .u16 0, .int .i64 0, .int .i64 0, .slice A10 0 c10]
  have Y12 := (Ext.refl Non (w10.setCell ⟨q + 1, 3, none⟩ (.int .u16 bx))).alloc (.cells #[.int .i64 3, .int .u32 id, .int .u16 0, .int .u16 0, .int .i64 0, .int .i64 0, .slice A10 0 c10] 45)
  rw [hs11] at Bd
  replace Ba11 := Ba11.extN_ Y12
  replace Bc11 := Bc11.extN_ Y12
  replace Bx11 := Bx11.extN_ Y12
  replace By11 := By11.extN_ Y12
  replace Bb11 := Bb11.extN_ Y12
  replace J11 := J11.extN Y12
  have X12 := X11.transN Y12
  clear ne Y11 X10 J10 Ba10 Bx10 By10 Bb10 Bc10 X11 hs11 x10 Y12
  obtain ⟨a0, a1, a2, a3, a4, a5, a6⟩ := pc_cellsR Bc11
  go_wp2_with fail
  clear c3 f3 a0 a1 a2 a3 a4 a5 a6
  obtain ⟨gd, hgd⟩ : ∃ q, w10.heap.size = q := ⟨_, rfl⟩
  rw [hgd] at Bd hq1 hgbl
  simp only [hgd]
  clear hgd
  generalize (w10.setCell ⟨q + 1, 3, none⟩ (.int .u16 bx)).alloc (.cells #[.int .i64 3, .int .u32 id, .int .u16 0, .int .u16 0, .int .i64 0, .int .i64 0, .slice A10 0 c10] 45) = w12 at *
  obtain ⟨er, her⟩ : ∃ er, pence ⟨3, id, 0, bx, 0, 0, []⟩ = er := ⟨_, rfl⟩
  have ctr := bytes_x w12 3 id 0 bx 0 0 [] hid (by decide) hbx rfl rfl rfl none 0 0 rfl (Dp := Non) (.inl rfl) (by decide) _ er rfl her rfl
  with_reducible refine Calls.mono ctr ?_
  clear ctr
  rintro e w13 ⟨rfl, x13⟩
  have lz : (pencb ⟨3, id, 0, bx, 0, 0, []⟩).length = 256 := pencb_len _
  generalize pencb ⟨3, id, 0, bx, 0, 0, []⟩ = bz at *
  have n3 : ba bz ≠ #[] := row_ne (n := 255) (by rw [ba_size, lz])
  have st := store_b w13 lz
  have Y14 := x13.alloc (.cells (ba bz) 35)
  replace Ba11 := Ba11.extN_ Y14
  replace Bx11 := Bx11.extN_ Y14
  replace By11 := By11.extN_ Y14
  replace Bb11 := Bb11.extN_ Y14
  replace Bd := Bd.extN_ Y14
  replace J11 := J11.extN Y14
  have X14 := X12.transN Y14
  obtain ⟨a0, a1, a2, a3, a4, a5, a6⟩ := pc_cellsR Ba11
  clear X12 Y14 x13 Bc11
  go_wp2_with fail
  clear a0 a1 a2 a3 a4 a5 a6 st n3 lz
  generalize w13.alloc (.cells (ba bz) 35) = w14 at *
  have wd : w.heap.size ≤ w1.heap.size := x1.size
  have nD : ∀ {k}, q ≤ k → ¬ (w1.heap.size ≤ k ∧ k < q) := fun h hh => by omega
  have ctr := take_none J11 2 id fr bx 0 0 [] 1 (jtake_arg (by simp)) rfl rfl rfl rfl none 0 0 rfl (Dp := Non) (.inl rfl) (by decide) (by decide)
  with_reducible refine Calls.mono ctr ?_
  clear ctr
  rintro e w15 ⟨D, rfl, J15, hD, x15⟩
  have Bd15 := Bd.ext x15 (nD (by omega))
  have Y16 := (Ext.refl Non w15).alloc (.cells #[.int .u32 0, .int .u16 0, .int .u16 0, .slice none 0 0] 55)
  have Bx15 := Bx11.ext x15 (nD qx)
  have By15 := By11.ext x15 (nD qy)
  have Bb15 := Bb11.ext x15 (nD (by omega))
  have X15 := X14.trans x15 (fun i hi hd => by omega)
  have hs14 : gd < w14.heap.size := Bd.lt
  have hqx : gx < w14.heap.size := Bx11.lt
  have hqy : gy < w14.heap.size := By11.lt
  have nD' : ∀ {k}, q ≤ k → k < w14.heap.size → ¬ D k := fun h h2 hh => by
    have := (hD _ hh).1
    omega
  have nDw : ∀ {k}, k < w.heap.size → ¬ D k := fun h hh => by
    have := (hD _ hh).1
    have := X14.size
    omega
  replace Bd15 := Bd15.extN_ Y16
  replace Bx15 := Bx15.extN_ Y16
  replace By15 := By15.extN_ Y16
  replace Bb15 := Bb15.extN_ Y16
  replace J15 := J15.extN Y16
  have X16 := X15.transN Y16
  obtain ⟨a0, a1, a2, a3, a4, a5, a6⟩ := pc_cellsR Bd15
  clear x15 Ba11 Bx11 By11 Bb11 Bd J11 hD X14 X15 Y16
  go_wp2_with fail
  clear a0 a1 a2 a3 a4 a5 a6
  generalize w15.alloc (.cells #[.int .u32 0, .int .u16 0, .int .u16 0, .slice none 0 0] 55) = w16 at *
  have ctr := take_none J15 3 id 0 0 0 0 [] 1 (jtake_arg (by simp)) rfl rfl rfl rfl A10 c10 0 rfl (Dp := Non) (.inl rfl) (Nat.zero_le _) (by decide)
  with_reducible refine Calls.mono ctr ?_
  clear ctr
  rintro e w17 ⟨D', rfl, J17, hD, x17⟩
  have Bd17 := Bd15.ext x17 (nD' (by omega) hs14)
  have Bx17 := Bx15.ext x17 (nD' qx hqx)
  have By17 := By15.ext x17 (nD' qy hqy)
  have Bb17 := Bb15.ext x17 (nD' (by omega) (by omega))
  have X17 := X16.trans x17 (fun i hi hd => nDw hi hd)
  have Y18 := (Ext.refl Non w17).alloc (.cells #[.int .u32 0, .int .u16 0, .int .u16 0, .slice none 0 0] 55)
  replace Bd17 := Bd17.extN_ Y18
  replace Bx17 := Bx17.extN_ Y18
  replace By17 := By17.extN_ Y18
  replace Bb17 := Bb17.extN_ Y18
  replace J17 := J17.extN Y18
  have X18 := X17.transN Y18
  clear x17 Bd15 Bx15 By15 Bb15 J15 hD X17 X16 Y18 nD nD' nDw
  go_wp2_with fail
  generalize w17.alloc (.cells #[.int .u32 0, .int .u16 0, .int .u16 0, .slice none 0 0] 55) = w18 at *
  have cx : ∀ n, 9 ≤ n → n < 256 → w18.cell? ⟨gx, n, none⟩ = some (.int .u8 0) := fun n h1 h2 => by
    rw [Bx17.cell n, ba_get _ n (by omega), pcb_tail _ rfl rfl rfl n h1 h2]
    rfl
  have cy : ∀ n, 9 ≤ n → n < 256 → w18.cell? ⟨gy, n, none⟩ = some (.int .u8 0) := fun n h1 h2 => by
    rw [By17.cell n, ba_get _ n (by omega), pcb_tail _ rfl rfl rfl n h1 h2]
    rfl
  go_loopw [27] (fun i wr => ∃ n : Nat, 9 ≤ n ∧ n ≤ 256 ∧ i = .int .i64 n ∧ Ext Non w18 wr) (fun i _ => 256 - (intOf i).toNat)
  case atStart => exact ⟨9, by omega, by omega, rfl, Ext.refl _ _⟩
  case round =>
    obtain ⟨n, hn9, hn, rfl, X⟩ := hrel
    by_cases hlt : n < 256
    · have i1 : (n : Int) < 256 := by omega
      have c1 := X.cell (cx n hn9 hlt) (fun h => h)
      have c2 := X.cell (cy n hn9 hlt) (fun h => h)
      clear cx cy
      go_wp2_with fail
      exact ⟨⟨n + 1, by omega, by omega, by go_num, X⟩, by simp [intOf]; omega⟩
    · obtain rfl : n = 256 := by omega
      clear cx cy
      obtain ⟨b0, b1, b2, b3, b4, b5, b6⟩ := pc_cellsR (Bb17.extN_ X)
      obtain ⟨d0, d1, d2, d3, d4, d5, d6⟩ := pc_cellsR (Bd17.extN_ X)
      have hz : ((er : Int) == 0) = ((bx : Int) == 0) := by
        by_cases hb : bx = 0
        · subst hb
          rw [pence_rt (cov_rt id)] at her
          subst her
          rfl
        · have : pence ⟨3, id, 0, bx, 0, 0, []⟩ = 1 := by
            unfold pence
            rw [cov_ne id bx hb]
            rfl
          rw [this] at her
          subst her
          have : ((bx : Int) == 0) = false := by
            rw [beq_eq_false_iff_ne]
            omega
          rw [this]
          rfl
      clear her
      go_wp2_with fail
      have ctr := len_calls (J17.extN X)
      with_reducible refine Calls.mono ctr ?_
      clear ctr
      rintro e wz ⟨rfl, rfl⟩
      clear b0 b1 b2 b3 b4 b5 b6 d0 d1 d2 d3 d4 d5 d6
      have hl : (jn0 1).opn.length = 0 := rfl
      go_wp2_with fail
      go_ret
      exact ⟨rfl, (X18.transN X).belowN⟩
end Go.Proofs.Ytcdpmedmhindaaa
