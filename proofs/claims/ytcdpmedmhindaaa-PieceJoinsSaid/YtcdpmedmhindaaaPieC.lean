/- Contracts of package piece: pieces of bytes. -/
import Derived.Test.YtcdpmedmhindaaaPieB
namespace Go.Proofs.Ytcdpmedmhindaaa
open Go.RowKit

section
variable {w : World} {p : Nat} {D : Nat → Prop} {l : List UInt8} {a : Nat}
theorem u32_at (hr : Rdr w p D (l.drop a)) (hp : ¬ D p) (n : Nat) (hn : num ((l.drop a).take 4) = n) (b : Nat) (hb : a + 4 = b) (hl : b ≤ l.length) :
    Calls Try.prog 41 #[.pointer (some ⟨p, 0, none⟩)] w fun e w' => e = .returned (.tuple #[.int .u32 n, .int .i64 0]) ∧ Rdr w' p D (l.drop b) ∧ Ext (One p) w w' := by
  subst hn hb
  have := u32_calls hr hp (by rw [List.length_drop]; omega)
  rw [List.drop_drop] at this
  exact this
theorem u16_at (hr : Rdr w p D (l.drop a)) (hp : ¬ D p) (n : Nat) (hn : num ((l.drop a).take 2) = n) (b : Nat) (hb : a + 2 = b) (hl : b ≤ l.length) :
    Calls Try.prog 42 #[.pointer (some ⟨p, 0, none⟩)] w fun e w' => e = .returned (.tuple #[.int .u16 n, .int .i64 0]) ∧ Rdr w' p D (l.drop b) ∧ Ext (One p) w w' := by
  subst hn hb
  have := u16_calls hr hp (by rw [List.length_drop]; omega)
  rw [List.drop_drop] at this
  exact this
theorem u8_at (hr : Rdr w p D (l.drop a)) (hp : ¬ D p) (n : Nat) (hn : num ((l.drop a).take 1) = n) (b : Nat) (hb : a + 1 = b) (hl : b ≤ l.length) :
    Calls Try.prog 40 #[.pointer (some ⟨p, 0, none⟩)] w fun e w' => e = .returned (.tuple #[.int .u8 n, .int .i64 0]) ∧ Rdr w' p D (l.drop b) ∧ Ext (One p) w w' := by
  subst hn hb
  have := u8_calls hr hp (by rw [List.length_drop]; omega)
  rw [List.drop_drop] at this
  exact this
end
theorem load_ba {w : World} {g : Nat} {t : TypeId} {l : List UInt8} (hb : Blk w g t (ba l)) (hl : l.length = 256) : (bigLoad 35 (.pointer (some ⟨g, 0, none⟩))).run Try.prog w = .ok (.agg (ba l)) w :=
  hb.big_load Try.underlying35 rfl (b_inf hl)
@[go_sem ↓] theorem big_store_pc (x v : Value) : Instr.storeAt 45 x v = bigStore 45 x v := rfl
theorem pc_inf (p : Pc) (A : Option Addr) (c : Nat) : (Try.prog.info? 45).map (·.size) = some (pcA p A c).size := by kernel_rfl
@[go_sem] theorem store_pc_new (w : World) (x0 x1 x2 x3 x4 x5 : Int) (A : Option Addr) (n c : Nat) :
    (bigStore 45 (.pointer (some ⟨w.heap.size, 0, none⟩)) (.agg #[.int .i64 x0, .int .u32 x1, .int .u16 x2, .int .u16 x3, .int .i64 x4, .int .i64 x5, .slice A n c])).run Try.prog (w.alloc (.cells #[.int .i64 0, .int .u32 0, .int .u16 0, .int .u16 0, .int .i64 0, .int .i64 0, .slice none 0 0] 45)) =
      .ok () (w.alloc (.cells #[.int .i64 x0, .int .u32 x1, .int .u16 x2, .int .u16 x3, .int .i64 x4, .int .i64 x5, .slice A n c] 45)) := by
  rw [Blk.big_store (P := Try.prog) (cs' := #[.int .i64 x0, .int .u32 x1, .int .u16 x2, .int .u16 x3, .int .i64 x4, .int .i64 x5, .slice A n c]) (Blk.new w 45 #[.int .i64 0, .int .u32 0, .int .u16 0, .int .u16 0, .int .i64 0, .int .i64 0, .slice none 0 0]) rfl (by kernel_rfl) (by simp [Value.oneCell']), World.setRow_alloc_new]
theorem store_b (w : World) {l : List UInt8} (h : l.length = 256) : (bigStore 35 (.pointer (some ⟨w.heap.size, 0, none⟩)) (.agg (ba l))).run Try.prog (w.alloc (.cells (zrow 256) 35)) = .ok () (w.alloc (.cells (ba l) 35)) := by
  rw [Blk.big_store (P := Try.prog) (Blk.new w 35 (zrow 256)) (by rw [zrow_size, ba_size, h]) (b_inf h) (ba_all _), World.setRow_alloc_new]
theorem eql_b (w : World) {l m : List UInt8} (hl : l.length = 256) (hm : m.length = 256) : (binOp .eql 35 (.agg (ba l)) (.agg (ba m))).run Try.prog w = .ok (.bool (l == m)) w :=
  run_eql_bytes w Try.underlying35 Try.underlying5 s8 Try.isAgg5 l m hl hm
theorem equalIn_b (w : World) {l m : List UInt8} (hl : l.length = 256) (hm : m.length = 256) : (Op.equalIn 10000 35 (.agg (ba l)) (.agg (ba m))).run Try.prog w = .ok (l == m) w :=
  run_equalIn_arr (P := Try.prog) w 9998 (k := .u8) Try.underlying35 Try.underlying5 s8 Try.isAgg5 (fun c : UInt8 => (c.toNat : Int)) u8_inj l m hl hm
theorem pcA0 : pcA pc0 none 0 = #[.int .i64 0, .int .u32 0, .int .u16 0, .int .u16 0, .int .i64 0, .int .i64 0, .slice none 0 0] := rfl
theorem neq_b (w : World) {l m : List UInt8} (hl : l.length = 256) (hm : m.length = 256) : (binOp .neq 35 (.agg (ba l)) (.agg (ba m))).run Try.prog w = .ok (.bool (!(l == m))) w :=
  run_neq_bytes w Try.underlying35 Try.underlying5 s8 Try.isAgg5 l m hl hm
set_option maxRecDepth 100000 in
set_option maxHeartbeats 4000000 in
theorem parse_calls (w : World) {l : List UInt8} (hl : l.length = 256) :
    Calls Try.prog 26 #[.agg (ba l)] w fun e w' => ∃ A c, e = .returned (.tuple #[.agg (pcA (pdec l) A c), .int .i64 (pdece l : Nat)]) ∧ OwB w' w.heap.size A c (pdec l).b ∧ Ext Non w w' := by
  have ne : ba l ≠ #[] := row_ne (n := 255) (by rw [ba_size, hl])
  have X0 : Ext Non w ((w.alloc (.cells (ba l) 35)).alloc (.cells (pcA pc0 none 0) 45)) := ((Ext.refl Non w).alloc _).alloc _
  have B0 := (Blk.new w 35 (ba l)).alloc (.cells (pcA pc0 none 0) 45)
  have C0 := Blk.new (w.alloc (.cells (ba l) 35)) 45 (pcA pc0 none 0)
  rw [World.size_alloc] at C0
  have hs0 : ((w.alloc (.cells (ba l) 35)).alloc (.cells (pcA pc0 none 0) 45)).heap.size = w.heap.size + 2 := by rw [World.size_alloc, World.size_alloc]
  have R0 := Rd.of_blk (D := fun k => k = w.heap.size) B0 rfl 0 256
  have eR : ((ba l).toList.drop 0).take 256 = bvs l := by
    rw [List.drop_zero]
    show (bvs l).take 256 = bvs l
    exact List.take_of_length_le (by rw [bvs_length, hl]; decide)
  rw [eR] at R0
  obtain ⟨kd, hkd⟩ : ∃ n, num ((l.drop 0).take 1) = n := ⟨_, rfl⟩
  have bkd := pnum_lt (l := l) (a := 0) (k := 1) (by omega)
  rw [hkd] at bkd
  obtain ⟨id, hid⟩ : ∃ n, num ((l.drop 1).take 4) = n := ⟨_, rfl⟩
  have bid := pnum_lt (l := l) (a := 1) (k := 4) (by omega)
  rw [hid] at bid
  obtain ⟨fr, hfr⟩ : ∃ n, num ((l.drop 5).take 2) = n := ⟨_, rfl⟩
  have bfr := pnum_lt (l := l) (a := 5) (k := 2) (by omega)
  rw [hfr] at bfr
  obtain ⟨bx, hbx⟩ : ∃ n, num ((l.drop 7).take 2) = n := ⟨_, rfl⟩
  have bbx := pnum_lt (l := l) (a := 7) (k := 2) (by omega)
  rw [hbx] at bbx
  obtain ⟨pl, hpl⟩ : ∃ n, num ((l.drop 9).take 1) = n := ⟨_, rfl⟩
  have bpl := pnum_lt (l := l) (a := 9) (k := 1) (by omega)
  rw [hpl] at bpl
  obtain ⟨co, hco⟩ : ∃ n, num ((l.drop 10).take 1) = n := ⟨_, rfl⟩
  have bco := pnum_lt (l := l) (a := 10) (k := 1) (by omega)
  rw [hco] at bco
  obtain ⟨nn, hnn⟩ : ∃ n, num ((l.drop 11).take 1) = n := ⟨_, rfl⟩
  have bnn := pnum_lt (l := l) (a := 11) (k := 1) (by omega)
  rw [hnn] at bnn
  have hz : rdpc l = ⟨kd, id, fr, bx, pl, co, if nn ≤ 244 then (l.drop 12).take nn else []⟩ := by
    unfold rdpc
    rw [hkd, hid, hfr, hbx, hpl, hco, hnn]
  have hgd : pgood l = (decide (nn ≤ 244) && prt (rdpc l) && decide (pcb (rdpc l) = l)) := by
    unfold pgood
    rw [hnn]
  have HG := Lib.hid hgd
  clear hgd
  go_enter Try.func26, Try.ntmps26
  go_upto_region 1 with (fail)
  unfold pcA pc0 at X0 B0 C0 R0 hs0
  generalize (w.alloc (.cells (ba l) 35)).alloc (.cells #[.int .i64 0, .int .u32 (0 : Nat), .int .u16 (0 : Nat), .int .u16 (0 : Nat), .int .i64 0, .int .i64 0, .slice none ([] : List UInt8).length 0] 45) = v at *
  have s0 := fun W => run_arr_all (P := Try.prog) W Try.underlying35 s8 w.heap.size 0 (by decide)
  go_wp2_with fail
  clear s0
  have ctr := read_calls 256 256 R0 hl (by rw [hl]; decide)
  with_reducible refine Calls.mono ctr ?_
  clear ctr
  rintro e w1 ⟨p, rfl, R1, hp, x1⟩
  rw [hs0] at R1 hp
  have B1 := B0.extN_ x1
  have C1 := C0.extN_ x1
  have X1 := X0.transN x1
  have hpD : ¬ (w.heap.size + 2 ≤ p ∧ p < p) := fun h => by omega
  have hxp : ∀ i, i < w.heap.size → One p i → Non i := fun i hi h => by have h : i = p := h; omega
  have hb0 : ¬ One p w.heap.size := fun h => by have h : w.heap.size = p := h; omega
  have hc0 : ¬ One p (w.heap.size + 1) := fun h => by have h : w.heap.size + 1 = p := h; omega
  have R1' : Rdr w1 p (fun k => w.heap.size + 2 ≤ k ∧ k < p) (l.drop 0) := R1
  clear X0 B0 C0 R0 R1 x1 hs0 eR
  go_wp2_with fail
  have ctr := u8_at R1' hpD kd hkd 1 rfl (by omega)
  with_reducible refine Calls.mono ctr ?_
  clear ctr
  rintro e w2 ⟨rfl, R2, x2⟩
  have B2 := B1.ext x2 hb0
  have C2 := C1.ext x2 hc0
  have X2 := X1.trans x2 hxp
  clear R1' B1 C1 X1 x2
  go_wp2_with fail
  have ctr := u32_at R2 hpD id hid 5 rfl (by omega)
  with_reducible refine Calls.mono ctr ?_
  clear ctr
  rintro e w3 ⟨rfl, R3, x3⟩
  have B3 := B2.ext x3 hb0
  have C3 := C2.ext x3 hc0
  have X3 := X2.trans x3 hxp
  clear R2 B2 C2 X2 x3
  go_wp2_with fail
  have ctr := u16_at R3 hpD fr hfr 7 rfl (by omega)
  with_reducible refine Calls.mono ctr ?_
  clear ctr
  rintro e w4 ⟨rfl, R4, x4⟩
  have B4 := B3.ext x4 hb0
  have C4 := C3.ext x4 hc0
  have X4 := X3.trans x4 hxp
  clear R3 B3 C3 X3 x4
  go_wp2_with fail
  have ctr := u16_at R4 hpD bx hbx 9 rfl (by omega)
  with_reducible refine Calls.mono ctr ?_
  clear ctr
  rintro e w5 ⟨rfl, R5, x5⟩
  have B5 := B4.ext x5 hb0
  have C5 := C4.ext x5 hc0
  have X5 := X4.trans x5 hxp
  clear R4 B4 C4 X4 x5
  go_wp2_with fail
  have ctr := u8_at R5 hpD pl hpl 10 rfl (by omega)
  with_reducible refine Calls.mono ctr ?_
  clear ctr
  rintro e w6 ⟨rfl, R6, x6⟩
  have B6 := B5.ext x6 hb0
  have C6 := C5.ext x6 hc0
  have X6 := X5.trans x6 hxp
  clear R5 B5 C5 X5 x6
  go_wp2_with fail
  have ctr := u8_at R6 hpD co hco 11 rfl (by omega)
  with_reducible refine Calls.mono ctr ?_
  clear ctr
  rintro e w7 ⟨rfl, R7, x7⟩
  have B7 := B6.ext x7 hb0
  have C7 := C6.ext x7 hc0
  have X7 := X6.trans x7 hxp
  clear R6 B6 C6 X6 x7
  go_wp2_with fail
  have ctr := u8_at R7 hpD nn hnn 12 rfl (by omega)
  with_reducible refine Calls.mono ctr ?_
  clear ctr
  rintro e w8 ⟨rfl, R8, x8⟩
  have B8 := B7.ext x8 hb0
  have C8 := C7.ext x8 hc0
  have X8 := X7.trans x8 hxp
  clear R7 B7 C7 X7 x8
  go_wp2_with fail
  have ctr : Calls Try.prog 43 #[.pointer (some ⟨p, 0, none⟩), .int .i64 (nn : Int)] w8 fun e w' => ∃ A c b er, e = .returned (.tuple #[.slice A b.length c, .int .i64 ((er : Nat) : Int)]) ∧ OwB w' w8.heap.size A c b ∧
      (nn ≤ 244 → b = (l.drop 12).take nn ∧ er = 0) ∧ (¬ nn ≤ 244 → b = [] ∧ er = 2) ∧ Ext (One p) w8 w' := by
    have hl12 : (l.drop 12).length = 244 := by rw [List.length_drop]; omega
    by_cases hn : nn ≤ 244
    · refine (bytes_ok R8 hpD (nn : Int) nn rfl (by omega)).mono ?_
      rintro e w' ⟨A, c, rfl, O, _, x⟩
      have hlen : ((l.drop 12).take nn).length = nn := by rw [List.length_take]; omega
      exact ⟨A, c, _, 0, by rw [hlen]; rfl, O, fun _ => ⟨rfl, rfl⟩, fun h => absurd hn h, x⟩
    · refine (bytes_short R8 (nn : Int) (by omega)).mono ?_
      rintro e w' ⟨rfl, rfl⟩
      exact ⟨none, 0, [], 2, rfl, OwB.nil _ _, fun h => absurd h hn, fun _ => ⟨rfl, rfl⟩, Ext.refl _ _⟩
  with_reducible refine Calls.mono ctr ?_
  clear ctr
  rintro e w9 ⟨A, c, b, er, rfl, O, hb1, hb2, x9⟩
  have hq : rdpc l = ⟨kd, id, fr, bx, pl, co, b⟩ := by
    rw [hz]
    by_cases hn : nn ≤ 244
    · rw [if_pos hn, (hb1 hn).1]
    · rw [if_neg hn, (hb2 hn).1]
  have hbl : b.length ≤ 244 := by
    by_cases hn : nn ≤ 244
    · rw [(hb1 hn).1, List.length_take]; omega
    · rw [(hb2 hn).1]; exact Nat.zero_le _
  have her : (er = 0) = (nn ≤ 244) := by
    by_cases hn : nn ≤ 244
    · simp [hn, (hb1 hn).2]
    · simp [hn, (hb2 hn).2]
  clear hb1 hb2 hz
  have B9 := B8.ext x9 hb0
  have C9 := C8.ext x9 hc0
  have X9 := X8.trans x9 hxp
  have hwp : w.heap.size ≤ w9.heap.size := X9.size
  have O9 := O.lower (base' := w.heap.size) (fun k hk => Nat.le_trans X8.size (O.lt hk).1)
  have qok : (⟨kd, id, fr, bx, pl, co, b⟩ : Pc).ok := ⟨bid, bfr, bbx⟩
  have Y0 := (Ext.refl Non w9).alloc (.cells (pcA ⟨kd, id, fr, bx, pl, co, b⟩ A c) 45)
  have ctb := bytes_calls (w9.alloc (.cells (pcA ⟨kd, id, fr, bx, pl, co, b⟩ A c) 45)) ⟨kd, id, fr, bx, pl, co, b⟩ qok A c (O9.rd.extN Y0) (by simp only [maxLen]; omega)
  have D0 := Blk.new w9 45 (pcA ⟨kd, id, fr, bx, pl, co, b⟩ A c)
  have hOA : ∀ k, ob A = some k → ¬ One (w.heap.size + 1) k := fun k hk h => by
    have h1 := (O.lt hk).1
    have h2 := C8.lt
    have h : k = w.heap.size + 1 := h
    omega
  clear O R8 B8 C8 X8 x9 hb0 hc0 hxp hpD hp
  unfold pcA at ctb Y0 D0
  go_wp2_with fail
  with_reducible refine Calls.mono ctb ?_
  clear ctb
  rintro e w10 ⟨rfl, y⟩
  have Y1 := Y0.transN y
  have B10 := B9.extN_ Y1
  have C10 := C9.extN_ Y1
  have D10 := D0.extN_ y
  have X10 := X9.transN Y1
  have O10 := O9.extN Y1
  have cs := pc_cells (p := ⟨kd, id, fr, bx, pl, co, b⟩) (A := A) (c := c) (D10.alloc (.cells (ba (pencb ⟨kd, id, fr, bx, pl, co, b⟩)) 35))
  have st := store_b w10 (pencb_len ⟨kd, id, fr, bx, pl, co, b⟩)
  have ld1 := load_ba (Blk.new w10 35 (ba (pencb ⟨kd, id, fr, bx, pl, co, b⟩))) (pencb_len _)
  have ld2 := load_ba (B10.alloc (.cells (ba (pencb ⟨kd, id, fr, bx, pl, co, b⟩)) 35)) hl
  have cmp := equalIn_b (w10.alloc (.cells (ba (pencb ⟨kd, id, fr, bx, pl, co, b⟩)) 35)) (pencb_len ⟨kd, id, fr, bx, pl, co, b⟩) hl
  have C11 := C10.alloc (.cells (ba (pencb ⟨kd, id, fr, bx, pl, co, b⟩)) 35)
  have X11 := X10.alloc (.cells (ba (pencb ⟨kd, id, fr, bx, pl, co, b⟩)) 35)
  have O11 := O10.alloc (.cells (ba (pencb ⟨kd, id, fr, bx, pl, co, b⟩)) 35)
  obtain ⟨b0, b1, b2, b3, b4, b5, b6⟩ := cs
  generalize hQ : (⟨kd, id, fr, bx, pl, co, b⟩ : Pc) = q at *
  have gq := HG.out
  rw [hq] at gq
  have ne2 : ba (pencb q) ≠ #[] := row_ne (n := 255) (by rw [ba_size, pencb_len])
  by_cases hn : nn ≤ 244
  · obtain rfl : er = 0 := by rw [her]; exact hn
    clear her
    by_cases hr : prt q = true
    · have e3 := pence_rt hr
      have e4 := pencb_rt hr
      rw [e3, e4]
      rw [e4] at st ld1 ld2 cmp C11 X11 O11 ne2 b0 b1 b2 b3 b4 b5 b6
      by_cases he : pcb q = l
      · have e5 : (pcb q == l) = true := by rw [he]; simp
        rw [e5] at cmp
        have hpg : pgood l = true := by rw [gq, hr, he]; simp [hn]
        have e1 : pdec l = q := by unfold pdec; rw [if_pos hpg, hq]
        have e2 : pdece l = 0 := by unfold pdece; rw [if_pos hpg]
        have st2 := C11.big_store (P := Try.prog) (ty := 45) (cs' := pcA q A c) rfl (pc_inf q A c) (pcA_all q A c)
        have C12 := C11.setRow (pcA q A c)
        have X12 := X11.setRow (.inl (Nat.le_succ _)) (g := w.heap.size + 1) (pcA q A c)
        unfold pcA at st2
        clear he
        go_wp2_with fail
        have eb : (pdec l).b = b := by rw [e1, ← hQ]
        have O12 := O11.ext ((Ext.refl (One (w.heap.size + 1)) _).setRow (.inr rfl) (pcA q A c)) hOA
        rw [← eb] at O12
        refine bodyPost_ret (C12.results2 Try.results26 _ _ rfl rfl Try.underlying45 rfl (pc_inf q A c)) rfl ⟨A, c, by rw [e1, e2]; rfl, O12, X12⟩
      · have e5 : (pcb q == l) = false := by simp [he]
        rw [e5] at cmp
        have hpg : pgood l = false := by rw [gq]; simp [he]
        have e1 : pdec l = pc0 := by unfold pdec; rw [if_neg (by rw [hpg]; decide)]
        have e2 : pdece l = 3 := by unfold pdece; rw [if_neg (by rw [hpg]; decide)]
        have st2 := C11.big_store (P := Try.prog) (ty := 45) (cs' := pcA pc0 none 0) rfl (pc_inf pc0 none 0) (pcA_all pc0 none 0)
        have C12 := C11.setRow (pcA pc0 none 0)
        have X12 := X11.setRow (.inl (Nat.le_succ _)) (g := w.heap.size + 1) (pcA pc0 none 0)
        rw [pcA0] at st2
        try clear he
        go_wp2_with fail
        exact bodyPost_ret (C12.results2 Try.results26 _ _ rfl rfl Try.underlying45 rfl (pc_inf pc0 none 0)) rfl ⟨none, 0, by rw [e1, e2]; rfl, by rw [e1]; exact OwB.nil _ _, X12⟩
    · have e3 : pence q = 1 := by unfold pence; rw [if_neg hr]
      rw [e3]
      have hpg : pgood l = false := by rw [gq]; simp [hr]
      have e1 : pdec l = pc0 := by unfold pdec; rw [if_neg (by rw [hpg]; decide)]
      have e2 : pdece l = 3 := by unfold pdece; rw [if_neg (by rw [hpg]; decide)]
      have st2 := C11.big_store (P := Try.prog) (ty := 45) (cs' := pcA pc0 none 0) rfl (pc_inf pc0 none 0) (pcA_all pc0 none 0)
      have C12 := C11.setRow (pcA pc0 none 0)
      have X12 := X11.setRow (.inl (Nat.le_succ _)) (g := w.heap.size + 1) (pcA pc0 none 0)
      rw [pcA0] at st2
      try clear he
      go_wp2_with fail
      exact bodyPost_ret (C12.results2 Try.results26 _ _ rfl rfl Try.underlying45 rfl (pc_inf pc0 none 0)) rfl ⟨none, 0, by rw [e1, e2]; rfl, by rw [e1]; exact OwB.nil _ _, X12⟩
  · have hpg : pgood l = false := by rw [gq]; simp [hn]
    have i1 : ¬ ((er : Int) = 0) := by intro h; exact hn (her ▸ (by omega))
    clear her
    have e1 : pdec l = pc0 := by unfold pdec; rw [if_neg (by rw [hpg]; decide)]
    have e2 : pdece l = 3 := by unfold pdece; rw [if_neg (by rw [hpg]; decide)]
    have st2 := C11.big_store (P := Try.prog) (ty := 45) (cs' := pcA pc0 none 0) rfl (pc_inf pc0 none 0) (pcA_all pc0 none 0)
    have C12 := C11.setRow (pcA pc0 none 0)
    have X12 := X11.setRow (.inl (Nat.le_succ _)) (g := w.heap.size + 1) (pcA pc0 none 0)
    rw [pcA0] at st2
    try clear he
    go_wp2_with fail
    exact bodyPost_ret (C12.results2 Try.results26 _ _ rfl rfl Try.underlying45 rfl (pc_inf pc0 none 0)) rfl ⟨none, 0, by rw [e1, e2]; rfl, by rw [e1]; exact OwB.nil _ _, X12⟩
end Go.Proofs.Ytcdpmedmhindaaa
