/- Contracts of package piece: bytes of pieces. -/
import Derived.Laws.ResultCell
import Derived.Test.YtcdpmedmhindaaaWrb
import Derived.Test.YtcdpmedmhindaaaPieA
namespace Go.Proofs.Ytcdpmedmhindaaa
open Go.RowKit

theorem Blk.results2 {P : Program} {w : World} {g : Nat} {t : TypeId} {cs : Array Value} (hb : Blk w g t cs) {fn : Func} {p u : Tmp} {ty : TypeId} {d : TypeDesc} (h : fn.results = #[.cell p ty, .tmp u]) (tmps : Array Value) (v : Value) (hp : tmps.getD p undef = .pointer (some ⟨g, 0, none⟩)) (hv : tmps.getD u undef = v)
    (hu : P.underlying ty = some d) (hd : d.isRow = true) (hi : (P.info? ty).map (·.size) = some cs.size) : (Go.results fn tmps).run P w = .ok (.tuple #[.agg cs, v]) w := by
  rw [results_cell_tmp h, hp, hv]
  have e := run_loadVar_row w g t ty cs (0, 0) d hb hu (by cases d <;> simp_all [TypeDesc.isRow]) hi
  simp [asAddr, e]
@[go_sem ↓] theorem big_load_b (x : Value) : Instr.loadAt 35 x = bigLoad 35 x := rfl
@[go_sem ↓] theorem big_store_b (x v : Value) : Instr.storeAt 35 x v = bigStore 35 x v := rfl
theorem info_b (cs : Array Value) (h : cs.size = 256) : (Try.prog.info? 35).map (·.size) = some cs.size := by rw [h]; kernel_rfl
set_option maxRecDepth 100000 in
@[go_sem ↓] theorem zero_b (w : World) : (zeroValue 35).run Try.prog w = .ok (.agg (zrow 256)) w :=
  (zero_of_info (P := Try.prog) (t := 35) (n := 256) (by kernel_rfl)).1 w
theorem b_inf {l : List UInt8} (h : l.length = 256) : (Try.prog.info? 35).map (·.size) = some (ba l).size := info_b _ (by rw [ba_size, h])
/-- Cells of a slice of 256 bytes, as an array. -/
theorem load_own {w : World} {base : Nat} {A : Option Addr} {c : Nat} {l : List UInt8} (h : OwB w base A c l) (hl : l.length = 256) : ∃ g, A = some ⟨g, 0, none⟩ ∧ base ≤ g ∧ (bigLoad 35 (.pointer (some ⟨g, 0, none⟩))).run Try.prog w = .ok (.agg (ba l)) w := by
  cases A with
  | none =>
    rcases h.rd with h | ⟨a, h, _⟩
    · have := congrArg List.length h
      rw [bvs_length, hl] at this
      cases this
    · cases h
  | some a =>
    obtain ⟨cs, hb, ha, hcs, ht⟩ := h.blk (k := a.block) rfl
    have hg := h.lt (k := a.block) rfl
    generalize a.block = g at *
    refine ⟨g, ha, hg.1, ?_⟩
    have hr := hb.range 0 (bvs l) (fun j v hv => by
      rw [← ht, List.getElem?_take] at hv
      split at hv
      · rw [Nat.zero_add]
        simpa using hv
      · cases hv)
    have hi : (Try.prog.info? 35).map (·.size) = some (bvs l).length := by rw [bvs_length, hl]; kernel_rfl
    have := run_loadAt_mid (P := Try.prog) w g 0 35 (bvs l) _ hr Try.underlying35 rfl hi
    simpa [bigLoad, ba] using this
/-- The cells of a piece in its block. -/
theorem pc_cells {w : World} {g : Nat} {p : Pc} {A : Option Addr} {c : Nat} (B : Blk w g 45 (pcA p A c)) :
    w.cell? ⟨g, 0, none⟩ = some (.int .i64 p.kind) ∧ w.cell? ⟨g, 1, none⟩ = some (.int .u32 p.id) ∧ w.cell? ⟨g, 2, none⟩ = some (.int .u16 p.fr) ∧ w.cell? ⟨g, 3, none⟩ = some (.int .u16 p.bx) ∧
    w.cell? ⟨g, 4, none⟩ = some (.int .i64 p.place) ∧ w.cell? ⟨g, 5, none⟩ = some (.int .i64 p.count) ∧ w.cell? ⟨g, 6, none⟩ = some (.slice A p.b.length c) :=
  ⟨B.cell 0, B.cell 1, B.cell 2, B.cell 3, B.cell 4, B.cell 5, B.cell 6⟩
theorem wrap8 (n : Int) (h0 : 0 ≤ n) (h1 : n < 256) : IntKind.u8.wrap n = (n.toNat : Int) := by rw [IntKind.wrap_u8]; omega
set_option maxRecDepth 100000 in
set_option maxHeartbeats 2000000 in
theorem bytes_calls (w : World) (p : Pc) (hp : p.ok) (A : Option Addr) (c : Nat) {Dp : Nat → Prop} (hr : Rd w Dp A (bvs p.b)) (hl : p.b.length ≤ maxLen) :
    Calls Try.prog 27 #[.agg (pcA p A c)] w fun e w' => e = .returned (.tuple #[.agg (ba (pencb p)), .int .i64 (pence p : Nat)]) ∧ Ext Non w w' := by
  have nz : zrow 256 ≠ #[] := row_ne (zrow_size 256)
  have X0 : Ext Non w ((w.alloc (.cells (pcA p A c) 45)).alloc (.cells (zrow 256) 35)) := ((Ext.refl Non w).alloc _).alloc _
  have B0 := (Blk.new w 45 (pcA p A c)).alloc (.cells (zrow 256) 35)
  have C0 := Blk.new (w.alloc (.cells (pcA p A c) 45)) 35 (zrow 256)
  rw [World.size_alloc] at C0
  have ctr0 := fun W => right_calls W p A c hl
  have R0 := hr.extN X0
  have cs0 := pc_cells B0
  unfold pcA at B0 C0 X0 R0 ctr0 cs0 ⊢
  go_enter Try.func27, Try.ntmps27
  go_upto_region 1 with (fail)
  generalize (w.alloc (.cells #[.int .i64 p.kind, .int .u32 p.id, .int .u16 p.fr, .int .u16 p.bx, .int .i64 p.place, .int .i64 p.count, .slice A p.b.length c] 45)).alloc (.cells (zrow 256) 35) = v at *
  obtain ⟨b0, b1, b2, b3, b4, b5, b6⟩ := cs0
  go_wp2_with fail
  have ctr := ctr0 v
  with_reducible refine Calls.mono ctr ?_
  clear ctr
  rintro e w1 ⟨rfl, x1⟩
  have X1 := X0.transN x1
  have C1 := C0.extN_ x1
  have B1 := B0.extN_ x1
  have R1 := R0.extN x1
  have cs1 := pc_cells (p := p) B1
  clear b0 b1 b2 b3 b4 b5 b6 ctr0 C0 B0 R0 X0 x1
  by_cases hr : prt p = true
  · have e1 : pence p = 0 := pence_rt hr
    have e2 : pencb p = pcb p := pencb_rt hr
    obtain ⟨⟨k1, k2⟩, ⟨p1, p2⟩, ⟨c1, c2⟩, hb⟩ := prt_facts hr
    have hpc : pcb p = [] ++ be 1 p.kind.toNat ++ be 4 p.id ++ be 2 p.fr ++ be 2 p.bx ++ be 1 p.place.toNat ++ be 1 p.count.toNat ++ be 1 p.b.length ++ p.b ++ zeros (244 - p.b.length) := rfl
    obtain ⟨ki, hki⟩ : ∃ n, p.kind.toNat = n := ⟨_, rfl⟩
    obtain ⟨pl, hpl⟩ : ∃ n, p.place.toNat = n := ⟨_, rfl⟩
    obtain ⟨co, hco⟩ : ∃ n, p.count.toNat = n := ⟨_, rfl⟩
    rw [hki, hpl, hco] at hpc
    have HPC := Lib.hid hpc
    have W1 := WrB.new w1
    have X2 : Ext Non w (w1.alloc (.cells #[.slice none 0 0] 119)) := X1.alloc _
    have B2 := B1.alloc (.cells #[.slice none 0 0] 119)
    have C2 := C1.alloc (.cells #[.slice none 0 0] 119)
    have R2 := (R1.imp (D' := fun k => Dp k ∧ k < w1.heap.size) (fun k hk h => ⟨h, hk⟩)).extN ((Ext.refl Non w1).alloc (.cells #[.slice none 0 0] 119))
    have hPw : w.heap.size ≤ w1.heap.size := X1.size
    have hB1 := B1.lt
    have hC1 := C1.lt
    have v1 : IntKind.u8.wrap p.kind = (ki : Int) := by rw [wrap8 p.kind (by omega) (by omega), hki]
    have v2 : IntKind.u8.wrap p.place = (pl : Int) := by rw [wrap8 p.place (by omega) (by omega), hpl]
    have v3 : IntKind.u8.wrap p.count = (co : Int) := by rw [wrap8 p.count (by omega) (by omega), hco]
    have v4 := wrap8 (p.b.length : Int) (by omega) (by omega)
    rw [Int.toNat_natCast] at v4
    have hk8 : ki < 256 := by omega
    have hp8 : pl < 256 := by omega
    have hc8 : co < 256 := by omega
    clear hki hpl hco
    have hl8 : p.b.length < 256 := by omega
    obtain ⟨b0, b1, b2, b3, b4, b5, b6⟩ := cs1
    clear X1 B1 C1 R1 hpc
    go_wp2_with fail
    generalize w1.alloc (.cells #[.slice none 0 0] 119) = v at *
    generalize w1.heap.size = P at *
    have cc := fun W (x : Ext (Frm P) v W) => pc_cells (p := p) (A := A) (c := c) (B2.frm x hB1)
    clear b0 b1 b2 b3 b4 b5 b6
    refine wp_region_seq (Frm P) ((0, true) :: (1, true) :: (2, true) :: (3, true) :: (5, true) :: (6, true) :: (8, true) :: (9, true) :: (11, true) :: (12, true) :: (4, false) :: (7, false) :: (10, false) :: (13, false) :: []) (by kernel_rfl) (by kernel_rfl) (by kernel_rfl) ?_
    iterate 10 (refine wpSeq_quiet rfl rfl ?_; apply Exists.intro; refine ⟨?_, ?_⟩; (intro W hW; obtain ⟨b0, b1, b2, b3, b4, b5, b6⟩ := cc W hW.drewL; go_simp; try with_reducible rfl); (intro K hK; simp only [Act.put, List.setIfInBounds_toArray, List.set_cons_zero, List.set_cons_succ]; refine hK _ ?_; clear hK K))
    refine wpSeq_call rfl rfl (fun K hK => ?_)
    go_simp
    have ctr := wrb8 W1.drew ki hk8 (by simp)
    with_reducible refine Calls.mono ctr ?_
    clear ctr
    rintro e w2 ⟨rfl, W3, E3⟩
    go_simp
    refine hK _ _ E3 ?_
    clear hK K
    refine wpSeq_call rfl rfl (fun K hK => ?_)
    go_simp
    have ctr := wrb32 W3 p.id hp.id (by simp [be_length])
    with_reducible refine Calls.mono ctr ?_
    clear ctr
    rintro e w3 ⟨rfl, W4, E4⟩
    go_simp
    refine hK _ _ E4 ?_
    clear hK K
    refine wpSeq_call rfl rfl (fun K hK => ?_)
    go_simp
    have ctr := wrb16 W4 p.fr hp.fr (by simp [be_length])
    with_reducible refine Calls.mono ctr ?_
    clear ctr
    rintro e w4 ⟨rfl, W5, E5⟩
    go_simp
    refine hK _ _ E5 ?_
    clear hK K
    refine wpSeq_call rfl rfl (fun K hK => ?_)
    go_simp
    have ctr := wrb16 W5 p.bx hp.bx (by simp [be_length])
    with_reducible refine Calls.mono ctr ?_
    clear ctr
    rintro e w5 ⟨rfl, W6, E6⟩
    go_simp
    refine hK _ _ E6 ?_
    clear hK K
    refine wpSeq_end ?_
    have E := ((E3.trans' E4).trans' E5).trans' E6
    have B3 := B2.frm E.drewL hB1
    have C3 := C2.frm E.drewL hC1
    have hDp : ∀ k, (Dp k ∧ k < P) → ¬ Frm P k := fun k hk h => by have h : P ≤ k := h; omega
    have R3 := R2.ext E.drewL hDp
    have X3 := X2.frm E.drewL hPw
    clear cc W1 W3 W4 W5 E3 E4 E5 E6 X2 B2 C2 R2 E
    have cc := fun W (x : Ext (Frm P) w5 W) => pc_cells (p := p) (A := A) (c := c) (B3.frm x hB1)
    go_wp2_with fail
    refine wp_region_seq (Frm P) ((0, true) :: (1, true) :: (2, true) :: (3, true) :: (5, true) :: (6, true) :: (7, true) :: (9, true) :: (10, true) :: (11, true) :: (12, true) :: (14, true) :: (15, true) :: (4, false) :: (8, false) :: (13, false) :: (16, false) :: []) (by kernel_rfl) (by kernel_rfl) (by kernel_rfl) ?_
    iterate 13 (refine wpSeq_quiet rfl rfl ?_; apply Exists.intro; refine ⟨?_, ?_⟩; (intro W hW; obtain ⟨b0, b1, b2, b3, b4, b5, b6⟩ := cc W hW.drewL; go_simp; try with_reducible rfl); (intro K hK; simp only [Act.put, List.setIfInBounds_toArray, List.set_cons_zero, List.set_cons_succ]; refine hK _ ?_; clear hK K))
    refine wpSeq_call rfl rfl (fun K hK => ?_)
    go_simp
    have ctr := wrb8 W6.drew pl hp8 (by simp [be_length])
    with_reducible refine Calls.mono ctr ?_
    clear ctr
    rintro e w6 ⟨rfl, W7, E7⟩
    go_simp
    refine hK _ _ E7 ?_
    clear hK K
    refine wpSeq_call rfl rfl (fun K hK => ?_)
    go_simp
    have ctr := wrb8 W7 co hc8 (by simp [be_length])
    with_reducible refine Calls.mono ctr ?_
    clear ctr
    rintro e w7 ⟨rfl, W8, E8⟩
    go_simp
    refine hK _ _ E8 ?_
    clear hK K
    refine wpSeq_call rfl rfl (fun K hK => ?_)
    go_simp
    have ctr := wrb8 W8 p.b.length hl8 (by simp [be_length])
    with_reducible refine Calls.mono ctr ?_
    clear ctr
    rintro e w8 ⟨rfl, W9, E9⟩
    go_simp
    refine hK _ _ E9 ?_
    clear hK K
    refine wpSeq_call rfl rfl (fun K hK => ?_)
    go_simp
    have ctr := wrbB W9 c p.b.length (R3.ext ((E7.trans' E8).trans' E9).drewL hDp) rfl (by simp [be_length]; omega)
    with_reducible refine Calls.mono ctr ?_
    clear ctr
    rintro e w9 ⟨rfl, W10, E10⟩
    go_simp
    refine hK _ _ E10 ?_
    clear hK K
    refine wpSeq_end ?_
    have E := ((E7.trans' E8).trans' E9).trans' E10
    have B4 := B3.frm E.drewL hB1
    have C4 := C3.frm E.drewL hC1
    have X4 := X3.frm E.drewL hPw
    have cs4 := pc_cells (p := p) (A := A) (c := c) B4
    obtain ⟨b0, b1, b2, b3, b4, b5, b6⟩ := cs4
    clear cc W6 W7 W8 W9 E7 E8 E9 E10 X3 B3 C3 R3 E
    go_wp2_with fail
    have ctr := wrbZ W10 (244 - (p.b.length : Int)) (244 - p.b.length) (by omega) (by simp [be_length]; omega)
    with_reducible refine Calls.mono ctr ?_
    clear ctr
    rintro e w10 ⟨rfl, W11, E11⟩
    rw [← HPC.out] at W11
    have C5 := C4.frm E11 hC1
    have X5 := X4.frm E11 hPw
    clear W10 E11 X4 B4 C4 b0 b1 b2 b3 b4 b5 b6
    go_wp2_with fail
    have ctr := wrbD W11 256 (prt_len hr) (by rw [prt_len hr]; decide)
    with_reducible refine Calls.mono ctr ?_
    clear ctr
    rintro e w11 ⟨A', c', rfl, O, x⟩
    obtain ⟨g, rfl, hg, ld2⟩ := load_own O (prt_len hr)
    have C6 := C5.extN_ x
    have st := C6.big_store (P := Try.prog) (ty := 35) (cs' := ba (pcb p)) (by rw [zrow_size, ba_size, prt_len hr]) (b_inf (prt_len hr)) (ba_all _)
    have C7 := C6.setRow (ba (pcb p))
    have X7 := (X5.transN x).setRow (.inl (Nat.le_succ _)) (g := w.heap.size + 1) (ba (pcb p))
    have ta := fun W => run_arrayAt (P := Try.prog) W 35 5 256 (some ⟨g, 0, none⟩) 256 c' Try.underlying35 (Nat.le_refl _)
    clear C5 X5 W11 x C6
    go_wp2_with fail
    exact bodyPost_ret (C7.results2 Try.results27 _ _ rfl rfl Try.underlying35 rfl (b_inf (prt_len hr))) rfl ⟨by rw [e1, e2]; rfl, X7⟩
  · have e1 : pence p = 1 := by unfold pence; rw [if_neg hr]
    have e2 : pencb p = zeros 256 := by unfold pencb; rw [if_neg hr]
    have st := C1.big_store (P := Try.prog) (ty := 35) (cs' := zrow 256) rfl (b_inf (zeros_length 256)) (ba_all (zeros 256))
    have C3 := C1.setRow (zrow 256)
    have X3 := X1.setRow (.inl (Nat.le_succ _)) (g := w.heap.size + 1) (zrow 256)
    go_wp2_with fail
    exact bodyPost_ret (C3.results2 Try.results27 _ _ rfl rfl Try.underlying35 rfl (b_inf (zeros_length 256))) rfl ⟨by rw [e1, e2]; rfl, X3⟩
end Go.Proofs.Ytcdpmedmhindaaa
