/- Contracts of package slot: bytes of slots, and slots of bytes. -/
import Derived.Laws.ResultCell
import Derived.Test.YtgfjpoopghdilaaWrb
import Derived.Test.YtgfjpoopghdilaaSlotA
namespace Go.Proofs.Ytgfjpoopghdilaa
open Go.RowKit

theorem Blk.results2 {P : Program} {w : World} {g : Nat} {t : TypeId} {cs : Array Value} (hb : Blk w g t cs) {fn : Func} {p u : Tmp} {ty : TypeId} {d : TypeDesc} (h : fn.results = #[.cell p ty, .tmp u]) (tmps : Array Value) (v : Value) (hp : tmps.getD p undef = .pointer (some ⟨g, 0, none⟩)) (hv : tmps.getD u undef = v)
    (hu : P.underlying ty = some d) (hd : d.isRow = true) (hi : (P.info? ty).map (·.size) = some cs.size) : (Go.results fn tmps).run P w = .ok (.tuple #[.agg cs, v]) w := by
  rw [results_cell_tmp h, hp, hv]
  have e := run_loadVar_row w g t ty cs (0, 0) d hb hu (by cases d <;> simp_all [TypeDesc.isRow]) hi
  simp [asAddr, e]

theorem slL_nonce (s : Sl) : slL s = [.bool s.last, .int .u16 s.next, .int .u16 s.box, .int .u16 s.who, .int .u32 s.epoch] ++ (bvs s.nonce ++ (bvs s.mac ++ [.int .u64 s.lo, .int .u64 s.hi, .int .u32 s.delay])) := rfl
theorem slL_mac (s : Sl) : slL s = ([.bool s.last, .int .u16 s.next, .int .u16 s.box, .int .u16 s.who, .int .u32 s.epoch] ++ bvs s.nonce) ++ (bvs s.mac ++ [.int .u64 s.lo, .int .u64 s.hi, .int .u32 s.delay]) := by simp [slL]

set_option maxRecDepth 100000 in
set_option maxHeartbeats 2000000 in
theorem write_calls (w : World) {s : Sl} (h : s.ok) : Calls Try.prog 31 #[.agg (sl s)] w fun e w' => ∃ A c, e = .returned (.slice A 64 c) ∧ OwB w' w.heap.size A c (slb s) ∧ Ext Non w w' := by
  have ne := sl_ne s
  have X0 : Ext Non w (w.alloc (.cells (sl s) 32)) := (Ext.refl Non w).alloc _
  have B0 := Blk.new w 32 (sl s)
  have ld := load_sl h B0
  go_enter Try.func31, Try.ntmps31
  go_wp2_with fail
  have ctr := first_calls (w.alloc (.cells (sl s) 32)) h
  with_reducible refine Calls.mono ctr ?_
  clear ctr
  rintro e w1 ⟨rfl, x1⟩
  have hk : ((if s.last then 1 else 0 : Nat)) < 256 := by split <;> decide
  have ht : ((if s.last then s.box else s.next : Nat)) < 65536 := by split; exact h.box; exact h.next
  have hsl : slb s = [] ++ be 1 (if s.last then 1 else 0) ++ be 2 (if s.last then s.box else s.next) ++ be 8 s.lo ++ be 8 s.hi ++ be 4 s.delay ++ be 2 s.who ++ be 4 s.epoch ++ s.nonce ++ s.mac ++ zeros 3 := rfl
  have HSL := Lib.hid hsl
  generalize (if s.last then 1 else 0 : Nat) = kd at *
  generalize (if s.last then s.box else s.next : Nat) = tw at *
  have X1 := X0.transN x1
  have B1 := B0.extN_ x1
  have hB1 := B1.lt
  have W1 := WrB.new w1
  have X2 : Ext Non w (w1.alloc (.cells #[.slice none 0 0] 84)) := X1.alloc _
  have B2 := B1.alloc (.cells #[.slice none 0 0] 84)
  have hPw : w.heap.size ≤ w1.heap.size := X1.size
  clear ld x1 X0 X1 B0 B1 hsl
  go_wp2_with fail
  generalize w1.alloc (.cells #[.slice none 0 0] 84) = v at *
  generalize w1.heap.size = P at *
  have c37 := fun W (x : Ext (Frm P) v W) => ((B2.frm x hB1).cell 37).trans (sl_get37 h)
  have c38 := fun W (x : Ext (Frm P) v W) => ((B2.frm x hB1).cell 38).trans (sl_get38 h)
  have c39 := fun W (x : Ext (Frm P) v W) => ((B2.frm x hB1).cell 39).trans (sl_get39 h)
  have c3 := fun W (x : Ext (Frm P) v W) => ((B2.frm x hB1).cell 3).trans (sl_get3 h)
  have c4 := fun W (x : Ext (Frm P) v W) => ((B2.frm x hB1).cell 4).trans (sl_get4 h)
  go_wp2_with fail
  refine wp_region_seq (Frm P) ((0, true) :: (1, true) :: (3, true) :: (5, true) :: (6, true) :: (8, true) :: (9, true) :: (11, true) :: (12, true) :: (14, true) :: (15, true) :: (17, true) :: (18, true) :: (2, false) :: (4, false) :: (7, false) :: (10, false) :: (13, false) :: (16, false) :: (19, false) :: []) (by kernel_rfl) (by kernel_rfl) (by kernel_rfl) ?_
  iterate 13 (refine wpSeq_quiet rfl rfl ?_; apply Exists.intro; refine ⟨?_, ?_⟩; (intro W hW; have u1 := c37 W hW.drewL; have u2 := c38 W hW.drewL; have u3 := c39 W hW.drewL; have u4 := c3 W hW.drewL; have u5 := c4 W hW.drewL; go_simp; try with_reducible rfl); (intro K hK; simp only [Act.put, List.setIfInBounds_toArray, List.set_cons_zero, List.set_cons_succ]; refine hK _ ?_; clear hK K))
  refine wpSeq_call rfl rfl (fun K hK => ?_)
  go_simp
  have ctr := wrb8 W1.drew kd hk (by simp)
  with_reducible refine Calls.mono ctr ?_
  clear ctr
  rintro e v1 ⟨rfl, W3, E3⟩
  go_simp
  refine hK _ _ E3 ?_
  clear hK K
  refine wpSeq_call rfl rfl (fun K hK => ?_)
  go_simp
  have ctr := wrb16 W3 tw ht (by simp [be_length])
  with_reducible refine Calls.mono ctr ?_
  clear ctr
  rintro e v2 ⟨rfl, W4, E4⟩
  go_simp
  refine hK _ _ E4 ?_
  clear hK K
  refine wpSeq_call rfl rfl (fun K hK => ?_)
  go_simp
  have ctr := wrb64 W4 s.lo h.lo (by simp [be_length])
  with_reducible refine Calls.mono ctr ?_
  clear ctr
  rintro e v3 ⟨rfl, W5, E5⟩
  go_simp
  refine hK _ _ E5 ?_
  clear hK K
  refine wpSeq_call rfl rfl (fun K hK => ?_)
  go_simp
  have ctr := wrb64 W5 s.hi h.hi (by simp [be_length])
  with_reducible refine Calls.mono ctr ?_
  clear ctr
  rintro e v4 ⟨rfl, W6, E6⟩
  go_simp
  refine hK _ _ E6 ?_
  clear hK K
  refine wpSeq_call rfl rfl (fun K hK => ?_)
  go_simp
  have ctr := wrb32 W6 s.delay h.delay (by simp [be_length])
  with_reducible refine Calls.mono ctr ?_
  clear ctr
  rintro e v5 ⟨rfl, W7, E7⟩
  go_simp
  refine hK _ _ E7 ?_
  clear hK K
  refine wpSeq_call rfl rfl (fun K hK => ?_)
  go_simp
  have ctr := wrb16 W7 s.who h.who (by simp [be_length])
  with_reducible refine Calls.mono ctr ?_
  clear ctr
  rintro e v6 ⟨rfl, W8, E8⟩
  go_simp
  refine hK _ _ E8 ?_
  clear hK K
  refine wpSeq_call rfl rfl (fun K hK => ?_)
  go_simp
  have ctr := wrb32 W8 s.epoch h.epoch (by simp [be_length])
  with_reducible refine Calls.mono ctr ?_
  clear ctr
  rintro e v7 ⟨rfl, W9, E9⟩
  go_simp
  refine hK _ _ E9 ?_
  clear hK K
  refine wpSeq_end ?_
  have E := (((((E3.trans' E4).trans' E5).trans' E6).trans' E7).trans' E8).trans' E9
  have B3 := B2.frm E.drewL hB1
  have X3 := X2.frm E.drewL hPw
  clear c37 c38 c39 c3 c4 W1 W3 W4 W5 W6 W7 W8 E3 E4 E5 E6 E7 E8 E9 X2 B2 E
  have rn := fun W (x : Ext (Frm P) v7 W) => Blk.sub (B3.frm x hB1) _ _ _ (slL_nonce s) 5 rfl
  have rm := fun W (x : Ext (Frm P) v7 W) => Blk.sub (B3.frm x hB1) _ _ _ (slL_mac s) 21 (by simp [bvs_length, h.nonce])
  have s5 := fun W => run_arr_all (P := Try.prog) W Try.underlying28 s8 w.heap.size 5 (by decide)
  have s21 := fun W => run_arr_all (P := Try.prog) W Try.underlying29 s8 w.heap.size 21 (by decide)
  go_wp2_with fail
  refine wp_region_seq (Frm P) ((0, true) :: (1, true) :: (2, true) :: (4, true) :: (5, true) :: (3, false) :: (6, false) :: (7, false) :: (8, false) :: (9, true) :: []) (by kernel_rfl) (by kernel_rfl) (by kernel_rfl) ?_
  iterate 5 (refine wpSeq_quiet rfl rfl ?_; apply Exists.intro; refine ⟨?_, ?_⟩; (intro W hW; go_simp; try with_reducible rfl); (intro K hK; simp only [Act.put, List.setIfInBounds_toArray, List.set_cons_zero, List.set_cons_succ]; refine hK _ ?_; clear hK K))
  refine wpSeq_call rfl rfl (fun K hK => ?_)
  go_simp
  have ctr := wrbB W9.drew 16 16 (rn v7.drew (Ext.refl _ _).drew) h.nonce (by simp [be_length, h.nonce])
  with_reducible refine Calls.mono ctr ?_
  clear ctr
  rintro e v8 ⟨rfl, W10, E10⟩
  go_simp
  refine hK _ _ E10 ?_
  clear hK K
  refine wpSeq_call rfl rfl (fun K hK => ?_)
  go_simp
  have ctr := wrbB W10 16 16 (rm v8 E10.drewL) h.mac (by simp [be_length, h.nonce, h.mac])
  with_reducible refine Calls.mono ctr ?_
  clear ctr
  rintro e v9 ⟨rfl, W11, E11⟩
  go_simp
  refine hK _ _ E11 ?_
  clear hK K
  refine wpSeq_call rfl rfl (fun K hK => ?_)
  go_simp
  have ctr := wrbZ W11 3 3 rfl (by simp [be_length, h.nonce, h.mac])
  with_reducible refine Calls.mono ctr ?_
  clear ctr
  rintro e v10 ⟨rfl, W12, E12⟩
  go_simp
  refine hK _ _ E12 ?_
  clear hK K
  rw [← HSL.out] at W12
  refine wpSeq_call rfl rfl (fun K hK => ?_)
  go_simp
  have ctr := wrbD W12 64 (slb_len h) (by rw [slb_len h]; decide)
  with_reducible refine Calls.mono ctr ?_
  clear ctr
  rintro e v11 ⟨A, c, rfl, O, x⟩
  go_simp
  refine hK _ _ x.offN ?_
  clear hK K
  iterate 1 (refine wpSeq_quiet rfl rfl ?_; apply Exists.intro; refine ⟨?_, ?_⟩; (intro W hW; go_simp; try with_reducible rfl); (intro K hK; simp only [Act.put, List.setIfInBounds_toArray, List.set_cons_zero, List.set_cons_succ]; refine hK _ ?_; clear hK K))
  refine wpSeq_end ?_
  have X4 := (((X3.drew.frm E10 hPw).frm E11 hPw).frm E12 hPw)
  go_wp2_with fail
  go_ret
  exact ⟨A, c, rfl, O.lower (fun k hk => Nat.le_trans X4.size (O.lt hk).1), X4.transN x⟩

/-- Cells of a slice of 64 bytes, as an array. -/
theorem load_own {w : World} {base : Nat} {A : Option Addr} {c : Nat} {l : List UInt8} (h : OwB w base A c l) (hl : l.length = 64) : ∃ g, A = some ⟨g, 0, none⟩ ∧ base ≤ g ∧ (bigLoad 33 (.pointer (some ⟨g, 0, none⟩))).run Try.prog w = .ok (.agg (ba l)) w := by
  cases A with
  | none =>
    rcases h.rd with h | ⟨a, h, _⟩
    · have := congrArg List.length h
      rw [bvs_length, hl] at this
      cases this
    · cases h
  | some a =>
    obtain ⟨cs, hb, ha, hcs, ht⟩ := h.blk (k := a.block) rfl
    have hg := h.lt (k := a.block) rfl
    generalize a.block = g at *
    refine ⟨g, ha, hg.1, ?_⟩
    have hr := hb.range 0 (bvs l) (fun j v hv => by
      rw [← ht, List.getElem?_take] at hv
      split at hv
      · rw [Nat.zero_add]
        simpa using hv
      · cases hv)
    have hi : (Try.prog.info? 33).map (·.size) = some (bvs l).length := by rw [bvs_length, hl]; kernel_rfl
    have := run_loadAt_mid (P := Try.prog) w g 0 33 (bvs l) _ hr Try.underlying33 rfl hi
    simpa [bigLoad, ba] using this
theorem b64_inf {l : List UInt8} (h : l.length = 64) : (Try.prog.info? 33).map (·.size) = some (ba l).size := info_b64 _ (by rw [ba_size, h])
set_option maxRecDepth 100000 in
set_option maxHeartbeats 2000000 in
theorem encode_calls (w : World) {s : Sl} (h : s.ok) : Calls Try.prog 15 #[.agg (sl s)] w fun e w' => e = .returned (.tuple #[.agg (ba (encb s)), .int .i64 (ence s : Nat)]) ∧ Ext Non w w' := by
  have ne := sl_ne s
  have nz : zrow 64 ≠ #[] := row_ne (zrow_size 64)
  have X0 : Ext Non w ((w.alloc (.cells (sl s) 32)).alloc (.cells (zrow 64) 33)) := ((Ext.refl Non w).alloc _).alloc _
  have B0 := (Blk.new w 32 (sl s)).alloc (.cells (zrow 64) 33)
  have C0 := Blk.new (w.alloc (.cells (sl s) 32)) 33 (zrow 64)
  rw [World.size_alloc] at C0
  go_enter Try.func15, Try.ntmps15
  go_upto_region 1 with (fail)
  generalize (w.alloc (.cells (sl s) 32)).alloc (.cells (zrow 64) 33) = v at *
  have ld := load_sl h B0
  go_wp2_with fail
  have ctr := right_calls v h
  with_reducible refine Calls.mono ctr ?_
  clear ctr
  rintro e w1 ⟨rfl, x1⟩
  have X1 := X0.transN x1
  have C1 := C0.extN_ x1
  clear ld
  by_cases hr : right s = true
  · have e1 : ence s = 0 := by unfold ence; rw [if_pos hr]
    have e2 : encb s = slb s := by unfold encb; rw [if_pos hr]
    rw [e1]
    have ld := load_sl h (B0.extN_ x1)
    go_wp2_with fail
    have ctr := write_calls w1 h
    with_reducible refine Calls.mono ctr ?_
    clear ctr
    rintro e w2 ⟨A, c, rfl, O, x2⟩
    obtain ⟨g, rfl, hg, ld2⟩ := load_own O (slb_len h)
    have C2 := C1.extN_ x2
    have st := C2.big_store (P := Try.prog) (ty := 33) (cs' := ba (slb s)) (by rw [zrow_size, ba_size, slb_len h]) (b64_inf (slb_len h)) (ba_all _)
    have C3 := C2.setRow (ba (slb s))
    have X3 := (X1.transN x2).setRow (.inl (Nat.le_succ _)) (g := w.heap.size + 1) (ba (slb s))
    have ta := fun W => run_arrayAt (P := Try.prog) W 33 5 64 (some ⟨g, 0, none⟩) 64 c Try.underlying33 (Nat.le_refl _)
    go_wp2_with fail
    exact bodyPost_ret (C3.results2 Try.results15 _ _ rfl rfl Try.underlying33 rfl (b64_inf (slb_len h))) rfl ⟨by rw [e1, e2]; rfl, X3⟩
  · have e1 : ence s = 1 := by unfold ence; rw [if_neg hr]
    have e2 : encb s = zeros 64 := by unfold encb; rw [if_neg hr]
    rw [e1]
    have st := C1.big_store (P := Try.prog) (ty := 33) (cs' := zrow 64) rfl (b64_inf (zeros_length 64)) (ba_all (zeros 64))
    have C3 := C1.setRow (zrow 64)
    have X3 := X1.setRow (.inl (Nat.le_succ _)) (g := w.heap.size + 1) (zrow 64)
    go_wp2_with fail
    exact bodyPost_ret (C3.results2 Try.results15 _ _ rfl rfl Try.underlying33 rfl (b64_inf (zeros_length 64))) rfl ⟨by rw [e1, e2]; rfl, X3⟩

/-- fill. -/
def Two (p g : Nat) : Nat → Prop := fun k => k = p ∨ k = g
set_option maxRecDepth 100000 in
theorem fill_calls {w : World} {p : Nat} {D : Nat → Prop} {l : List UInt8} (hr : Rdr w p D l) (hp : ¬ D p) {g : Nat} {t : TypeId} {pre post : List Value} {dst : List UInt8} (hb : Blk w g t (pre ++ (bvs dst ++ post)).toArray) (hg : g ≠ p) (hD : ¬ D g) (o L : Nat) (ho : pre.length = o) (hL : dst.length = L) (hl : L ≤ l.length) :
    Calls Try.prog 40 #[.pointer (some ⟨p, 0, none⟩), .slice (some ⟨g, o, none⟩) L L] w fun e w' => (∃ v, e = .returned v) ∧ Rdr w' p D (l.drop L) ∧ Blk w' g t (pre ++ (bvs (l.take L) ++ post)).toArray ∧ Ext (Two p g) w w' := by
  go_enter Try.func40, Try.ntmps40
  go_wp2_with fail
  have ctr := bytes_ok hr hp (L : Int) L rfl hl
  with_reducible refine Calls.mono ctr ?_
  clear ctr
  rintro e w1 ⟨A, c, rfl, O, R1, x1⟩
  have B1 := hb.ext x1 hg
  have hlt : (l.take L).length = L := by simp; omega
  obtain ⟨w2, hcp, B2, x2⟩ := copy_in B1 O.rd o L L c L ho hL hlt (Nat.min_self L).symm
  have R2 := R1.ext x2 (fun h => hg h.symm) (fun k hk h => hD (by have h : k = g := h; rwa [← h]))
  have X : Ext (Two p g) w w2 := (x1.imp (fun k _ h => .inl h)).trans x2 (fun k _ h => .inr h)
  have e : (l.take L).take L ++ dst.drop L = l.take L := by rw [List.take_take, Nat.min_self, List.drop_of_length_le (by omega), List.append_nil]
  rw [e] at B2
  go_wp2_with fail
  go_end0
  exact ⟨⟨_, rfl⟩, R2, B2, X⟩
end Go.Proofs.Ytgfjpoopghdilaa
