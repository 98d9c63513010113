/- Contracts of package slot: packets. -/
import Derived.Test.YtgfjpoopghdilaaSlotC
namespace Go.Proofs.Ytgfjpoopghdilaa
open Go.RowKit

theorem pk_inf {s : Pk} (h : s.ok) : (Try.prog.info? 50).map (·.size) = some (pk s).size := info_pk _ (pk_size h)
theorem store_pk (w : World) {s : Pk} (h : s.ok) : (bigStore 50 (.pointer (some ⟨w.heap.size, 0, none⟩)) (.agg (pk s))).run Try.prog (w.alloc (.cells (pk pk0) 50)) = .ok () (w.alloc (.cells (pk s) 50)) := by
  rw [Blk.big_store (P := Try.prog) (Blk.new w 50 (pk pk0)) (by rw [pk_size pk0_ok, pk_size h]) (pk_inf h) (pk_all _), World.setRow_alloc_new]
theorem load_pk {w : World} {g : Nat} {s : Pk} (hb : Blk w g 50 (pk s)) (h : s.ok) : (bigLoad 50 (.pointer (some ⟨g, 0, none⟩))).run Try.prog w = .ok (.agg (pk s)) w :=
  hb.big_load Try.underlying50 rfl (pk_inf h)
/-- The four fields of bytes. -/
def pkh (s : Pk) : List Value := [.int .u16 s.who, .int .u32 s.epoch]
theorem pkL_0 (s : Pk) : pkL s = pkh s ++ (bvs s.nonce ++ (bvs s.mac ++ (bvs s.head ++ bvs s.body))) := rfl
theorem pkL_1 (s : Pk) : pkL s = (pkh s ++ bvs s.nonce) ++ (bvs s.mac ++ (bvs s.head ++ bvs s.body)) := by simp [pkL, pkh]
theorem pkL_2 (s : Pk) : pkL s = (pkh s ++ bvs s.nonce ++ bvs s.mac) ++ (bvs s.head ++ bvs s.body) := by simp [pkL, pkh]
theorem pkL_3 (s : Pk) : pkL s = (pkh s ++ bvs s.nonce ++ bvs s.mac ++ bvs s.head) ++ (bvs s.body ++ []) := by simp [pkL, pkh]
theorem pk_rd0 {w : World} {g : Nat} {s : Pk} (hb : Blk w g 50 (pk s)) (_h : s.ok) : Rd w (fun k => k = g) (some ⟨g, 2, none⟩) (bvs s.nonce) := Blk.sub hb _ _ _ (pkL_0 s) 2 rfl
section
variable {w : World} {g : Nat} {s : Pk} (hb : Blk w g 50 (pk s)) (h : s.ok)
include hb h
theorem pk_rd1 : Rd w (fun k => k = g) (some ⟨g, 18, none⟩) (bvs s.mac) := Blk.sub hb _ _ _ (pkL_1 s) 18 (by simp [pkh, bvs_length, h.nonce])
theorem pk_rd2 : Rd w (fun k => k = g) (some ⟨g, 34, none⟩) (bvs s.head) := Blk.sub hb _ _ _ (pkL_2 s) 34 (by simp [pkh, bvs_length, h.nonce, h.mac])
theorem pk_rd3 : Rd w (fun k => k = g) (some ⟨g, 354, none⟩) (bvs s.body) := Blk.sub hb _ _ _ (pkL_3 s) 354 (by simp [pkh, bvs_length, h.nonce, h.mac, h.head])
end
set_option maxRecDepth 100000 in
set_option maxHeartbeats 4000000 in
theorem pack_calls (w : World) {s : Pk} (h : s.ok) : Calls Try.prog 19 #[.agg (pk s)] w fun e w' => ∃ A c, e = .returned (.slice A 614 c) ∧ OwB w' w.heap.size A c (pkb s) ∧ Ext Non w w' := by
  have ne := pk_ne s
  have X2 : Ext Non w ((w.alloc (.cells (pk s) 50)).alloc (.cells #[.slice none 0 0] 84)) := ((Ext.refl Non w).alloc _).alloc _
  have B2 := (Blk.new w 50 (pk s)).alloc (.cells #[.slice none 0 0] 84)
  have W1 := WrB.new (w.alloc (.cells (pk s) 50))
  rw [World.size_alloc] at W1
  have hsl : pkb s = [] ++ be 2 s.who ++ be 4 s.epoch ++ s.nonce ++ s.mac ++ s.head ++ s.body := rfl
  have HSL := Lib.hid hsl
  have s2 := fun W => run_arr_all (P := Try.prog) W Try.underlying28 s8 w.heap.size 2 (by decide)
  have s18 := fun W => run_arr_all (P := Try.prog) W Try.underlying29 s8 w.heap.size 18 (by decide)
  have s34 := fun W => run_arr_all (P := Try.prog) W Try.underlying47 s8 w.heap.size 34 (by decide)
  have s354 := fun W => run_arr_all (P := Try.prog) W Try.underlying48 s8 w.heap.size 354 (by decide)
  go_enter Try.func19, Try.ntmps19
  go_upto_region 2 with (fail)
  obtain ⟨P, hP⟩ : ∃ P, w.heap.size + 1 = P := ⟨_, rfl⟩
  rw [hP] at W1 ⊢
  have hB1 : w.heap.size < P := by omega
  have hPw : w.heap.size ≤ P := by omega
  generalize (w.alloc (.cells (pk s) 50)).alloc (.cells #[.slice none 0 0] 84) = v at *
  have HP := Lib.hid hP
  clear hP hsl
  have c0 := fun W (x : Ext (Frm P) v W) => ((B2.frm x hB1).cell 0).trans (pk_get0 (s := s))
  have c1 := fun W (x : Ext (Frm P) v W) => ((B2.frm x hB1).cell 1).trans (pk_get1 (s := s))
  have r0 := fun W (x : Ext (Frm P) v W) => pk_rd0 (B2.frm x hB1) h
  have r1 := fun W (x : Ext (Frm P) v W) => pk_rd1 (B2.frm x hB1) h
  have r2 := fun W (x : Ext (Frm P) v W) => pk_rd2 (B2.frm x hB1) h
  have r3 := fun W (x : Ext (Frm P) v W) => pk_rd3 (B2.frm x hB1) h
  go_wp2_with fail
  refine wp_region_seq (Frm P) ((0, true) :: (1, true) :: (2, true) :: (4, true) :: (5, true) :: (7, true) :: (8, true) :: (10, true) :: (11, true) :: (3, false) :: (6, false) :: (9, false) :: (12, false) :: []) (by kernel_rfl) (by kernel_rfl) (by kernel_rfl) ?_
  iterate 9 (refine wpSeq_quiet rfl rfl ?_; apply Exists.intro; refine ⟨?_, ?_⟩; (intro W hW; have u1 := c0 W hW.drewL; have u2 := c1 W hW.drewL; go_simp; try with_reducible rfl); (intro K hK; simp only [Act.put, List.setIfInBounds_toArray, List.set_cons_zero, List.set_cons_succ]; refine hK _ ?_; clear hK K))
  refine wpSeq_call rfl rfl (fun K hK => ?_)
  go_simp
  have ctr := wrb16 W1.drew s.who h.who (by simp)
  with_reducible refine Calls.mono ctr ?_
  clear ctr
  rintro e v1 ⟨rfl, W3, E3⟩
  go_simp
  refine hK _ _ E3 ?_
  clear hK K
  refine wpSeq_call rfl rfl (fun K hK => ?_)
  go_simp
  have ctr := wrb32 W3 s.epoch h.epoch (by simp [be_length])
  with_reducible refine Calls.mono ctr ?_
  clear ctr
  rintro e v2 ⟨rfl, W4, E4⟩
  go_simp
  refine hK _ _ E4 ?_
  clear hK K
  refine wpSeq_call rfl rfl (fun K hK => ?_)
  go_simp
  have ctr := wrbB W4 16 16 (r0 v2 (E3.trans' E4).drewL) h.nonce (by simp [be_length, h.nonce])
  with_reducible refine Calls.mono ctr ?_
  clear ctr
  rintro e v3 ⟨rfl, W5, E5⟩
  go_simp
  refine hK _ _ E5 ?_
  clear hK K
  refine wpSeq_call rfl rfl (fun K hK => ?_)
  go_simp
  have ctr := wrbB W5 16 16 (r1 v3 ((E3.trans' E4).trans' E5).drewL) h.mac (by simp [be_length, h.nonce, h.mac])
  with_reducible refine Calls.mono ctr ?_
  clear ctr
  rintro e v4 ⟨rfl, W6, E6⟩
  go_simp
  refine hK _ _ E6 ?_
  clear hK K
  refine wpSeq_end ?_
  have E := ((E3.trans' E4).trans' E5).trans' E6
  have X3 := X2.frm E.drewL hPw
  have E' : Ext (Frm P) v v4 := E.drewL
  clear E3 E4 E5 E6 X2 E W1 W3 W4 W5 c0 c1
  go_wp2_with fail
  refine wp_region_seq (Frm P) ((0, true) :: (1, true) :: (2, true) :: (4, true) :: (5, true) :: (3, false) :: (6, false) :: (7, false) :: (8, true) :: []) (by kernel_rfl) (by kernel_rfl) (by kernel_rfl) ?_
  iterate 5 (refine wpSeq_quiet rfl rfl ?_; apply Exists.intro; refine ⟨?_, ?_⟩; (intro W hW; go_simp; try with_reducible rfl); (intro K hK; simp only [Act.put, List.setIfInBounds_toArray, List.set_cons_zero, List.set_cons_succ]; refine hK _ ?_; clear hK K))
  refine wpSeq_call rfl rfl (fun K hK => ?_)
  go_simp
  have ctr := wrbB W6.drew 320 320 (r2 v4.drew E'.drew) h.head (by simp [be_length, h.nonce, h.mac, h.head])
  with_reducible refine Calls.mono ctr ?_
  clear ctr
  rintro e v5 ⟨rfl, W7, E7⟩
  go_simp
  refine hK _ _ E7 ?_
  clear hK K
  refine wpSeq_call rfl rfl (fun K hK => ?_)
  go_simp
  have ctr := wrbB W7 256 256 (r3 v5 (E'.drew.trans' E7)) h.body (by simp [be_length, h.nonce, h.mac, h.head, h.body])
  with_reducible refine Calls.mono ctr ?_
  clear ctr
  rintro e v6 ⟨rfl, W8, E8⟩
  go_simp
  refine hK _ _ E8 ?_
  clear hK K
  rw [← HSL.out] at W8
  refine wpSeq_call rfl rfl (fun K hK => ?_)
  go_simp
  have ctr := wrbD W8 614 (pkb_len h) (by rw [pkb_len h]; decide)
  with_reducible refine Calls.mono ctr ?_
  clear ctr
  rintro e v7 ⟨A, c, rfl, O, x⟩
  go_simp
  refine hK _ _ x.offN ?_
  clear hK K
  iterate 1 (refine wpSeq_quiet rfl rfl ?_; apply Exists.intro; refine ⟨?_, ?_⟩; (intro W hW; go_simp; try with_reducible rfl); (intro K hK; simp only [Act.put, List.setIfInBounds_toArray, List.set_cons_zero, List.set_cons_succ]; refine hK _ ?_; clear hK K))
  refine wpSeq_end ?_
  have X4 := (X3.drew.frm E7 hPw).frm E8 hPw
  go_wp2_with fail
  go_ret
  exact ⟨A, c, rfl, O.lower (fun k hk => Nat.le_trans X4.size (O.lt hk).1), X4.transN x⟩

set_option maxRecDepth 100000 in
set_option maxHeartbeats 1000000 in
theorem unpack_short (w : World) (A : Option Addr) (n c : Nat) (hn : n < 614) : Calls Try.prog 20 #[.slice A n c] w fun e w' => e = .returned (.tuple #[.agg (pk pk0), .int .i64 2]) ∧ Ext Non w w' := by
  have ne := pk_ne pk0
  have X0 : Ext Non w (w.alloc (.cells (pk pk0) 50)) := (Ext.refl Non w).alloc _
  have B0 := Blk.new w 50 (pk pk0)
  have st := B0.big_store (P := Try.prog) (ty := 50) (cs' := pk pk0) rfl (pk_inf pk0_ok) (pk_all _)
  have B1 := B0.setRow (pk pk0)
  have X1 := X0.setRow (.inl (Nat.le_refl _)) (g := w.heap.size) (pk pk0)
  go_enter Try.func20, Try.ntmps20
  go_wp2_with fail
  exact bodyPost_ret (B1.results2 Try.results20 _ _ rfl rfl Try.underlying50 rfl (pk_inf pk0_ok)) rfl ⟨rfl, X1⟩
set_option maxRecDepth 100000 in
set_option maxHeartbeats 1000000 in
theorem unpack_long (w : World) (A : Option Addr) (n c : Nat) (hn : 614 < n) : Calls Try.prog 20 #[.slice A n c] w fun e w' => e = .returned (.tuple #[.agg (pk pk0), .int .i64 3]) ∧ Ext Non w w' := by
  have ne := pk_ne pk0
  have X0 : Ext Non w (w.alloc (.cells (pk pk0) 50)) := (Ext.refl Non w).alloc _
  have B0 := Blk.new w 50 (pk pk0)
  have st := B0.big_store (P := Try.prog) (ty := 50) (cs' := pk pk0) rfl (pk_inf pk0_ok) (pk_all _)
  have B1 := B0.setRow (pk pk0)
  have X1 := X0.setRow (.inl (Nat.le_refl _)) (g := w.heap.size) (pk pk0)
  go_enter Try.func20, Try.ntmps20
  go_wp2_with fail
  exact bodyPost_ret (B1.results2 Try.results20 _ _ rfl rfl Try.underlying50 rfl (pk_inf pk0_ok)) rfl ⟨rfl, X1⟩
/-- A packet of which j fields of bytes have been taken. -/
def pkj (l : List UInt8) (j : Nat) : Pk := ⟨num (l.take 2), num ((l.drop 2).take 4), if 0 < j then (l.drop 6).take 16 else zeros 16, if 1 < j then (l.drop 22).take 16 else zeros 16, if 2 < j then (l.drop 38).take 320 else zeros 320, if 3 < j then (l.drop 358).take 256 else zeros 256⟩
def pkoff (j : Nat) : Nat := [6, 22, 38, 358, 614].getD j 0
theorem pkj_ok {l : List UInt8} (h : l.length = 614) (j : Nat) : (pkj l j).ok := by
  refine ⟨num_lt 2 _ (by simp; omega), num_lt 4 _ (by simp; omega), ?_, ?_, ?_, ?_⟩
  all_goals
    simp only [pkj]
    split
    · simp; omega
    · exact zeros_length _
set_option maxRecDepth 100000 in
set_option maxHeartbeats 4000000 in
theorem unpack_calls {w : World} {D0 : Nat → Prop} {A : Option Addr} {l : List UInt8} (c : Nat) (hr : Rd w D0 A (bvs l)) (hl : l.length = 614) :
    Calls Try.prog 20 #[.slice A 614 c] w fun e w' => e = .returned (.tuple #[.agg (pk (rdpk l)), .int .i64 0]) ∧ Ext Non w w' := by
  have ne := pk_ne pk0
  have X0 : Ext Non w (w.alloc (.cells (pk pk0) 50)) := (Ext.refl Non w).alloc _
  have B0 := Blk.new w 50 (pk pk0)
  have hs0 : (w.alloc (.cells (pk pk0) 50)).heap.size = w.heap.size + 1 := World.size_alloc _ _
  obtain ⟨g, hg⟩ : ∃ g, w.heap.size = g := ⟨_, rfl⟩
  go_enter Try.func20, Try.ntmps20
  go_wp2_with fail
  have ctr := read_calls c 614 (hr.extN X0) hl (by rw [hl]; decide)
  with_reducible refine Calls.mono ctr ?_
  clear ctr
  rintro e w1 ⟨p, rfl, R1, hp, x1⟩
  have B1 := B0.extN_ x1
  have X1 := X0.transN x1
  rw [hs0] at hp R1
  rw [hg] at B1 R1 hp
  have hgp : ¬ One p g := fun h => by have h : g = p := h; omega
  have hpD : ¬ (g + 1 ≤ p ∧ p < p) := fun h => by omega
  have hDg : ∀ k, (g + 1 ≤ k ∧ k < p) → ¬ One g k := fun k hk h => by have h : k = g := h; omega
  have hxp : ∀ i, i < w.heap.size → One p i → Non i := fun i hi h => by have h : i = p := h; omega
  have hgw : w.heap.size ≤ g := Nat.le_of_eq hg
  have hxt : ∀ i, i < w.heap.size → Two p g i → Non i := fun i hi h => by
    rcases h with h | h
    · omega
    · omega
  have hgp' : g ≠ p := hgp
  have hDg' : ¬ (g + 1 ≤ g ∧ g < p) := fun h => by omega
  have R1' : Rdr w1 p (fun k => g + 1 ≤ k ∧ k < p) (l.drop 0) := R1
  have s2 := fun W => run_arr_all (P := Try.prog) W Try.underlying28 s8 g 2 (by decide)
  have s18 := fun W => run_arr_all (P := Try.prog) W Try.underlying29 s8 g 18 (by decide)
  have s34 := fun W => run_arr_all (P := Try.prog) W Try.underlying47 s8 g 34 (by decide)
  have s354 := fun W => run_arr_all (P := Try.prog) W Try.underlying48 s8 g 354 (by decide)
  clear B0 X0 R1 x1 hs0
  obtain ⟨wh, hwh⟩ : ∃ n, num ((l.drop 0).take 2) = n := ⟨_, rfl⟩
  obtain ⟨ep, hep⟩ : ∃ n, num ((l.drop 2).take 4) = n := ⟨_, rfl⟩
  have HW := Lib.hid hwh
  have HE := Lib.hid hep
  go_wp2_with fail
  have ctr := u16_at R1' hpD wh hwh 2 rfl (by omega)
  with_reducible refine Calls.mono ctr ?_
  clear ctr
  rintro e w2 ⟨rfl, R2, x2⟩
  have B2 := B1.ext x2 hgp
  have X2 := X1.trans x2 hxp
  have c2 := (B2.cell 0).trans (pk_get0 (s := pk0))
  have f2 := B2.frozen 0
  have C2 := B2.set_ 0 (.int .u16 wh)
  rw [pk_set0] at C2
  have Q2 := R2.ext (Ext.setN (g := g) (Ext.refl Non w2) 0 (.int .u16 wh)) (fun h => hgp h.symm) hDg
  have Y2 := X2.setCell (p := ⟨g, 0, none⟩) (.inl hgw) (.int .u16 wh)
  clear R1' B1 X1 x2 R2 B2 X2
  go_wp2_with fail
  clear c2 f2
  have ctr := u32_at Q2 hpD ep hep 6 rfl (by omega)
  with_reducible refine Calls.mono ctr ?_
  clear ctr
  rintro e w3 ⟨rfl, R3, x3⟩
  have B3 := C2.ext x3 hgp
  have X3 := Y2.trans x3 hxp
  have c3 := (B3.cell 1).trans (pk_get1 (s := { pk0 with who := wh }))
  have f3 := B3.frozen 1
  have C3 : Blk (w3.setCell ⟨g, 1, none⟩ (.int .u32 ep)) g 50 (pk (pkj l 0)) := by
    have := B3.set_ 1 (.int .u32 ep)
    rw [pk_set1] at this
    rw [← HW.out, ← HE.out] at this
    rw [← HE.out]
    exact this
  have Q3 := R3.ext (Ext.setN (g := g) (Ext.refl Non w3) 1 (.int .u32 ep)) (fun h => hgp h.symm) hDg
  have Y3 := X3.setCell (p := ⟨g, 1, none⟩) (.inl hgw) (.int .u32 ep)
  have hp3 : p < w3.heap.size := R3.lt
  clear Q2 C2 Y2 x3 R3 B3 X3 hwh hep
  go_upto_region 9 with (fail)
  clear c3 f3
  generalize w3.setCell ⟨g, 1, none⟩ (.int .u32 ep) = v at *
  go_wp2_with fail
  refine wp_region_seq Non ((0, true) :: (1, true) :: (2, true) :: (3, true) :: (4, true) :: (5, true) :: (6, true) :: (7, true) :: (10, true) :: (8, false) :: (9, true) :: []) (by kernel_rfl) (by kernel_rfl) (by kernel_rfl) ?_
  iterate 9 (refine wpSeq_quiet rfl rfl ?_; apply Exists.intro; refine ⟨?_, ?_⟩; (intro W hW; go_simp; try with_reducible rfl); (intro K hK; simp only [Act.put, List.setIfInBounds_toArray, List.set_cons_zero, List.set_cons_succ]; refine hK _ ?_; clear hK K))
  refine wpSeq_call rfl rfl (fun K hK => ?_)
  go_simp
  refine hK _ _ (Ext.allocW v _) ?_
  clear hK K
  iterate 1 (refine wpSeq_quiet rfl rfl ?_; apply Exists.intro; refine ⟨?_, ?_⟩; (intro W hW; go_simp; try with_reducible rfl); (intro K hK; simp only [Act.put, List.setIfInBounds_toArray, List.set_cons_zero, List.set_cons_succ]; refine hK _ ?_; clear hK K))
  refine wpSeq_end ?_
  obtain ⟨SLA, hSLA⟩ : ∃ a : Array Value, #[.slice (some ⟨g, 2, none⟩) 16 16, .slice (some ⟨g, 18, none⟩) 16 16, .slice (some ⟨g, 34, none⟩) 320 320, .slice (some ⟨g, 354, none⟩) 256 256] = a := ⟨_, rfl⟩
  have S4 := (Blk.new v 40 #[.slice (some ⟨g, 2, none⟩) 16 16, .slice (some ⟨g, 18, none⟩) 16 16, .slice (some ⟨g, 34, none⟩) 320 320, .slice (some ⟨g, 354, none⟩) 256 256]).drew
  have C4 := (C3.alloc (.cells #[.slice (some ⟨g, 2, none⟩) 16 16, .slice (some ⟨g, 18, none⟩) 16 16, .slice (some ⟨g, 34, none⟩) 320 320, .slice (some ⟨g, 354, none⟩) 256 256] 40)).drew
  have Q4 := Q3.extN (((Ext.refl Non v).alloc (.cells #[.slice (some ⟨g, 2, none⟩) 16 16, .slice (some ⟨g, 18, none⟩) 16 16, .slice (some ⟨g, 34, none⟩) 320 320, .slice (some ⟨g, 354, none⟩) 256 256] 40)).drew)
  have X4 := (Y3.alloc (.cells #[.slice (some ⟨g, 2, none⟩) 16 16, .slice (some ⟨g, 18, none⟩) 16 16, .slice (some ⟨g, 34, none⟩) 320 320, .slice (some ⟨g, 354, none⟩) 256 256] 40)).drew
  have hqp : p < v.heap.size := Q3.lt
  generalize v.heap.size = q at *
  have hqt : ¬ Two p g q := fun h => by
    rcases h with h | h
    · omega
    · omega
  clear C3 Q3 Y3 s2 s18 s34 s354
  go_wp2_with fail
  go_loopw [44] (fun i wr => ∃ j : Nat, j ≤ 4 ∧ i = .int .i64 j ∧ Blk wr g 50 (pk (pkj l j)) ∧ Rdr wr p (fun k => g + 1 ≤ k ∧ k < p) (l.drop (pkoff j)) ∧ Blk wr q 40 #[.slice (some ⟨g, 2, none⟩) 16 16, .slice (some ⟨g, 18, none⟩) 16 16, .slice (some ⟨g, 34, none⟩) 320 320, .slice (some ⟨g, 354, none⟩) 256 256] ∧ Ext Non w wr) (fun i _ => 4 - (intOf i).toNat)
  case atStart => exact ⟨0, by omega, rfl, C4, Q4, S4, X4⟩
  case round =>
    clear C4 Q4 S4 X4
    obtain ⟨j, hj, rfl, B, R, SL, X⟩ := hrel
    have hj5 : j = 0 ∨ j = 1 ∨ j = 2 ∨ j = 3 ∨ j = 4 := by omega
    rcases hj5 with rfl | rfl | rfl | rfl | rfl
    · have cj : wr.cell? ⟨q, 0, none⟩ = some (.slice (some ⟨g, 2, none⟩) 16 16) := SL.cell 0
      have B' := B
      unfold pk at B'
      rw [pkL_0] at B'
      have hno := (show (pkh (pkj l 0)).length = 2 from rfl)
      have hze : ((pkj l 0).nonce).length = 16 := zeros_length 16
      go_wp2_with fail
      have ctr := fill_at (l := l) (a := 6) R hpD B' hgp' hDg' 2 16 hno hze ((l.drop 6).take 16) rfl 22 rfl (by omega)
      with_reducible refine Calls.mono ctr ?_
      clear ctr
      rintro e w9 ⟨⟨u9, rfl⟩, R9, B9, x9⟩
      have X9 := X.trans x9 hxt
      have S9 := SL.ext x9 hqt
      have B9' : Blk w9 g 50 (pk (pkj l (0 + 1))) := by
        unfold pk
        rw [pkL_0]
        exact B9
      clear R B SL X x9 B' cj B9 hno hze
      go_wp2_with fail
      exact ⟨⟨0 + 1, by omega, by go_num, B9', R9, S9, X9⟩, by simp [intOf]⟩
    · have cj : wr.cell? ⟨q, 1, none⟩ = some (.slice (some ⟨g, 18, none⟩) 16 16) := SL.cell 1
      have B' := B
      unfold pk at B'
      rw [pkL_1] at B'
      have hno := (show (pkh (pkj l 1) ++ bvs (pkj l 1).nonce).length = 18 by simp [pkh, bvs_length, (pkj_ok hl 1).nonce])
      have hze : ((pkj l 1).mac).length = 16 := zeros_length 16
      go_wp2_with fail
      have ctr := fill_at (l := l) (a := 22) R hpD B' hgp' hDg' 18 16 hno hze ((l.drop 22).take 16) rfl 38 rfl (by omega)
      with_reducible refine Calls.mono ctr ?_
      clear ctr
      rintro e w9 ⟨⟨u9, rfl⟩, R9, B9, x9⟩
      have X9 := X.trans x9 hxt
      have S9 := SL.ext x9 hqt
      have B9' : Blk w9 g 50 (pk (pkj l (1 + 1))) := by
        unfold pk
        rw [pkL_1]
        exact B9
      clear R B SL X x9 B' cj B9 hno hze
      go_wp2_with fail
      exact ⟨⟨1 + 1, by omega, by go_num, B9', R9, S9, X9⟩, by simp [intOf]⟩
    · have cj : wr.cell? ⟨q, 2, none⟩ = some (.slice (some ⟨g, 34, none⟩) 320 320) := SL.cell 2
      have B' := B
      unfold pk at B'
      rw [pkL_2] at B'
      have hno := (show (pkh (pkj l 2) ++ bvs (pkj l 2).nonce ++ bvs (pkj l 2).mac).length = 34 by simp [pkh, bvs_length, (pkj_ok hl 2).nonce, (pkj_ok hl 2).mac])
      have hze : ((pkj l 2).head).length = 320 := zeros_length 320
      go_wp2_with fail
      have ctr := fill_at (l := l) (a := 38) R hpD B' hgp' hDg' 34 320 hno hze ((l.drop 38).take 320) rfl 358 rfl (by omega)
      with_reducible refine Calls.mono ctr ?_
      clear ctr
      rintro e w9 ⟨⟨u9, rfl⟩, R9, B9, x9⟩
      have X9 := X.trans x9 hxt
      have S9 := SL.ext x9 hqt
      have B9' : Blk w9 g 50 (pk (pkj l (2 + 1))) := by
        unfold pk
        rw [pkL_2]
        exact B9
      clear R B SL X x9 B' cj B9 hno hze
      go_wp2_with fail
      exact ⟨⟨2 + 1, by omega, by go_num, B9', R9, S9, X9⟩, by simp [intOf]⟩
    · have cj : wr.cell? ⟨q, 3, none⟩ = some (.slice (some ⟨g, 354, none⟩) 256 256) := SL.cell 3
      have B' := B
      unfold pk at B'
      rw [pkL_3] at B'
      have hno := (show (pkh (pkj l 3) ++ bvs (pkj l 3).nonce ++ bvs (pkj l 3).mac ++ bvs (pkj l 3).head).length = 354 by simp [pkh, bvs_length, (pkj_ok hl 3).nonce, (pkj_ok hl 3).mac, (pkj_ok hl 3).head])
      have hze : ((pkj l 3).body).length = 256 := zeros_length 256
      go_wp2_with fail
      have ctr := fill_at (l := l) (a := 358) R hpD B' hgp' hDg' 354 256 hno hze ((l.drop 358).take 256) rfl 614 rfl (by omega)
      with_reducible refine Calls.mono ctr ?_
      clear ctr
      rintro e w9 ⟨⟨u9, rfl⟩, R9, B9, x9⟩
      have X9 := X.trans x9 hxt
      have S9 := SL.ext x9 hqt
      have B9' : Blk w9 g 50 (pk (pkj l (3 + 1))) := by
        unfold pk
        rw [pkL_3]
        exact B9
      clear R B SL X x9 B' cj B9 hno hze
      go_wp2_with fail
      exact ⟨⟨3 + 1, by omega, by go_num, B9', R9, S9, X9⟩, by simp [intOf]⟩
    · have B4 : Blk wr g 50 (pk (rdpk l)) := B
      have okp := rdpk_ok hl
      have ld := load_pk B4 okp
      have st := B4.big_store (P := Try.prog) (ty := 50) (cs' := pk (rdpk l)) rfl (pk_inf okp) (pk_all _)
      have B5 := B4.setRow (pk (rdpk l))
      have X5 := X.setRow (.inl hgw) (g := g) (pk (rdpk l))
      clear B B4 R SL X
      go_wp2_with fail
      exact bodyPost_ret (B5.results2 Try.results20 _ _ rfl rfl Try.underlying50 rfl (pk_inf okp)) rfl ⟨rfl, X5⟩
end Go.Proofs.Ytgfjpoopghdilaa
