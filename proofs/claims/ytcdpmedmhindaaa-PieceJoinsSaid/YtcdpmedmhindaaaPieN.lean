/- A joiner looks at a piece. -/
import Derived.Test.YtcdpmedmhindaaaPieM
namespace Go.Proofs.Ytcdpmedmhindaaa
open Go.RowKit

/-- What a look at a piece tells. -/
def Chk (w w' : World) (es : List (Ky × En)) (p : Pc) (o : Opn) (v : Value) : Prop :=
  (∃ x ∈ es, x.1 = p.key ∧ v = .pointer (some ⟨x.2.p, 0, none⟩) ∧ o = x.2.opn) ∨
  (lkp p.key es = none ∧ o = (p.count, []) ∧ ∃ pb mb, v = .pointer (some ⟨pb, 0, none⟩) ∧ Blk w' pb 102 #[.int .i64 p.count, .map (some mb)] ∧ Mp iv w' mb [] ∧ w.heap.size ≤ pb ∧ w.heap.size ≤ mb)
theorem zero_ptr (w : World) : (zeroValue 96).run Try.prog w = .ok (.pointer none) w :=
  (zero_of_info (P := Try.prog) (t := 96) (n := 1) (by kernel_rfl)).1 w
theorem pc_cellsR {w : World} {g : Nat} {x0 x1 x2 x3 x4 x5 : Int} {A : Option Addr} {n c : Nat} (B : Blk w g 45 #[.int .i64 x0, .int .u32 x1, .int .u16 x2, .int .u16 x3, .int .i64 x4, .int .i64 x5, .slice A n c]) :
    w.cell? ⟨g, 0, none⟩ = some (.int .i64 x0) ∧ w.cell? ⟨g, 1, none⟩ = some (.int .u32 x1) ∧ w.cell? ⟨g, 2, none⟩ = some (.int .u16 x2) ∧ w.cell? ⟨g, 3, none⟩ = some (.int .u16 x3) ∧
    w.cell? ⟨g, 4, none⟩ = some (.int .i64 x4) ∧ w.cell? ⟨g, 5, none⟩ = some (.int .i64 x5) ∧ w.cell? ⟨g, 6, none⟩ = some (.slice A n c) :=
  ⟨B.cell 0, B.cell 1, B.cell 2, B.cell 3, B.cell 4, B.cell 5, B.cell 6⟩
set_option maxRecDepth 100000 in
set_option maxHeartbeats 4000000 in
theorem check_calls {w : World} {D : Nat → Prop} {j : Nat} {J : Jn} {mo : Nat} {dA : Option Addr} {dc : Nat} {es : List (Ky × En)} (H : JoE w D j J mo dA dc es) (p : Pc) (A : Option Addr) (c : Nat) {Dp : Nat → Prop} (hr : Rd w Dp A (bvs p.b)) (hl : p.b.length ≤ maxLen) :
    Calls Try.prog 35 #[.pointer (some ⟨j, 0, none⟩), .agg (pcA p A c)] w fun e w' => ∃ v, e = .returned (.tuple #[v, .int .i64 (((jchk J p).1 : Nat) : Int)]) ∧ Ext Non w w' ∧ ((jchk J p).1 = 0 → Chk w w' es p (jchk J p).2 v) := by
  have X0 := (Ext.refl Non w).alloc (.cells (pcA p A c) 45)
  have B0 := Blk.new w 45 (pcA p A c)
  have ctr := fun W => right_calls W p A c hl
  have ctk := fun W => key_calls W p A c
  have hdl := H.ok.few
  obtain ⟨res, hres⟩ : ∃ r, jchk J p = r := ⟨_, rfl⟩
  rw [hres]
  have HRES := Lib.hid hres
  clear hres
  go_enter Try.func35, Try.ntmps35
  unfold pcA at X0 B0 ctr ctk ⊢
  obtain ⟨ki, hki⟩ : ∃ z, p.kind = z := ⟨_, rfl⟩
  rw [hki] at X0 B0 ctr ctk
  simp only [hki]
  have HKI := Lib.hid hki
  clear hki
  go_wp2_with fail
  have ctr := ctr (w.alloc (.cells #[.int .i64 ki, .int .u32 p.id, .int .u16 p.fr, .int .u16 p.bx, .int .i64 p.place, .int .i64 p.count, .slice A p.b.length c] 45))
  with_reducible refine Calls.mono ctr ?_
  clear ctr
  rintro e w1 ⟨rfl, x1⟩
  have X1 := X0.transN x1
  have B1 := B0.extN_ x1
  obtain ⟨b0, b1, b2, b3, b4, b5, b6⟩ := pc_cellsR B1
  clear ctr X0 B0 x1
  by_cases hk : prt p = true ∧ ki = 1
  · obtain ⟨hk1, rfl⟩ := hk
    have H1 := H.extN X1
    have hd0 : w1.cell? ⟨j, 0, none⟩ = some (.int .i64 J.room) := H1.blk.cell 0
    have hd1 : w1.cell? ⟨j, 1, none⟩ = some (.map (some mo)) := H1.blk.cell 1
    have hd2 : w1.cell? ⟨j, 2, none⟩ = some (.slice dA J.done.length dc) := H1.blk.cell 2
    rw [hk1]
    have hdr := H1.done.rd
    have B2 := fun W (x : Ext Non w1.drew W) => pc_cellsR ((B1.drew).extN_ x)
    go_wp2_with fail
    clear b0 b1 b2 b3 b4 b5 b6
    refine wp_region_seq Non ((0, true) :: (1, true) :: (2, true) :: (3, true) :: (4, true) :: (5, false) :: (6, false) :: []) (by kernel_rfl) (by kernel_rfl) (by kernel_rfl) ?_
    iterate 5 (refine wpSeq_quiet rfl rfl ?_; apply Exists.intro; refine ⟨?_, ?_⟩; (intro W hW; have c2 := hW.drewL.cell hd2 (fun h => h); obtain ⟨b0, b1, b2, b3, b4, b5, b6⟩ := B2 W hW; go_simp; try with_reducible rfl); (intro K hK; simp only [Act.put, List.setIfInBounds_toArray, List.set_cons_zero, List.set_cons_succ]; refine hK _ ?_; clear hK K))
    refine wpSeq_call rfl rfl (fun K hK => ?_)
    go_simp
    have ctr := ctk w1.drew
    with_reducible refine Calls.mono ctr ?_
    clear ctr
    rintro e w2 ⟨rfl, x2⟩
    go_simp
    refine hK _ _ x2 ?_
    clear hK K
    have hdr2 := hdr.extN x2.drewL
    refine wpSeq_call rfl rfl (fun K hK => ?_)
    go_simp
    have ctr := contains_calls dc J.done.length hdr2 rfl (by omega) (p.id, p.fr, p.bx)
    with_reducible refine Calls.mono ctr ?_
    clear ctr
    rintro e w3 ⟨rfl, x3⟩
    go_simp
    refine hK _ _ x3 ?_
    clear hK K
    refine wpSeq_end ?_
    have X3 := X1.transN (x2.drewL.transN x3)
    have Y3 := x2.drewL.transN x3
    have H3 := H1.extN Y3
    have B3 := B1.extN_ Y3
    by_cases hkd : p.key ∈ J.done
    · obtain rfl : res = (7, 0, []) := by rw [← HRES.out]; unfold jchk; rw [HKI.out, if_pos ⟨hk1, rfl⟩, if_pos hkd]
      have hkd' : decide ((p.id, p.fr, p.bx) ∈ J.done) = true := decide_eq_true hkd
      rw [hkd']
      go_wp2_with fail
      go_ret2
      exact ⟨⟨_, rfl⟩, X3⟩
    · have hkd' : decide ((p.id, p.fr, p.bx) ∈ J.done) = false := decide_eq_false hkd
      rw [hkd']
      have hd0 : w3.cell? ⟨j, 0, none⟩ = some (.int .i64 J.room) := H3.blk.cell 0
      have hd1 : w3.cell? ⟨j, 1, none⟩ = some (.map (some mo)) := H3.blk.cell 1
      have B4 := fun W (x : Ext Non w3.drew W) => pc_cellsR ((B3.drew).extN_ x)
      have lk : ∀ W, Ext Non w3.drew W → (Instr.lookup 91 (.map (some mo)) (.agg #[.int .u32 p.id, .int .u16 p.fr, .int .u16 p.bx]) false).run Try.prog W = .ok (((lkp p.key es).map fun e => Value.pointer (some ⟨e.p, 0, none⟩)).getD (.pointer none)) W := by
        intro W x
        have := ((H3.mp.extN (Ext.refl Non w3).drew).extN x).lookup ke_ky Try.underlying91 zero_ptr p.key false
        rw [lkp_map (fun e : En => Value.pointer (some ⟨e.p, 0, none⟩)) p.key es] at this
        exact this
      clear hdr hdr2 B2 x2 x3 hkd'
      cases hes : lkp p.key es with
      | none =>
        simp only [hes, Option.map_none, Option.getD_none] at lk
        have hlo : lkp p.key J.opn = none := by rw [H.opn, lkp_map En.opn, hes]; rfl
        have hol := H.opn_len
        have hlen := fun W (x : Ext Non w3 W) => (H3.mp.extN x).len (P := Try.prog) Try.underlying91 3
        simp only [List.length_map, ← hol] at hlen
        clear hol
        go_wp2_with fail
        refine wp_region_seq Non ((0, true) :: (1, true) :: (2, true) :: (3, true) :: (4, true) :: (5, false) :: (6, true) :: (7, true) :: []) (by kernel_rfl) (by kernel_rfl) (by kernel_rfl) ?_
        iterate 5 (refine wpSeq_quiet rfl rfl ?_; apply Exists.intro; refine ⟨?_, ?_⟩; (intro W hW; have c2 := hW.drewL.cell hd1 (fun h => h); obtain ⟨b0, b1, b2, b3, b4, b5, b6⟩ := B4 W hW; go_simp; try with_reducible rfl); (intro K hK; simp only [Act.put, List.setIfInBounds_toArray, List.set_cons_zero, List.set_cons_succ]; refine hK _ ?_; clear hK K))
        refine wpSeq_call rfl rfl (fun K hK => ?_)
        go_simp
        have ctr := ctk w3.drew
        with_reducible refine Calls.mono ctr ?_
        clear ctr
        rintro e w4 ⟨rfl, x4⟩
        go_simp
        refine hK _ _ x4 ?_
        clear hK K
        iterate 2 (refine wpSeq_quiet rfl rfl ?_; apply Exists.intro; refine ⟨?_, ?_⟩; (intro W hW; have l4 := lk W (x4.transN hW); go_simp; try with_reducible rfl); (intro K hK; simp only [Act.put, List.setIfInBounds_toArray, List.set_cons_zero, List.set_cons_succ]; refine hK _ ?_; clear hK K))
        refine wpSeq_end ?_
        have Y4 := x4.drewL
        clear lk B4
        have hd0 : w4.cell? ⟨j, 0, none⟩ = some (.int .i64 J.room) := Y4.cell hd0 (fun h => h)
        have hd1 : w4.cell? ⟨j, 1, none⟩ = some (.map (some mo)) := Y4.cell hd1 (fun h => h)
        have B5 := B3.extN_ Y4
        have X4 := X3.transN Y4
        have hl4 := fun W (x : Ext Non w4.drew W) => hlen W (Y4.transN (x.drewL))
        have B6 := fun W (x : Ext Non w4.drew W) => pc_cellsR ((B5.drew).extN_ x)
        clear hlen x4 Y4
        by_cases hc1 : 1 < p.count
        · by_cases hro : J.room ≤ (J.opn.length : Int)
          · obtain rfl : res = (8, 0, []) := by rw [← HRES.out]; unfold jchk; rw [HKI.out, if_pos ⟨hk1, rfl⟩, if_neg hkd, hlo]; simp only; rw [if_pos ⟨hc1, hro⟩]
            go_wp2_with fail
            refine wp_region_seq Non ((0, true) :: (1, true) :: (2, true) :: (3, true) :: (4, true) :: (5, true) :: (6, true) :: (7, true) :: (8, true) :: (9, true) :: (10, true) :: (11, true) :: (12, true) :: (13, true) :: (14, true) :: []) (by kernel_rfl) (by kernel_rfl) (by kernel_rfl) ?_
            iterate 15 (refine wpSeq_quiet rfl rfl ?_; apply Exists.intro; refine ⟨?_, ?_⟩; (intro W hW; have c2 := hW.drewL.cell hd1 (fun h => h); have c3 := hW.drewL.cell hd0 (fun h => h); obtain ⟨b0, b1, b2, b3, b4, b5, b6⟩ := B6 W hW; have l5 := hl4 W hW; go_simp; try with_reducible rfl); (intro K hK; simp only [Act.put, List.setIfInBounds_toArray, List.set_cons_zero, List.set_cons_succ]; refine hK _ ?_; clear hK K))
            refine wpSeq_end ?_
            go_wp2_with fail
            go_ret2
            exact ⟨⟨_, rfl⟩, X4.drew⟩
          · have e1 : jchk J p = (0, p.count, []) := by unfold jchk; rw [HKI.out, if_pos ⟨hk1, rfl⟩, if_neg hkd, hlo]; simp only; rw [if_neg (fun h => hro h.2)]
            obtain rfl : res = (0, p.count, []) := by rw [← HRES.out, e1]
            clear e1
            have hmm := @run_makeMap Try.prog
            go_wp2_with fail
            refine wp_region_seq Non ((0, true) :: (1, true) :: (2, true) :: (3, true) :: (4, true) :: (5, true) :: (6, true) :: (7, true) :: (8, true) :: (9, true) :: (10, true) :: (11, true) :: (12, true) :: (13, true) :: (14, true) :: []) (by kernel_rfl) (by kernel_rfl) (by kernel_rfl) ?_
            iterate 15 (refine wpSeq_quiet rfl rfl ?_; apply Exists.intro; refine ⟨?_, ?_⟩; (intro W hW; have c2 := hW.drewL.cell hd1 (fun h => h); have c3 := hW.drewL.cell hd0 (fun h => h); obtain ⟨b0, b1, b2, b3, b4, b5, b6⟩ := B6 W hW; have l5 := hl4 W hW; go_simp; try with_reducible rfl); (intro K hK; simp only [Act.put, List.setIfInBounds_toArray, List.set_cons_zero, List.set_cons_succ]; refine hK _ ?_; clear hK K))
            refine wpSeq_end ?_
            obtain ⟨b0, b1, b2, b3, b4, b5, b6⟩ := pc_cellsR B5.drew
            go_wp2_with fail
            have Z1 : Ext Non w4 (((w4.alloc (.map #[] 0)).alloc (.cells #[.int .i64 p.count, .map (some w4.heap.size)] 102)).drew) := (((Ext.refl Non w4).alloc _).alloc _).drew
            have Z2 := Blk.new (w4.alloc (.map #[] 0)) 102 #[.int .i64 p.count, .map (some w4.heap.size)]
            rw [World.size_alloc] at Z2
            have Z3 : Mp iv ((w4.alloc (.map #[] 0)).alloc (.cells #[.int .i64 p.count, .map (some w4.heap.size)] 102)) w4.heap.size [] := (Mp.new w4).alloc _
            have hw4 := X4.size
            go_ret2
            exact ⟨_, rfl, X4.transN Z1, .inr ⟨hes, rfl, _, _, rfl, Z2.drew, Z3.drew, by omega, hw4⟩⟩
        · have e1 : jchk J p = (0, p.count, []) := by unfold jchk; rw [HKI.out, if_pos ⟨hk1, rfl⟩, if_neg hkd, hlo]; simp only; rw [if_neg (fun h => hc1 h.1)]
          obtain rfl : res = (0, p.count, []) := by rw [← HRES.out, e1]
          clear e1
          have hmm := @run_makeMap Try.prog
          go_wp2_with fail
          refine wp_region_seq Non ((0, true) :: (1, true) :: (2, true) :: (3, true) :: (4, true) :: (5, true) :: (6, true) :: (7, true) :: (8, true) :: (9, true) :: (10, true) :: (11, true) :: (12, true) :: (13, true) :: (14, true) :: []) (by kernel_rfl) (by kernel_rfl) (by kernel_rfl) ?_
          have i1 : decide (1 < p.count) = false := decide_eq_false (by omega)
          iterate 4 (refine wpSeq_quiet rfl rfl ?_; apply Exists.intro; refine ⟨?_, ?_⟩; (intro W hW; obtain ⟨b0, b1, b2, b3, b4, b5, b6⟩ := B6 W hW; go_simp; try with_reducible rfl); (intro K hK; simp only [Act.put, List.setIfInBounds_toArray, List.set_cons_zero, List.set_cons_succ]; refine hK _ ?_; clear hK K))
          iterate 10 (refine wpSeq_skip rfl rfl (fun K hK => ?_); simp only [Act.put, List.setIfInBounds_toArray, List.set_cons_zero, List.set_cons_succ]; refine hK _ ?_; clear hK K)
          iterate 1 (refine wpSeq_quiet rfl rfl ?_; apply Exists.intro; refine ⟨?_, ?_⟩; (intro W hW; go_simp; try with_reducible rfl); (intro K hK; simp only [Act.put, List.setIfInBounds_toArray, List.set_cons_zero, List.set_cons_succ]; refine hK _ ?_; clear hK K))
          refine wpSeq_end ?_
          obtain ⟨b0, b1, b2, b3, b4, b5, b6⟩ := pc_cellsR B5.drew
          go_wp2_with fail
          have Z1 : Ext Non w4 (((w4.alloc (.map #[] 0)).alloc (.cells #[.int .i64 p.count, .map (some w4.heap.size)] 102)).drew) := (((Ext.refl Non w4).alloc _).alloc _).drew
          have Z2 := Blk.new (w4.alloc (.map #[] 0)) 102 #[.int .i64 p.count, .map (some w4.heap.size)]
          rw [World.size_alloc] at Z2
          have Z3 : Mp iv ((w4.alloc (.map #[] 0)).alloc (.cells #[.int .i64 p.count, .map (some w4.heap.size)] 102)) w4.heap.size [] := (Mp.new w4).alloc _
          have hw4 := X4.size
          go_ret2
          exact ⟨_, rfl, X4.transN Z1, .inr ⟨hes, rfl, _, _, rfl, Z2.drew, Z3.drew, by omega, hw4⟩⟩
      | some e =>
        simp only [hes, Option.map_some, Option.getD_some] at lk
        have hmem := lkp_mem hes
        have hlo : lkp p.key J.opn = some e.opn := by rw [H.opn, lkp_map En.opn, hes]; rfl
        have E3 := H3.ents _ hmem
        simp only at E3
        go_wp2_with fail
        refine wp_region_seq Non ((0, true) :: (1, true) :: (2, true) :: (3, true) :: (4, true) :: (5, false) :: (6, true) :: (7, true) :: []) (by kernel_rfl) (by kernel_rfl) (by kernel_rfl) ?_
        iterate 5 (refine wpSeq_quiet rfl rfl ?_; apply Exists.intro; refine ⟨?_, ?_⟩; (intro W hW; have c2 := hW.drewL.cell hd1 (fun h => h); obtain ⟨b0, b1, b2, b3, b4, b5, b6⟩ := B4 W hW; go_simp; try with_reducible rfl); (intro K hK; simp only [Act.put, List.setIfInBounds_toArray, List.set_cons_zero, List.set_cons_succ]; refine hK _ ?_; clear hK K))
        refine wpSeq_call rfl rfl (fun K hK => ?_)
        go_simp
        have ctr := ctk w3.drew
        with_reducible refine Calls.mono ctr ?_
        clear ctr
        rintro e w4 ⟨rfl, x4⟩
        go_simp
        refine hK _ _ x4 ?_
        clear hK K
        iterate 2 (refine wpSeq_quiet rfl rfl ?_; apply Exists.intro; refine ⟨?_, ?_⟩; (intro W hW; have l4 := lk W (x4.transN hW); go_simp; try with_reducible rfl); (intro K hK; simp only [Act.put, List.setIfInBounds_toArray, List.set_cons_zero, List.set_cons_succ]; refine hK _ ?_; clear hK K))
        refine wpSeq_end ?_
        have Y4 := x4.drewL
        clear lk B4
        have E4 := E3.extN Y4
        have B5 := B3.extN_ Y4
        have X4 := X3.transN Y4
        have B6 := fun W (x : Ext Non w4.drew W) => pc_cellsR ((B5.drew).extN_ x)
        have g0 : w4.cell? ⟨e.p, 0, none⟩ = some (.int .i64 e.cnt) := E4.blk.cell 0
        have g1 : w4.cell? ⟨e.p, 1, none⟩ = some (.map (some e.m)) := E4.blk.cell 1
        have hz : (lkp p.place e.opn.2) = (lkp p.place e.pl).map Part.l := by
          show lkp p.place (e.pl.map fun x => (x.1, x.2.l)) = _
          rw [← lkp_map Part.l]
        have lp : ∀ W, Ext Non w4.drew W → (Instr.lookup 100 (.map (some e.m)) (.int .i64 p.place) true).run Try.prog W = .ok (.tuple #[((lkp p.place e.pl).map Part.val).getD (.slice none 0 0), .bool ((lkp p.place e.pl).map Part.val).isSome]) W := by
          intro W x
          have := ((E4.mp.extN (Ext.refl Non w4).drew).extN x).lookup ke_iv Try.underlying100 zero_bs p.place true
          rw [lkp_map Part.val] at this
          exact this
        clear x4 Y4 hd1 hd0
        have hj0 : jchk J p = if e.cnt ≠ p.count ∨ (lkp p.place e.opn.2 ≠ none ∧ lkp p.place e.opn.2 ≠ some p.b) then (3, 0, []) else if lkp p.place e.opn.2 ≠ none then (7, 0, []) else (0, e.opn) := by
          unfold jchk
          rw [HKI.out, if_pos ⟨hk1, rfl⟩, if_neg hkd, hlo]
          rfl
        rw [HRES.out] at hj0
        clear HRES hlo
        cases hpl : lkp p.place e.pl with
        | none =>
          rw [hpl] at hz
          simp only [hpl, Option.map_none, Option.getD_none, Option.isSome_none] at lp
          rw [show lkp p.place e.opn.2 = none from hz] at hj0
          clear hz
          by_cases hcc : e.cnt = p.count
          · obtain rfl : res = (0, e.opn) := by rw [hj0, if_neg (by simp [hcc]), if_neg (by simp)]
            have HE := Lib.hid hcc
            rw [hcc] at g0
            clear hj0 hcc
            go_wp2_with fail
            refine wp_region_seq Non ((0, true) :: (1, true) :: (2, true) :: (3, true) :: (4, true) :: (5, true) :: (6, true) :: (7, true) :: (8, true) :: (9, true) :: (10, true) :: (11, true) :: []) (by kernel_rfl) (by kernel_rfl) (by kernel_rfl) ?_
            iterate 12 (refine wpSeq_quiet rfl rfl ?_; apply Exists.intro; refine ⟨?_, ?_⟩; (intro W hW; have c2 := hW.drewL.cell g1 (fun h => h); obtain ⟨b0, b1, b2, b3, b4, b5, b6⟩ := B6 W hW; have l5 := lp W hW; go_simp; try with_reducible rfl); (intro K hK; simp only [Act.put, List.setIfInBounds_toArray, List.set_cons_zero, List.set_cons_succ]; refine hK _ ?_; clear hK K))
            refine wpSeq_end ?_
            clear B6 lp
            go_wp2_with fail
            have D6 := fun W (x : Ext Non w4.drew.drew W) => pc_cellsR ((B5.drew.drew).extN_ x)
            refine wp_region_seq Non ((0, true) :: (1, true) :: (2, true) :: (3, true) :: (4, true) :: (5, true) :: (6, true) :: (7, true) :: (8, true) :: (9, true) :: (10, true) :: (11, true) :: (12, true) :: (13, false) :: (14, true) :: (15, true) :: (16, true) :: (17, true) :: []) (by kernel_rfl) (by kernel_rfl) (by kernel_rfl) ?_
            iterate 10 (refine wpSeq_quiet rfl rfl ?_; apply Exists.intro; refine ⟨?_, ?_⟩; (intro W hW; have c2 := hW.drewL.drewL.cell g0 (fun h => h); obtain ⟨b0, b1, b2, b3, b4, b5, b6⟩ := D6 W hW; go_simp; try with_reducible rfl); (intro K hK; simp only [Act.put, List.setIfInBounds_toArray, List.set_cons_zero, List.set_cons_succ]; refine hK _ ?_; clear hK K))
            iterate 3 (refine wpSeq_skip rfl rfl (fun K hK => ?_); simp only [Act.put, List.setIfInBounds_toArray, List.set_cons_zero, List.set_cons_succ]; refine hK _ ?_; clear hK K)
            iterate 1 (refine wpSeq_pass rfl rfl (fun K hK => ?_); simp only [Act.put, List.setIfInBounds_toArray, List.set_cons_zero, List.set_cons_succ]; refine hK _ ?_; clear hK K)
            iterate 1 (refine wpSeq_skip rfl rfl (fun K hK => ?_); simp only [Act.put, List.setIfInBounds_toArray, List.set_cons_zero, List.set_cons_succ]; refine hK _ ?_; clear hK K)
            iterate 3 (refine wpSeq_quiet rfl rfl ?_; apply Exists.intro; refine ⟨?_, ?_⟩; (intro W hW; go_simp; try with_reducible rfl); (intro K hK; simp only [Act.put, List.setIfInBounds_toArray, List.set_cons_zero, List.set_cons_succ]; refine hK _ ?_; clear hK K))
            refine wpSeq_end ?_
            clear D6
            go_wp2_with fail
            go_ret2
            exact ⟨_, rfl, X4.drew.drew, .inl ⟨(p.key, e), hmem, rfl, rfl, rfl⟩⟩
          · obtain rfl : res = (3, 0, []) := by rw [hj0, if_pos (.inl hcc)]
            have i1 : (e.cnt != p.count) = true := by simp [hcc]
            clear hj0
            go_wp2_with fail
            refine wp_region_seq Non ((0, true) :: (1, true) :: (2, true) :: (3, true) :: (4, true) :: (5, true) :: (6, true) :: (7, true) :: (8, true) :: (9, true) :: (10, true) :: (11, true) :: []) (by kernel_rfl) (by kernel_rfl) (by kernel_rfl) ?_
            iterate 12 (refine wpSeq_quiet rfl rfl ?_; apply Exists.intro; refine ⟨?_, ?_⟩; (intro W hW; have c2 := hW.drewL.cell g1 (fun h => h); obtain ⟨b0, b1, b2, b3, b4, b5, b6⟩ := B6 W hW; have l5 := lp W hW; go_simp; try with_reducible rfl); (intro K hK; simp only [Act.put, List.setIfInBounds_toArray, List.set_cons_zero, List.set_cons_succ]; refine hK _ ?_; clear hK K))
            refine wpSeq_end ?_
            clear B6 lp
            go_wp2_with fail
            have D6 := fun W (x : Ext Non w4.drew.drew W) => pc_cellsR ((B5.drew.drew).extN_ x)
            refine wp_region_seq Non ((0, true) :: (1, true) :: (2, true) :: (3, true) :: (4, true) :: (5, true) :: (6, true) :: (7, true) :: (8, true) :: (9, true) :: (10, true) :: (11, true) :: (12, true) :: (13, false) :: (14, true) :: (15, true) :: (16, true) :: (17, true) :: []) (by kernel_rfl) (by kernel_rfl) (by kernel_rfl) ?_
            iterate 8 (refine wpSeq_quiet rfl rfl ?_; apply Exists.intro; refine ⟨?_, ?_⟩; (intro W hW; have c2 := hW.drewL.drewL.cell g0 (fun h => h); obtain ⟨b0, b1, b2, b3, b4, b5, b6⟩ := D6 W hW; go_simp; try with_reducible rfl); (intro K hK; simp only [Act.put, List.setIfInBounds_toArray, List.set_cons_zero, List.set_cons_succ]; refine hK _ ?_; clear hK K))
            iterate 5 (refine wpSeq_skip rfl rfl (fun K hK => ?_); simp only [Act.put, List.setIfInBounds_toArray, List.set_cons_zero, List.set_cons_succ]; refine hK _ ?_; clear hK K)
            iterate 1 (refine wpSeq_pass rfl rfl (fun K hK => ?_); simp only [Act.put, List.setIfInBounds_toArray, List.set_cons_zero, List.set_cons_succ]; refine hK _ ?_; clear hK K)
            iterate 2 (refine wpSeq_skip rfl rfl (fun K hK => ?_); simp only [Act.put, List.setIfInBounds_toArray, List.set_cons_zero, List.set_cons_succ]; refine hK _ ?_; clear hK K)
            iterate 2 (refine wpSeq_quiet rfl rfl ?_; apply Exists.intro; refine ⟨?_, ?_⟩; (intro W hW; go_simp; try with_reducible rfl); (intro K hK; simp only [Act.put, List.setIfInBounds_toArray, List.set_cons_zero, List.set_cons_succ]; refine hK _ ?_; clear hK K))
            refine wpSeq_end ?_
            clear D6
            go_wp2_with fail
            go_ret2
            exact ⟨⟨_, rfl⟩, X4.drew.drew⟩
        | some x =>
          rw [hpl] at hz
          simp only [hpl, Option.map_some, Option.getD_some, Option.isSome_some, Part.val] at lp
          have hz2 : lkp p.place e.opn.2 = some x.l := hz
          rw [hz2] at hj0
          have O4 := E4.own _ (lkp_mem hpl)
          simp only at O4
          have hx244 : x.l.length ≤ 244 := by
            have h1 : (p.key, e.opn) ∈ J.opn := by rw [H.opn]; exact List.mem_map.2 ⟨(p.key, e), hmem, rfl⟩
            exact (H.ok.each _ _ h1).2.2 (p.place, x.l) (List.mem_map.2 ⟨(p.place, x), lkp_mem hpl, rfl⟩)
          clear hz hz2
          by_cases hcc : e.cnt = p.count
          · have HE := Lib.hid hcc
            rw [hcc] at g0
            go_wp2_with fail
            refine wp_region_seq Non ((0, true) :: (1, true) :: (2, true) :: (3, true) :: (4, true) :: (5, true) :: (6, true) :: (7, true) :: (8, true) :: (9, true) :: (10, true) :: (11, true) :: []) (by kernel_rfl) (by kernel_rfl) (by kernel_rfl) ?_
            iterate 12 (refine wpSeq_quiet rfl rfl ?_; apply Exists.intro; refine ⟨?_, ?_⟩; (intro W hW; have c2 := hW.drewL.cell g1 (fun h => h); obtain ⟨b0, b1, b2, b3, b4, b5, b6⟩ := B6 W hW; have l5 := lp W hW; go_simp; try with_reducible rfl); (intro K hK; simp only [Act.put, List.setIfInBounds_toArray, List.set_cons_zero, List.set_cons_succ]; refine hK _ ?_; clear hK K))
            refine wpSeq_end ?_
            clear B6 lp
            go_wp2_with fail
            have D6 := fun W (x : Ext Non w4.drew.drew W) => pc_cellsR ((B5.drew.drew).extN_ x)
            have R6 := hr.extN X4.drew.drew
            have O6 := O4.extN ((Ext.refl Non w4).drew.drew)
            by_cases hb : x.l = p.b
            · obtain rfl : res = (7, 0, []) := by rw [hj0, if_neg (by simp [hcc, hb]), if_pos (by simp)]
              have hbe : (x.l == p.b) = true := by rw [hb]; exact beq_self_eq_true _
              clear hj0 hcc hb
              refine wp_region_seq Non ((0, true) :: (1, true) :: (2, true) :: (3, true) :: (4, true) :: (5, true) :: (6, true) :: (7, true) :: (8, true) :: (9, true) :: (10, true) :: (11, true) :: (12, true) :: (13, false) :: (14, true) :: (15, true) :: (16, true) :: (17, true) :: []) (by kernel_rfl) (by kernel_rfl) (by kernel_rfl) ?_
              iterate 13 (refine wpSeq_quiet rfl rfl ?_; apply Exists.intro; refine ⟨?_, ?_⟩; (intro W hW; have c2 := hW.drewL.drewL.cell g0 (fun h => h); obtain ⟨b0, b1, b2, b3, b4, b5, b6⟩ := D6 W hW; go_simp; try with_reducible rfl); (intro K hK; simp only [Act.put, List.setIfInBounds_toArray, List.set_cons_zero, List.set_cons_succ]; refine hK _ ?_; clear hK K))
              refine wpSeq_call rfl rfl (fun K hK => ?_)
              go_simp
              have ctr := equal_calls x.c c x.l.length p.b.length O6.rd R6 rfl rfl (by omega)
              with_reducible refine Calls.mono ctr ?_
              clear ctr
              rintro e w5 ⟨rfl, x5⟩
              go_simp
              refine hK _ _ x5 ?_
              clear hK K
              iterate 4 (refine wpSeq_quiet rfl rfl ?_; apply Exists.intro; refine ⟨?_, ?_⟩; (intro W hW; go_simp; try with_reducible rfl); (intro K hK; simp only [Act.put, List.setIfInBounds_toArray, List.set_cons_zero, List.set_cons_succ]; refine hK _ ?_; clear hK K))
              refine wpSeq_end ?_
              clear D6
              have X5 := X4.drew.drew.transN x5
              go_wp2_with fail
              go_ret2
              exact ⟨⟨_, rfl⟩, X5⟩
            · obtain rfl : res = (3, 0, []) := by rw [hj0, if_pos (.inr ⟨by simp, by simpa using hb⟩)]
              have hbe : (x.l == p.b) = false := beq_eq_false_iff_ne.2 hb
              clear hj0 hcc hb
              refine wp_region_seq Non ((0, true) :: (1, true) :: (2, true) :: (3, true) :: (4, true) :: (5, true) :: (6, true) :: (7, true) :: (8, true) :: (9, true) :: (10, true) :: (11, true) :: (12, true) :: (13, false) :: (14, true) :: (15, true) :: (16, true) :: (17, true) :: []) (by kernel_rfl) (by kernel_rfl) (by kernel_rfl) ?_
              iterate 13 (refine wpSeq_quiet rfl rfl ?_; apply Exists.intro; refine ⟨?_, ?_⟩; (intro W hW; have c2 := hW.drewL.drewL.cell g0 (fun h => h); obtain ⟨b0, b1, b2, b3, b4, b5, b6⟩ := D6 W hW; go_simp; try with_reducible rfl); (intro K hK; simp only [Act.put, List.setIfInBounds_toArray, List.set_cons_zero, List.set_cons_succ]; refine hK _ ?_; clear hK K))
              refine wpSeq_call rfl rfl (fun K hK => ?_)
              go_simp
              have ctr := equal_calls x.c c x.l.length p.b.length O6.rd R6 rfl rfl (by omega)
              with_reducible refine Calls.mono ctr ?_
              clear ctr
              rintro e w5 ⟨rfl, x5⟩
              go_simp
              refine hK _ _ x5 ?_
              clear hK K
              iterate 4 (refine wpSeq_quiet rfl rfl ?_; apply Exists.intro; refine ⟨?_, ?_⟩; (intro W hW; go_simp; try with_reducible rfl); (intro K hK; simp only [Act.put, List.setIfInBounds_toArray, List.set_cons_zero, List.set_cons_succ]; refine hK _ ?_; clear hK K))
              refine wpSeq_end ?_
              clear D6
              have X5 := X4.drew.drew.transN x5
              go_wp2_with fail
              go_ret2
              exact ⟨⟨_, rfl⟩, X5⟩
          · obtain rfl : res = (3, 0, []) := by rw [hj0, if_pos (.inl hcc)]
            have i1 : (e.cnt != p.count) = true := by simp [hcc]
            clear hj0
            go_wp2_with fail
            refine wp_region_seq Non ((0, true) :: (1, true) :: (2, true) :: (3, true) :: (4, true) :: (5, true) :: (6, true) :: (7, true) :: (8, true) :: (9, true) :: (10, true) :: (11, true) :: []) (by kernel_rfl) (by kernel_rfl) (by kernel_rfl) ?_
            iterate 12 (refine wpSeq_quiet rfl rfl ?_; apply Exists.intro; refine ⟨?_, ?_⟩; (intro W hW; have c2 := hW.drewL.cell g1 (fun h => h); obtain ⟨b0, b1, b2, b3, b4, b5, b6⟩ := B6 W hW; have l5 := lp W hW; go_simp; try with_reducible rfl); (intro K hK; simp only [Act.put, List.setIfInBounds_toArray, List.set_cons_zero, List.set_cons_succ]; refine hK _ ?_; clear hK K))
            refine wpSeq_end ?_
            clear B6 lp
            go_wp2_with fail
            have D6 := fun W (x : Ext Non w4.drew.drew W) => pc_cellsR ((B5.drew.drew).extN_ x)
            refine wp_region_seq Non ((0, true) :: (1, true) :: (2, true) :: (3, true) :: (4, true) :: (5, true) :: (6, true) :: (7, true) :: (8, true) :: (9, true) :: (10, true) :: (11, true) :: (12, true) :: (13, false) :: (14, true) :: (15, true) :: (16, true) :: (17, true) :: []) (by kernel_rfl) (by kernel_rfl) (by kernel_rfl) ?_
            iterate 8 (refine wpSeq_quiet rfl rfl ?_; apply Exists.intro; refine ⟨?_, ?_⟩; (intro W hW; have c2 := hW.drewL.drewL.cell g0 (fun h => h); obtain ⟨b0, b1, b2, b3, b4, b5, b6⟩ := D6 W hW; go_simp; try with_reducible rfl); (intro K hK; simp only [Act.put, List.setIfInBounds_toArray, List.set_cons_zero, List.set_cons_succ]; refine hK _ ?_; clear hK K))
            iterate 5 (refine wpSeq_skip rfl rfl (fun K hK => ?_); simp only [Act.put, List.setIfInBounds_toArray, List.set_cons_zero, List.set_cons_succ]; refine hK _ ?_; clear hK K)
            iterate 1 (refine wpSeq_pass rfl rfl (fun K hK => ?_); simp only [Act.put, List.setIfInBounds_toArray, List.set_cons_zero, List.set_cons_succ]; refine hK _ ?_; clear hK K)
            iterate 2 (refine wpSeq_skip rfl rfl (fun K hK => ?_); simp only [Act.put, List.setIfInBounds_toArray, List.set_cons_zero, List.set_cons_succ]; refine hK _ ?_; clear hK K)
            iterate 2 (refine wpSeq_quiet rfl rfl ?_; apply Exists.intro; refine ⟨?_, ?_⟩; (intro W hW; go_simp; try with_reducible rfl); (intro K hK; simp only [Act.put, List.setIfInBounds_toArray, List.set_cons_zero, List.set_cons_succ]; refine hK _ ?_; clear hK K))
            refine wpSeq_end ?_
            clear D6
            go_wp2_with fail
            go_ret2
            exact ⟨⟨_, rfl⟩, X4.drew.drew⟩
  · obtain rfl : res = (1, 0, []) := by rw [← HRES.out]; unfold jchk; rw [HKI.out, if_neg hk]
    have hk2 : ¬ prt p = true ∨ ¬ ki = 1 := by
      by_cases h : prt p = true
      · exact .inr (fun h2 => hk ⟨h, h2⟩)
      · exact .inl h
    rcases hk2 with hk2 | hk2
    · have hk3 : prt p = false := by simpa using hk2
      rw [hk3]
      go_wp2_with fail
      go_ret2
      exact ⟨⟨_, rfl⟩, X1⟩
    · go_wp2_with fail
      all_goals go_ret2
      all_goals exact ⟨⟨_, rfl⟩, X1⟩
end Go.Proofs.Ytcdpmedmhindaaa
