/- A joiner takes a piece. -/
import Derived.Test.YtcdpmedmhindaaaPieQ
import Derived.Test.YtcdpmedmhindaaaSeqN
namespace Go.Proofs.Ytcdpmedmhindaaa
open Go.RowKit

def msg0 : Array Value := #[.int .u32 0, .int .u16 0, .int .u16 0, .slice none 0 0]
def msgA (p : Pc) (A : Option Addr) (n c : Nat) : Array Value := #[.int .u32 p.id, .int .u16 p.fr, .int .u16 p.bx, .slice A n c]
def msgv (p : Pc) (r : Option (List UInt8)) (A : Option Addr) (c : Nat) : Array Value := match r with | none => msg0 | some m => msgA p A m.length c
theorem msg_inf (cs : Array Value) (h : cs.size = 4) : (Try.prog.info? 55).map (·.size) = some cs.size := by rw [h]; kernel_rfl
@[go_sem ↓] theorem big_store_msg (x v : Value) : Instr.storeAt 55 x v = bigStore 55 x v := rfl
theorem results3 {P : Program} {w : World} {g : Nat} {t : TypeId} {cs : Array Value} (hb : Blk w g t cs) {fn : Func} {p u1 u2 : Tmp} {ty : TypeId} {d : TypeDesc} (h : fn.results = #[.cell p ty, .tmp u1, .tmp u2]) (tmps : Array Value) (v1 v2 : Value) (hp : tmps.getD p undef = .pointer (some ⟨g, 0, none⟩)) (hv1 : tmps.getD u1 undef = v1) (hv2 : tmps.getD u2 undef = v2)
    (hu : P.underlying ty = some d) (hd : d.isRow = true) (hi : (P.info? ty).map (·.size) = some cs.size) : (Go.results fn tmps).run P w = .ok (.tuple #[.agg cs, v1, v2]) w := by
  have e := run_loadVar_row w g t ty cs (0, 0) d hb hu (by cases d <;> simp_all [TypeDesc.isRow]) hi
  unfold Go.results
  rw [h]
  simp only [Array.getD_eq_getD_getElem?] at hp hv1 hv2
  simp [hp, hv1, hv2, asAddr, e]
theorem kyinfo : (Try.prog.info? 104).map (fun i => (i.zero, i.size, i.bytes)) = some (some (.agg #[.int .u32 0, .int .u16 0, .int .u16 0]), 3, 8) := by kernel_rfl
theorem Blk.cells_at {w : World} {g : Nat} {t : TypeId} {cs : List Value} (hb : Blk w g t cs.toArray) (j : Nat) (u : Value) (hu : cs[j]? = some u) : w.cell? ((⟨g, 0, none⟩ : Addr).add j) = some u := by
  have e : (⟨g, 0, none⟩ : Addr).add j = ⟨g, j, none⟩ := by unfold Addr.add; split <;> simp_all
  rw [e, hb.cell]
  simpa using hu
set_option maxRecDepth 100000 in
set_option maxHeartbeats 4000000 in
set_option pp.deepTerms true in
theorem take_calls {w : World} {D : Nat → Prop} {j : Nat} {J : Jn} (HJ : Jo w D j J) (p : Pc) (A : Option Addr) (c : Nat) {Dp : Nat → Prop} (hr : Rd w Dp A (bvs p.b)) (hl : p.b.length ≤ maxLen) (hpc : prt p = true → p.b.length ≤ c) :
    Calls Try.prog 23 #[.pointer (some ⟨j, 0, none⟩), .agg (pcA p A c)] w fun e w' => ∃ (D' : Nat → Prop) (Am : Option Addr) (cm : Nat),
      e = .returned (.tuple #[.agg (msgv p (jtake J p).2.2 Am cm), .bool (jtake J p).2.2.isSome, .int .i64 (((jtake J p).2.1 : Nat) : Int)]) ∧ Jo w' D' j (jtake J p).1 ∧ (∀ k, D' k → D k ∨ w.heap.size ≤ k) ∧ Ext D w w' ∧
      OwB w' w.heap.size Am cm ((jtake J p).2.2.getD []) ∧ ∀ k, ob Am = some k → ¬ D' k := by
  have hJ0 := HJ
  obtain ⟨mo, dA, dc, es, H⟩ := HJ
  have H := H.imp (D' := fun k => D k ∧ k < w.heap.size) (fun k hk h => ⟨h, hk⟩)
  obtain ⟨D1, hD1⟩ : ∃ D1 : Nat → Prop, D1 = fun k => (D k ∧ k < w.heap.size) ∨ w.heap.size + 2 ≤ k := ⟨_, rfl⟩
  have X0 := ((Ext.refl Non w).alloc (.cells (pcA p A c) 45)).alloc (.cells msg0 55)
  have B0 := (Blk.new w 45 (pcA p A c)).alloc (.cells msg0 55)
  have C0 := Blk.new (w.alloc (.cells (pcA p A c) 45)) 55 msg0
  rw [World.size_alloc] at C0
  obtain ⟨res, hres⟩ : ∃ r, jtake J p = r := ⟨_, rfl⟩
  have hok : (jtake J p).1.ok := H.ok.take p
  rw [hres] at hok ⊢
  have HRES := Lib.hid hres
  clear hres
  have ctr := fun W (x : Ext Non w W) => check_calls (H.extN x) p A c (hr.extN x) hl
  go_enter Try.func23, Try.ntmps23
  unfold pcA at X0 B0 C0 ctr ⊢
  have hm0 : msg0 = #[.int .u32 0, .int .u16 0, .int .u16 0, .slice none 0 0] := rfl
  rw [hm0] at X0 B0 C0
  go_upto_region 1 with (fail)
  generalize hv : (w.alloc (.cells #[.int .i64 p.kind, .int .u32 p.id, .int .u16 p.fr, .int .u16 p.bx, .int .i64 p.place, .int .i64 p.count, .slice A p.b.length c] 45)).alloc (.cells #[.int .u32 0, .int .u16 0, .int .u16 0, .slice none 0 0] 55) = v at *
  have ctr := ctr v X0
  have cs0 := pc_cellsR B0
  obtain ⟨b0, b1, b2, b3, b4, b5, b6⟩ := cs0
  go_wp2_with fail
  with_reducible refine Calls.mono ctr ?_
  clear ctr b0 b1 b2 b3 b4 b5 b6
  rintro e w1 ⟨vp, rfl, x1, hchk⟩
  have X1 := X0.transN x1
  have B1 := B0.extN_ x1
  have C1 := C0.extN_ x1
  obtain ⟨er, her⟩ : ∃ r, (jchk J p).1 = r := ⟨_, rfl⟩
  rw [her] at hchk
  simp only [her]
  by_cases he0 : er = 0
  · subst he0
    have H1 := (H.extN X0)
    obtain ⟨e0, rfl, ho, E0, hmo, hdis, hlk⟩ := chk_ent H1 (hchk rfl) x1
    have hvs : v.heap.size = w.heap.size + 2 := by rw [← hv, World.size_alloc, World.size_alloc]
    have hvs1 : w.heap.size + 2 ≤ w1.heap.size := by rw [← hvs]; exact x1.size
    have E1 : Ent w1 D1 e0 := E0.imp (fun k _ h => by
      rw [hD1]
      exact h.imp id (fun h => by omega))
    have H2 : JoE w1 D1 j J mo dA dc es := (H1.extN x1).imp (fun k _ h => by rw [hD1]; exact .inl h)
    have hrt := (jchk_opn her).1
    have hbd := chk_bounds H.ok her
    rw [ho] at hbd
    have hbd1 : 0 ≤ e0.cnt := hbd.1
    have hbd2 : e0.cnt ≤ 17 := hbd.2.1
    have hb244 := (prt_facts hrt).2.2.2
    have hbc := hpc hrt
    have hres2 : res = jput J p e0.cnt e0.opn.2 := by
      rw [← HRES.out]
      unfold jtake
      rw [if_pos her, ho]
      rfl
    clear hchk E0 HRES H1
    have R1 := hr.extN X1
    have g1 : w1.cell? ⟨e0.p, 1, none⟩ = some (.map (some e0.m)) := E1.blk.cell 1
    have B2 := fun W (x : Ext (One e0.m) w1.drew W) => pc_cellsR ((B1.drew).ext x (fun hh => E1.mp.ne_blk B1 hh.symm))
    go_wp2_with fail
    refine wp_region_seq (One e0.m) ((0, true) :: (1, true) :: (2, true) :: (3, true) :: (4, true) :: (5, true) :: (6, true) :: (7, true) :: (8, false) :: (9, false) :: []) (by kernel_rfl) (by kernel_rfl) (by kernel_rfl) ?_
    iterate 8 (refine wpSeq_quiet rfl rfl ?_; apply Exists.intro; refine ⟨?_, ?_⟩; (intro W hW; have c1 := (E1.blk.keepM E1.mp hW.drewL).cell 1; obtain ⟨b0, b1, b2, b3, b4, b5, b6⟩ := B2 W hW; go_simp; try with_reducible rfl); (intro K hK; simp only [Act.put, List.setIfInBounds_toArray, List.set_cons_zero, List.set_cons_succ]; refine hK _ ?_; clear hK K))
    refine wpSeq_call rfl rfl (fun K hK => ?_)
    go_simp
    have ctr := clone_calls c p.b.length (R1.extN (Ext.refl Non w1).drew) rfl (by omega)
    with_reducible refine Calls.mono ctr ?_
    clear ctr
    rintro e w2 ⟨A2, c2, rfl, O2, x2⟩
    go_simp
    refine hK _ _ x2.offN ?_
    clear hK K
    have x12 := x2.drewL
    have E2 := E1.extN x12
    obtain ⟨w3, hrun, M3, x3⟩ := E2.mp.update ke_iv Try.underlying100 p.place (.slice A2 p.b.length c2)
    unfold iv at hrun
    refine wpSeq_call rfl rfl (fun K hK => ?_)
    go_simp
    refine hK _ _ x3 ?_
    clear hK K hrun
    refine wpSeq_end ?_
    have hw1 : w.heap.size ≤ w1.heap.size := X1.size
    have hO2 : ∀ k, ob A2 = some k → D1 k := fun k hk => by
      rw [hD1]
      exact .inr (Nat.le_trans hvs1 (O2.lt hk).1)
    have E3 := E2.put_ p.place (O2.lower (base' := 0) (fun _ _ => Nat.zero_le _)) hO2 M3 x3
    have hop := put_opn e0 A2 c2 p.b p.place
    obtain ⟨e1, he1⟩ : ∃ e1, ({ e0 with pl := mput p.place ⟨A2, c2, p.b⟩ e0.pl } : En) = e1 := ⟨_, rfl⟩
    have hp1 : e1.p = e0.p := by rw [← he1]
    have hm1 : e1.m = e0.m := by rw [← he1]
    have hc1 : e1.cnt = e0.cnt := by rw [← he1]
    rw [he1] at E3 hop
    have B3 := (B1.extN_ x12).keepM E2.mp x3
    have C3 := (C1.extN_ x12).keepM E2.mp x3
    have H3 := H2.extN x12
    have X3 : Ext D w w3 := ((X1.transN x12).imp (fun _ _ h => h.elim)).trans x3 (fun k hk h => by
      have h : k = e0.m := h
      have h2 := E1.dm
      rw [← h, hD1] at h2
      exact (h2.resolve_right (by omega)).1)
    obtain ⟨n3, hn3⟩ : ∃ n, (mput p.place p.b e0.opn.2).length = n := ⟨_, rfl⟩
    have hn1 : e1.pl.length = n3 := by
      rw [← hn3]
      have := congrArg (fun o : Opn => o.2.length) hop
      simpa [En.opn] using this
    have hlen := fun W (x : Ext Non w3 W) => (E3.mp.extN x).len (P := Try.prog) Try.underlying100 3
    simp only [List.length_map, hn1, hm1] at hlen
    have g0 : w3.cell? ⟨e0.p, 0, none⟩ = some (.int .i64 e0.cnt) := by have := E3.blk.cell 0; rw [hp1, hc1] at this; exact this
    have g1 : w3.cell? ⟨e0.p, 1, none⟩ = some (.map (some e0.m)) := by have := E3.blk.cell 1; rw [hp1, hm1] at this; exact this
    clear B1 C1 B2 R1 x2 he1
    go_wp2_with fail
    refine wp_region_seq Non ((0, true) :: (1, true) :: (2, true) :: (3, true) :: (4, true) :: (5, true) :: (6, true) :: (7, true) :: (8, true) :: (9, true) :: []) (by kernel_rfl) (by kernel_rfl) (by kernel_rfl) ?_
    iterate 10 (refine wpSeq_quiet rfl rfl ?_; apply Exists.intro; refine ⟨?_, ?_⟩; (intro W hW; have c0 := hW.drewL.cell g0 (fun h => h); have c1 := hW.drewL.cell g1 (fun h => h); have l3 := hlen W hW.drewL; go_simp; try with_reducible rfl); (intro K hK; simp only [Act.put, List.setIfInBounds_toArray, List.set_cons_zero, List.set_cons_succ]; refine hK _ ?_; clear hK K))
    refine wpSeq_end ?_
    clear g0 g1 hlen
    have hres3 : res = if (n3 : Int) < e0.cnt then ({ J with opn := mput p.key (e0.cnt, mput p.place p.b e0.opn.2) J.opn }, 0, none)
        else ({ J with opn := mers p.key J.opn, done := last64 (J.done ++ [p.key]) }, 0, some (whole e0.cnt (mput p.place p.b e0.opn.2))) := by
      rw [hres2, ← hn3]
      rfl
    have ctk := fun W => key_calls W p A c
    unfold pcA at ctk
    have hj1 : w3.cell? ⟨j, 1, none⟩ = some (.map (some mo)) := (H3.blk.keepM E2.mp x3).cell 1
    have Mo3 : Mp kyv w3 mo _ := H3.mp.keepM E2.mp x3 (fun h => hmo h.symm)
    by_cases hlt : (n3 : Int) < e0.cnt
    · obtain rfl : res = _ := by rw [hres3, if_pos hlt]
      clear hres2 hres3
      have B4 := fun W (x : Ext (One mo) w3.drew.drew W) => pc_cellsR ((B3.drew.drew).ext x (fun hh => Mo3.ne_blk B3 hh.symm))
      have j4 := fun W (x : Ext (One mo) w3.drew.drew W) => ((H3.blk.keepM E2.mp x3).drew.drew).ext x (fun hh => Mo3.ne_blk (H3.blk.keepM E2.mp x3) hh.symm)
      go_wp2_with fail
      refine wp_region_seq (One mo) ((0, true) :: (1, true) :: (2, true) :: (3, true) :: (4, true) :: (6, true) :: (5, false) :: (7, false) :: []) (by kernel_rfl) (by kernel_rfl) (by kernel_rfl) ?_
      iterate 6 (refine wpSeq_quiet rfl rfl ?_; apply Exists.intro; refine ⟨?_, ?_⟩; (intro W hW; have c1 := (j4 W hW).cell 1; obtain ⟨b0, b1, b2, b3, b4, b5, b6⟩ := B4 W hW; go_simp; try with_reducible rfl); (intro K hK; simp only [Act.put, List.setIfInBounds_toArray, List.set_cons_zero, List.set_cons_succ]; refine hK _ ?_; clear hK K))
      refine wpSeq_call rfl rfl (fun K hK => ?_)
      go_simp
      have ctr := ctk w3.drew.drew
      with_reducible refine Calls.mono ctr ?_
      clear ctr
      rintro e w4 ⟨rfl, x4⟩
      go_simp
      refine hK _ _ x4.offN ?_
      clear hK K
      obtain ⟨w5, hrun, M5, x5⟩ := (Mo3.extN x4.drewL.drewL).update ke_ky Try.underlying91 p.key (.pointer (some ⟨e0.p, 0, none⟩))
      unfold kyv at hrun
      have hrun2 : (Instr.mapUpdate 91 (.map (some mo)) (.agg #[.int .u32 p.id, .int .u16 p.fr, .int .u16 p.bx]) (.pointer (some ⟨e0.p, 0, none⟩))).run Try.prog w4 = .ok () w5 := hrun
      clear hrun
      refine wpSeq_call rfl rfl (fun K hK => ?_)
      go_simp
      refine hK _ _ x5 ?_
      clear hK K hrun2
      refine wpSeq_end ?_
      have E3' : Ent w4 D1 e1 := E3.extN x4.drewL.drewL
      have X34 := x4.drewL.drewL
      have H5 : JoE w5 D1 j { J with opn := mput p.key (e0.cnt, mput p.place p.b e0.opn.2) J.opn } mo dA dc (mput p.key e1 es) := by
        refine JoE.keep H3 (k := p.key) (e1 := e1) (w3 := w4) (by rw [hm1]; exact E2.mp) (by rw [hm1]; exact x3.transN X34) E3' (by rw [hm1]; exact hmo) (fun y hy hk => by rw [hm1]; exact hdis y hy hk) (by rw [hp1]; exact M5) x5 hok rfl rfl ?_
        rw [hop]
      have C5 := ((C3.extN_ X34).keepM (Mo3.extN X34) x5)
      have X5 : Ext D w w5 := (X3.transN X34).trans x5 (fun k hk h => by
        have h : k = mo := h
        subst h
        have h2 := H2.dmo
        rw [hD1] at h2
        exact (h2.resolve_right (by omega)).1)
      have st := C5.big_store (P := Try.prog) (ty := 55) (cs' := #[.int .u32 0, .int .u16 0, .int .u16 0, .slice none 0 0]) rfl (msg_inf _ rfl) (by simp [Value.oneCell'])
      have C6 := C5.setRow #[.int .u32 0, .int .u16 0, .int .u16 0, .slice none 0 0]
      have X6 := X5.setRow (.inl (Nat.le_succ _)) (g := w.heap.size + 1) #[.int .u32 0, .int .u16 0, .int .u16 0, .slice none 0 0]
      have H6 := H5.ext ((Ext.refl (One (w.heap.size + 1)) w5).setRow (.inr rfl) #[.int .u32 0, .int .u16 0, .int .u16 0, .slice none 0 0]) (fun k hk h => by
        have h : k = w.heap.size + 1 := h
        rw [hD1] at hk
        rcases hk with hk | hk
        · omega
        · omega)
      clear H5 C5 X5 M5 x5 C3 X3 E3 E3' H3 H2 E1 E2 Mo3
      go_wp2_with fail
      exact bodyPost_ret (results3 C6 Try.results23 _ _ _ rfl rfl rfl Try.underlying55 rfl (msg_inf _ rfl)) rfl ⟨D1, none, 0, rfl, ⟨_, _, _, _, H6⟩, fun k hk => by
        rw [hD1] at hk
        exact hk.imp (fun h => h.1) (fun h => by omega), X6, OwB.nil _ _, fun k hk => by cases hk⟩
    · obtain ⟨lw, hlw⟩ : ∃ l, whole e0.cnt (mput p.place p.b e0.opn.2) = l := ⟨_, rfl⟩
      obtain rfl : res = ({ J with opn := mers p.key J.opn, done := last64 (J.done ++ [p.key]) }, 0, some lw) := by rw [hres3, if_neg hlt, hlw]
      clear hres2 hres3
      have hs1 : ∀ x ∈ e1.pl, x.2.l.length ≤ 244 := by
        intro x hx
        have h1 : (x.1, x.2.l) ∈ e1.opn.2 := List.mem_map.2 ⟨x, hx, rfl⟩
        rw [hop] at h1
        rcases mput_mem h1 with h1 | h1
        · injection h1 with _ h1
          rw [h1]
          exact hb244
        · exact hbd.2.2 _ h1
      have hlw2 : whole e1.cnt e1.opn.2 = lw := by rw [hop, hc1]; exact hlw
      have B4 := fun W (x : Ext (One mo) w3.drew.drew W) => pc_cellsR ((B3.drew.drew).ext x (fun hh => Mo3.ne_blk B3 hh.symm))
      have j4 := fun W (x : Ext (One mo) w3.drew.drew W) => ((H3.blk.keepM E2.mp x3).drew.drew).ext x (fun hh => Mo3.ne_blk (H3.blk.keepM E2.mp x3) hh.symm)
      go_wp2_with fail
      refine wp_region_seq (One mo) ((0, true) :: (1, true) :: (2, true) :: (3, true) :: (4, true) :: (5, false) :: (6, false) :: []) (by kernel_rfl) (by kernel_rfl) (by kernel_rfl) ?_
      iterate 5 (refine wpSeq_quiet rfl rfl ?_; apply Exists.intro; refine ⟨?_, ?_⟩; (intro W hW; have c1 := (j4 W hW).cell 1; obtain ⟨b0, b1, b2, b3, b4, b5, b6⟩ := B4 W hW; go_simp; try with_reducible rfl); (intro K hK; simp only [Act.put, List.setIfInBounds_toArray, List.set_cons_zero, List.set_cons_succ]; refine hK _ ?_; clear hK K))
      refine wpSeq_call rfl rfl (fun K hK => ?_)
      go_simp
      have ctr := ctk w3.drew.drew
      with_reducible refine Calls.mono ctr ?_
      clear ctr
      rintro e w4 ⟨rfl, x4⟩
      go_simp
      refine hK _ _ x4.offN ?_
      clear hK K
      have X34 := x4.drewL.drewL
      obtain ⟨w5, hrun, M5, x5⟩ := (Mo3.extN X34).delete ke_ky Try.underlying91 p.key 104 0
      unfold kyv at hrun
      have hrun2 : (Builtin.delete_ #[91, 104] 0 #[.map (some mo), (.agg #[.int .u32 p.id, .int .u16 p.fr, .int .u16 p.bx])]).run Try.prog w4 = .ok (.tuple #[]) w5 := hrun
      clear hrun
      refine wpSeq_call rfl rfl (fun K hK => ?_)
      go_simp
      refine hK _ _ x5 ?_
      clear hK K hrun2
      refine wpSeq_end ?_
      have Bj5 : Blk w5 j 94 #[.int .i64 J.room, .map (some mo), .slice dA J.done.length dc] := ((H3.blk.keepM E2.mp x3).extN_ X34).keepM (Mo3.extN X34) x5
      have O5 : OwO 104 3 w5 0 dA J.done.length dc (J.done.flatMap kyL) := ((H3.done.keepM E2.mp x3).extN X34).keepM (Mo3.extN X34) x5
      have E5 : Ent w5 D1 e1 := (E3.extN X34).keepM (Mo3.extN X34) x5 (by rw [hm1]; exact hmo)
      have B5 := (B3.extN_ X34).keepM (Mo3.extN X34) x5
      have C5 := (C3.extN_ X34).keepM (Mo3.extN X34) x5
      have X5 : Ext D w w5 := (X3.transN X34).trans x5 (fun k hk h => by
        have h : k = mo := h
        subst h
        have h2 := H2.dmo
        rw [hD1] at h2
        exact (h2.resolve_right (by omega)).1)
      have hX5 : w.heap.size + 2 ≤ w5.heap.size := Nat.le_trans hvs1 (Nat.le_trans x12.size (Nat.le_trans x3.size (Nat.le_trans X34.size x5.size)))
      have hfew := H.ok.few
      have f2 : w5.cell? ⟨j, 2, none⟩ = some (.slice dA J.done.length dc) := Bj5.cell 2
      obtain ⟨b0, b1, b2, b3, b4, b5, b6⟩ := pc_cellsR B5
      clear B4 j4 x4
      go_wp2_with fail
      clear b0 b1 b2 b3 b4 b5 b6
      have hnA : ∀ i t cs, Blk w5 i t cs → t ≠ 104 → ¬ ob dA = some i := by
        intro i t cs hb h2 h
        obtain ⟨cs', hb'⟩ := O5.blk h
        exact hb.ne_ hb' h2 rfl
      have j6 := fun W (x : Ext (fun i => ob dA = some i) w5.drew W) => (Bj5.drew.ext x (hnA _ _ _ Bj5 (by decide)))
      have B6 := fun W (x : Ext (fun i => ob dA = some i) w5.drew W) => pc_cellsR (B5.drew.ext x (hnA _ _ _ B5 (by decide)))
      refine wp_region_seqN (fun W => Ext (fun i => ob dA = some i) w5.drew W) 9 ((0, true) :: (1, true) :: (2, true) :: (3, true) :: (4, true) :: (5, true) :: (6, false) :: (7, false) :: (8, false) :: []) ((9, true) :: (10, true) :: (11, false) :: []) (by kernel_rfl) (by kernel_rfl) (by kernel_rfl) (by kernel_rfl) (Ext.refl _ _) ?_
      iterate 6 (refine wpSeqE_quiet rfl rfl ?_; apply Exists.intro; refine ⟨?_, ?_⟩; (intro W hW; have c2 := (j6 W hW).cell 2; obtain ⟨b0, b1, b2, b3, b4, b5, b6⟩ := B6 W hW; go_simp; try with_reducible rfl); (intro K hK; simp only [Act.put, List.setIfInBounds_toArray, List.set_cons_zero, List.set_cons_succ]; refine hK _ ?_; clear hK K))
      refine wpSeqE_call rfl rfl (fun K hK => ?_)
      go_simp
      have ctr := ctk w5.drew
      with_reducible refine Calls.mono ctr ?_
      clear ctr
      rintro e w6 ⟨rfl, x6⟩
      go_simp
      refine hK _ _ x6.offN ?_
      clear hK K
      refine wpSeqE_call rfl rfl (fun K hK => ?_)
      go_simp
      refine hK _ _ (x6.offN.alloc _) ?_
      clear hK K
      have O7 := (O5.extN x6.drewL).extN ((Ext.refl Non w6).alloc (.cells #[.int .u32 p.id, .int .u16 p.fr, .int .u16 p.bx] 104))
      have K7 := Blk.cells_at (cs := kyL p.key) (Blk.new w6 104 #[.int .u32 p.id, .int .u16 p.fr, .int .u16 p.bx])
      obtain ⟨A8, c8, w8, hrun, O8, x8, hob8⟩ := run_apO (P := Try.prog) (m := 1) Try.underlying92 kyinfo rfl 92 O7 K7 rfl (by intro u hu; simp [kyL] at hu; rcases hu with rfl | rfl | rfl <;> rfl) 1 (by omega) (by decide) (Nat.zero_le _)
      have x58 : Ext (fun i => ob dA = some i) w5 w8 := ((x6.offN.alloc _).trans' x8).drewL
      refine wpSeqE_call rfl rfl (fun K hK => ?_)
      refine op_app _ _ rfl rfl rfl hrun ?_
      simp only [Act.put, List.setIfInBounds_toArray, List.set_cons_zero, List.set_cons_succ]
      refine hK _ _ (((x6.offN).alloc _).trans' x8) ?_
      clear hK K
      refine wpSeqE_end ?_
      have Bj8 := Bj5.ext x58 (hnA _ _ _ Bj5 (by decide))
      have cj := Bj8.cell 2
      have fj := Bj8.frozen 2
      have hcj : (#[.int .i64 J.room, .map (some mo), .slice dA J.done.length dc] : Array Value)[2]? = some (.slice dA J.done.length dc) := rfl
      rw [hcj] at cj
      clear hcj hrun K7 O7 B6 j6
      iterate 2 (refine wpSeqP_quiet rfl rfl ?_; apply Exists.intro; refine ⟨?_, ?_⟩; (intro W hW; go_simp; try with_reducible rfl); (intro K hK; simp only [Act.put, List.setIfInBounds_toArray, List.set_cons_zero, List.set_cons_succ]; refine hK _ ?_; clear hK K))
      refine wpSeqP_call rfl rfl (fun K hK => ?_)
      go_simp
      refine hK _ _ trivial ?_
      clear hK K cj fj
      refine wpSeqP_end ?_
      have Bj9 : Blk (w8.setCell ⟨j, 2, none⟩ (.slice A8 (J.done.length + 1) c8)) j 94 #[.int .i64 J.room, .map (some mo), .slice A8 (J.done.length + 1) c8] := Bj8.set_ 2 _
      have hA8j : ¬ ob A8 = some j := by
        intro h
        obtain ⟨cs', hb'⟩ := O8.blk h
        exact Bj8.ne_ hb' (by decide) rfl
      have O9 : OwO 104 3 (w8.setCell ⟨j, 2, none⟩ (.slice A8 (J.done.length + 1) c8)) 0 A8 (J.done.length + 1) c8 (J.done.flatMap kyL ++ kyL p.key) := O8.ext ((Ext.refl (One j) w8).setCell (p := ⟨j, 2, none⟩) (.inr rfl) _) (fun k hk h => by
        have h : k = j := h
        rw [h] at hk
        exact hA8j hk)
      have x59 : Ext (fun i => i = j ∨ ob dA = some i) w5 (w8.setCell ⟨j, 2, none⟩ (.slice A8 (J.done.length + 1) c8)) := (x58.imp (fun k _ h => .inr h)).setCell (p := ⟨j, 2, none⟩) (.inr (.inl rfl)) _
      have cj : (w8.setCell ⟨j, 2, none⟩ (.slice A8 (J.done.length + 1) c8)).cell? ⟨j, 2, none⟩ = some (.slice A8 (J.done.length + 1) c8) := Bj9.cell 2
      have fj : (w8.setCell ⟨j, 2, none⟩ (.slice A8 (J.done.length + 1) c8)).frozen? ⟨j, 2, none⟩ = false := Bj9.frozen 2
      have hA8 : A8.isSome = true := by
        rcases O8.ex with ⟨_, h0⟩ | ⟨g, off, cur, rfl, _⟩
        · have := O8.le; omega
        · rfl
      have hle8 := O8.le
      have hDA8 : ∀ i, ob A8 = some i → D1 i := by
        intro i hi
        rcases hob8 with h | h
        · rw [h] at hi
          exact H2.dd i hi
        · rw [h] at hi
          have hi : (w6.alloc (.cells #[.int .u32 p.id, .int .u16 p.fr, .int .u16 p.bx] 104)).heap.size = i := Option.some.inj hi
          have h6 := x6.size
          rw [World.size_alloc] at hi
          have hi2 : w5.heap.size ≤ w6.heap.size := h6
          rw [hD1]
          right
          omega
      clear O8 Bj8 x8
      generalize (w8.setCell ⟨j, 2, none⟩ (.slice A8 (J.done.length + 1) c8)) = w9 at *
      have hll : J.done.length = J.done.length := rfl
      generalize hnl : J.done.length = nd at *
      have cw : ∀ W, Ext Non w9.drew W → W.cell? ⟨j, 2, none⟩ = some (.slice A8 (nd + 1) c8) := fun W x => x.cell cj (fun h => h)
      by_cases h64 : nd = 64
      · subst h64
        have v1 : IntKind.i64.wrap 1 = 1 := by decide
        have v2 : ¬ c8 = 1 := by omega
        have hlA : (last64 (J.done ++ [p.key])).length = 64 := by
          rw [last64, List.length_drop, List.length_append, hnl]
          rfl
        have hx64 : (J.done.flatMap kyL ++ kyL p.key).drop (1 * 3) = (last64 (J.done ++ [p.key])).flatMap kyL := by
          have e : last64 (J.done ++ [p.key]) = (J.done ++ [p.key]).drop 1 := by
            unfold last64
            rw [List.length_append, hnl]
            rfl
          have e2 : J.done.flatMap kyL ++ kyL p.key = (J.done ++ [p.key]).flatMap kyL := by rw [List.flatMap_append]; simp
          rw [e, e2]
          cases hdn : J.done with
          | nil => rw [hdn] at hnl; cases hnl
          | cons y ys => rfl
        have obm : ∀ {i : Nat}, ob (A8.map (fun x => (⟨x.block, x.off + 3, none⟩ : Addr))) = some i → ob A8 = some i := by
          intro i h
          cases A8 with
          | none => cases h
          | some a => exact h
        go_wp2_with fail
        refine wp_region_seqN (fun W => Ext Non w9.drew W) 13 ((0, true) :: (1, true) :: (2, true) :: (3, true) :: (4, true) :: (5, true) :: (6, true) :: (7, true) :: (8, true) :: (9, true) :: (10, true) :: (11, true) :: (12, true) :: []) ((13, true) :: (14, true) :: (15, false) :: []) (by kernel_rfl) (by kernel_rfl) (by kernel_rfl) (by kernel_rfl) (Ext.refl _ _) ?_
        iterate 13 (refine wpSeqE_quiet rfl rfl ?_; apply Exists.intro; refine ⟨?_, ?_⟩; (intro W hW; have c2 := cw W hW; go_simp; try with_reducible rfl); (intro K hK; simp only [Act.put, List.setIfInBounds_toArray, List.set_cons_zero, List.set_cons_succ]; refine hK _ ?_; clear hK K))
        refine wpSeqE_end ?_
        iterate 2 (refine wpSeqP_quiet rfl rfl ?_; apply Exists.intro; refine ⟨?_, ?_⟩; (intro W hW; go_simp; try with_reducible rfl); (intro K hK; simp only [Act.put, List.setIfInBounds_toArray, List.set_cons_zero, List.set_cons_succ]; refine hK _ ?_; clear hK K))
        have cjd : w9.drew.cell? ⟨j, 2, none⟩ = some (.slice A8 (65) c8) := cj
        have fjd : w9.drew.frozen? ⟨j, 2, none⟩ = false := fj
        refine wpSeqP_call rfl rfl (fun K hK => ?_)
        go_simp
        refine hK _ _ trivial ?_
        clear hK K cjd fjd cw
        refine wpSeqP_end ?_
        have Bj10 : Blk (w9.setCell ⟨j, 2, none⟩ (.slice (A8.map (fun x : Addr => (⟨x.block, x.off + 3, none⟩ : Addr))) 64 (c8 - 1))).drew j 94 #[.int .i64 J.room, .map (some mo), .slice (A8.map (fun x : Addr => (⟨x.block, x.off + 3, none⟩ : Addr))) 64 (c8 - 1)] := (Bj9.set_ 2 _).drew
        have O10 := (O9.drop 1 (by decide) hA8 (by omega)).ext (((Ext.refl (One j) w9).setCell (p := ⟨j, 2, none⟩) (.inr rfl) (.slice (A8.map (fun x : Addr => (⟨x.block, x.off + 3, none⟩ : Addr))) 64 (c8 - 1))).drew) (fun k hk h => by
          have h : k = j := h
          rw [h] at hk
          exact hA8j (obm hk))
        have x510 : Ext (fun i => i = j ∨ ob dA = some i) w5 (w9.setCell ⟨j, 2, none⟩ (.slice (A8.map (fun x : Addr => (⟨x.block, x.off + 3, none⟩ : Addr))) 64 (c8 - 1))).drew := (x59.setCell (p := ⟨j, 2, none⟩) (.inr (.inl rfl)) _).drew
        have hD10 : ∀ i, ob (A8.map (fun x : Addr => (⟨x.block, x.off + 3, none⟩ : Addr))) = some i → D1 i := fun i hi => hDA8 i (obm hi)
        have hlast : 64 = (last64 (J.done ++ [p.key])).length := by exact hlA.symm
        rw [show (((J.done.flatMap kyL ++ kyL p.key).drop (1 * 3))) = (last64 (J.done ++ [p.key])).flatMap kyL from by exact hx64] at O10
        clear cj fj Bj9 O9 x59 v1 hA8 hle8
        generalize (w9.setCell ⟨j, 2, none⟩ (.slice (A8.map (fun x : Addr => (⟨x.block, x.off + 3, none⟩ : Addr))) 64 (c8 - 1))).drew = w10 at *
        have O10 : OwO 104 3 w10 0 (A8.map (fun x : Addr => (⟨x.block, x.off + 3, none⟩ : Addr))) 64 (c8 - 1) ((last64 (J.done ++ [p.key])).flatMap kyL) := O10
        rw [hlast] at O10 Bj10
        clear hlast hlA
        have E10 := E5.keepJ Bj5 O5 x510
        have H10 := JoE.tell H3 (J' := { J with opn := mers p.key J.opn, done := last64 (J.done ++ [p.key]) }) E2.mp (x3.transN X34) hmo hdis M5 x5 x510 Bj10 O10 hD10 hok rfl rfl
        have B10 := B5.ext x510 (fun h => h.elim (fun h => B5.ne_ Bj5 (by decide) h) (fun h => hnA _ _ _ B5 (by decide) h))
        have C10 := C5.ext x510 (fun h => h.elim (fun h => C5.ne_ Bj5 (by decide) h) (fun h => hnA _ _ _ C5 (by decide) h))
        have X10 : Ext D w w10 := X5.trans x510 (fun i hi h => by
          rcases h with h | h
          · rw [h]
            exact H.dj.1
          · exact (H.dd i h).1)
        have hX10 : w.heap.size + 2 ≤ w10.heap.size := Nat.le_trans hX5 x510.size
        clear H3 E2 M3 M5 x5 x510 Bj10 O10 hD10 E5 B5 C5 X5 Mo3 X34 x3 x6 B3 C3 E3 Bj5 O5 hnA hA8j hDA8 hob8 x58 hdis hj1 X3 hX5 H2 hbd
        have J10 : Jo w10 (fun k => D1 k ∧ k < w10.heap.size) j { J with opn := mers p.key J.opn, done := last64 (J.done ++ [p.key]) } := Jo.imp ⟨_, _, _, _, H10⟩ (fun k hk h => ⟨h, hk⟩)
        have ctw := fun W (x : Ext Non w10 W) => whole_calls (E10.extN x) hs1 (by rw [hc1]; exact hbd1) (by rw [hc1]; exact hbd2) lw hlw2
        simp only [hp1] at ctw
        have B11 := fun W (x : Ext Non w10.drew W) => pc_cellsR (B10.drew.extN_ x)
        clear H10 E10 hlw2 hlw hs1 hop
        go_wp2_with fail
        refine wp_region_seqN (fun W => Ext Non w10.drew W) 9 ((0, true) :: (1, true) :: (2, true) :: (3, true) :: (4, true) :: (5, true) :: (6, true) :: (7, false) :: (8, true) :: []) ((9, false) :: (10, true) :: (11, true) :: []) (by kernel_rfl) (by kernel_rfl) (by kernel_rfl) (by kernel_rfl) (Ext.refl _ _) ?_
        iterate 7 (refine wpSeqE_quiet rfl rfl ?_; apply Exists.intro; refine ⟨?_, ?_⟩; (intro W hW; obtain ⟨b0, b1, b2, b3, b4, b5, b6⟩ := B11 W hW; go_simp; try with_reducible rfl); (intro K hK; simp only [Act.put, List.setIfInBounds_toArray, List.set_cons_zero, List.set_cons_succ]; refine hK _ ?_; clear hK K))
        refine wpSeqE_call rfl rfl (fun K hK => ?_)
        go_simp
        have ctr := ctw w10.drew (Ext.refl _ _).drew
        with_reducible refine Calls.mono ctr ?_
        clear ctr
        rintro e w11 ⟨Am, cm, rfl, Om, x11⟩
        go_simp
        refine hK _ _ x11 ?_
        clear hK K
        iterate 1 (refine wpSeqE_quiet rfl rfl ?_; apply Exists.intro; refine ⟨?_, ?_⟩; (intro W hW; go_simp; try with_reducible rfl); (intro K hK; simp only [Act.put, List.setIfInBounds_toArray, List.set_cons_zero, List.set_cons_succ]; refine hK _ ?_; clear hK K))
        refine wpSeqE_end ?_
        have C11 := C10.extN_ x11.drewL
        have hm11 : ∀ k, ob Am = some k → w10.heap.size ≤ k := fun k hk => (Om.lt hk).1
        have st := C11.big_store (P := Try.prog) (ty := 55) (cs' := #[.int .u32 p.id, .int .u16 p.fr, .int .u16 p.bx, .slice Am lw.length cm]) rfl (msg_inf _ rfl) (by simp [Value.oneCell'])
        have C12 := C11.setRow #[.int .u32 p.id, .int .u16 p.fr, .int .u16 p.bx, .slice Am lw.length cm]
        have y12 := (Ext.refl (One (w.heap.size + 1)) w11).setRow (.inr rfl) #[.int .u32 p.id, .int .u16 p.fr, .int .u16 p.bx, .slice Am lw.length cm]
        have X12 := (X10.transN x11.drewL).setRow (.inl (Nat.le_succ _)) (g := w.heap.size + 1) #[.int .u32 p.id, .int .u16 p.fr, .int .u16 p.bx, .slice Am lw.length cm]
        refine wpSeqP_call rfl rfl (fun K hK => ?_)
        go_simp
        refine hK _ _ trivial ?_
        clear hK K st
        iterate 2 (refine wpSeqP_quiet rfl rfl ?_; apply Exists.intro; refine ⟨?_, ?_⟩; (intro W hW; go_simp; try with_reducible rfl); (intro K hK; simp only [Act.put, List.setIfInBounds_toArray, List.set_cons_zero, List.set_cons_succ]; refine hK _ ?_; clear hK K))
        refine wpSeqP_end ?_
        have J12 := (J10.extN x11.drewL).ext y12 (fun k hk h => by
          have h : k = w.heap.size + 1 := h
          have hk := hk.1
          rw [hD1] at hk
          rcases hk with hk | hk <;> omega)
        have O12 := (Om.ext y12 (fun k hk h => by
          have h : k = w.heap.size + 1 := h
          have := hm11 k hk
          omega)).lower (base' := w.heap.size) (fun k hk => by
          have := hm11 k hk
          omega)
        go_wp2_with fail
        exact bodyPost_ret (results3 C12 Try.results23 _ _ _ rfl rfl rfl Try.underlying55 rfl (msg_inf _ rfl)) rfl ⟨_, Am, cm, rfl, J12, fun k hk => by
          have hk := hk.1
          rw [hD1] at hk
          exact hk.imp (fun h => h.1) (fun h => by omega), X12, O12, fun k hk h => by
          have := hm11 k hk
          have := h.2
          omega⟩
      · have i1 : ((nd : Int) + 1 - 64) ≤ 0 := by omega
        have i3 : (0 : Int) ≤ (nd : Int) + 1 := by omega
        have hlA : (last64 (J.done ++ [p.key])).length = nd + 1 := by
          rw [last64, List.length_drop, List.length_append, hnl]
          simp
          omega
        have hxs : J.done.flatMap kyL ++ kyL p.key = (last64 (J.done ++ [p.key])).flatMap kyL := by
          have e : last64 (J.done ++ [p.key]) = J.done ++ [p.key] := by
            unfold last64
            rw [List.length_append, hnl, show nd + [p.key].length - 64 = 0 from by simp; omega, List.drop_zero]
          rw [e, List.flatMap_append]
          simp
        have i2 : (if (64 : Int) < (nd : Int) + 1 then (nd : Int) + 1 - 64 else 0) = 0 := if_neg (by omega)
        have v1 : IntKind.i64.wrap ((nd : Int) + 1 - 64) = (nd : Int) + 1 - 64 := by rw [IntKind.wrap_i64]; omega
        go_wp2_with fail
        refine wp_region_seqN (fun W => Ext Non w9.drew W) 13 ((0, true) :: (1, true) :: (2, true) :: (3, true) :: (4, true) :: (5, true) :: (6, true) :: (7, true) :: (8, true) :: (9, true) :: (10, true) :: (11, true) :: (12, true) :: []) ((13, true) :: (14, true) :: (15, false) :: []) (by kernel_rfl) (by kernel_rfl) (by kernel_rfl) (by kernel_rfl) (Ext.refl _ _) ?_
        iterate 13 (refine wpSeqE_quiet rfl rfl ?_; apply Exists.intro; refine ⟨?_, ?_⟩; (intro W hW; have c2 := cw W hW; go_simp; try with_reducible rfl); (intro K hK; simp only [Act.put, List.setIfInBounds_toArray, List.set_cons_zero, List.set_cons_succ]; refine hK _ ?_; clear hK K))
        refine wpSeqE_end ?_
        iterate 2 (refine wpSeqP_quiet rfl rfl ?_; apply Exists.intro; refine ⟨?_, ?_⟩; (intro W hW; go_simp; try with_reducible rfl); (intro K hK; simp only [Act.put, List.setIfInBounds_toArray, List.set_cons_zero, List.set_cons_succ]; refine hK _ ?_; clear hK K))
        have cjd : w9.drew.cell? ⟨j, 2, none⟩ = some (.slice A8 (nd + 1) c8) := cj
        have fjd : w9.drew.frozen? ⟨j, 2, none⟩ = false := fj
        refine wpSeqP_call rfl rfl (fun K hK => ?_)
        go_simp
        refine hK _ _ trivial ?_
        clear hK K cjd fjd cw
        refine wpSeqP_end ?_
        have Bj10 : Blk (w9.setCell ⟨j, 2, none⟩ (.slice (A8) (nd + 1) (c8))).drew j 94 #[.int .i64 J.room, .map (some mo), .slice (A8) (nd + 1) (c8)] := (Bj9.set_ 2 _).drew
        have O10 := (O9).ext (((Ext.refl (One j) w9).setCell (p := ⟨j, 2, none⟩) (.inr rfl) (.slice (A8) (nd + 1) (c8))).drew) (fun k hk h => by
          have h : k = j := h
          rw [h] at hk
          exact hA8j ((fun h => h) hk))
        have x510 : Ext (fun i => i = j ∨ ob dA = some i) w5 (w9.setCell ⟨j, 2, none⟩ (.slice (A8) (nd + 1) (c8))).drew := (x59.setCell (p := ⟨j, 2, none⟩) (.inr (.inl rfl)) _).drew
        have hD10 : ∀ i, ob (A8) = some i → D1 i := fun i hi => hDA8 i ((fun h => h) hi)
        have hlast : (nd + 1) = (last64 (J.done ++ [p.key])).length := by exact hlA.symm
        rw [show (J.done.flatMap kyL ++ kyL p.key) = (last64 (J.done ++ [p.key])).flatMap kyL from by exact hxs] at O10
        clear cj fj Bj9 O9 x59 v1 hA8 hle8
        generalize (w9.setCell ⟨j, 2, none⟩ (.slice (A8) (nd + 1) (c8))).drew = w10 at *
        have O10 : OwO 104 3 w10 0 (A8) (nd + 1) (c8) ((last64 (J.done ++ [p.key])).flatMap kyL) := O10
        rw [hlast] at O10 Bj10
        clear hlast hlA
        have E10 := E5.keepJ Bj5 O5 x510
        have H10 := JoE.tell H3 (J' := { J with opn := mers p.key J.opn, done := last64 (J.done ++ [p.key]) }) E2.mp (x3.transN X34) hmo hdis M5 x5 x510 Bj10 O10 hD10 hok rfl rfl
        have B10 := B5.ext x510 (fun h => h.elim (fun h => B5.ne_ Bj5 (by decide) h) (fun h => hnA _ _ _ B5 (by decide) h))
        have C10 := C5.ext x510 (fun h => h.elim (fun h => C5.ne_ Bj5 (by decide) h) (fun h => hnA _ _ _ C5 (by decide) h))
        have X10 : Ext D w w10 := X5.trans x510 (fun i hi h => by
          rcases h with h | h
          · rw [h]
            exact H.dj.1
          · exact (H.dd i h).1)
        have hX10 : w.heap.size + 2 ≤ w10.heap.size := Nat.le_trans hX5 x510.size
        clear H3 E2 M3 M5 x5 x510 Bj10 O10 hD10 E5 B5 C5 X5 Mo3 X34 x3 x6 B3 C3 E3 Bj5 O5 hnA hA8j hDA8 hob8 x58 hdis hj1 X3 hX5 H2 hbd
        have J10 : Jo w10 (fun k => D1 k ∧ k < w10.heap.size) j { J with opn := mers p.key J.opn, done := last64 (J.done ++ [p.key]) } := Jo.imp ⟨_, _, _, _, H10⟩ (fun k hk h => ⟨h, hk⟩)
        have ctw := fun W (x : Ext Non w10 W) => whole_calls (E10.extN x) hs1 (by rw [hc1]; exact hbd1) (by rw [hc1]; exact hbd2) lw hlw2
        simp only [hp1] at ctw
        have B11 := fun W (x : Ext Non w10.drew W) => pc_cellsR (B10.drew.extN_ x)
        clear H10 E10 hlw2 hlw hs1 hop
        go_wp2_with fail
        refine wp_region_seqN (fun W => Ext Non w10.drew W) 9 ((0, true) :: (1, true) :: (2, true) :: (3, true) :: (4, true) :: (5, true) :: (6, true) :: (7, false) :: (8, true) :: []) ((9, false) :: (10, true) :: (11, true) :: []) (by kernel_rfl) (by kernel_rfl) (by kernel_rfl) (by kernel_rfl) (Ext.refl _ _) ?_
        iterate 7 (refine wpSeqE_quiet rfl rfl ?_; apply Exists.intro; refine ⟨?_, ?_⟩; (intro W hW; obtain ⟨b0, b1, b2, b3, b4, b5, b6⟩ := B11 W hW; go_simp; try with_reducible rfl); (intro K hK; simp only [Act.put, List.setIfInBounds_toArray, List.set_cons_zero, List.set_cons_succ]; refine hK _ ?_; clear hK K))
        refine wpSeqE_call rfl rfl (fun K hK => ?_)
        go_simp
        have ctr := ctw w10.drew (Ext.refl _ _).drew
        with_reducible refine Calls.mono ctr ?_
        clear ctr
        rintro e w11 ⟨Am, cm, rfl, Om, x11⟩
        go_simp
        refine hK _ _ x11 ?_
        clear hK K
        iterate 1 (refine wpSeqE_quiet rfl rfl ?_; apply Exists.intro; refine ⟨?_, ?_⟩; (intro W hW; go_simp; try with_reducible rfl); (intro K hK; simp only [Act.put, List.setIfInBounds_toArray, List.set_cons_zero, List.set_cons_succ]; refine hK _ ?_; clear hK K))
        refine wpSeqE_end ?_
        have C11 := C10.extN_ x11.drewL
        have hm11 : ∀ k, ob Am = some k → w10.heap.size ≤ k := fun k hk => (Om.lt hk).1
        have st := C11.big_store (P := Try.prog) (ty := 55) (cs' := #[.int .u32 p.id, .int .u16 p.fr, .int .u16 p.bx, .slice Am lw.length cm]) rfl (msg_inf _ rfl) (by simp [Value.oneCell'])
        have C12 := C11.setRow #[.int .u32 p.id, .int .u16 p.fr, .int .u16 p.bx, .slice Am lw.length cm]
        have y12 := (Ext.refl (One (w.heap.size + 1)) w11).setRow (.inr rfl) #[.int .u32 p.id, .int .u16 p.fr, .int .u16 p.bx, .slice Am lw.length cm]
        have X12 := (X10.transN x11.drewL).setRow (.inl (Nat.le_succ _)) (g := w.heap.size + 1) #[.int .u32 p.id, .int .u16 p.fr, .int .u16 p.bx, .slice Am lw.length cm]
        refine wpSeqP_call rfl rfl (fun K hK => ?_)
        go_simp
        refine hK _ _ trivial ?_
        clear hK K st
        iterate 2 (refine wpSeqP_quiet rfl rfl ?_; apply Exists.intro; refine ⟨?_, ?_⟩; (intro W hW; go_simp; try with_reducible rfl); (intro K hK; simp only [Act.put, List.setIfInBounds_toArray, List.set_cons_zero, List.set_cons_succ]; refine hK _ ?_; clear hK K))
        refine wpSeqP_end ?_
        have J12 := (J10.extN x11.drewL).ext y12 (fun k hk h => by
          have h : k = w.heap.size + 1 := h
          have hk := hk.1
          rw [hD1] at hk
          rcases hk with hk | hk <;> omega)
        have O12 := (Om.ext y12 (fun k hk h => by
          have h : k = w.heap.size + 1 := h
          have := hm11 k hk
          omega)).lower (base' := w.heap.size) (fun k hk => by
          have := hm11 k hk
          omega)
        go_wp2_with fail
        exact bodyPost_ret (results3 C12 Try.results23 _ _ _ rfl rfl rfl Try.underlying55 rfl (msg_inf _ rfl)) rfl ⟨_, Am, cm, rfl, J12, fun k hk => by
          have hk := hk.1
          rw [hD1] at hk
          exact hk.imp (fun h => h.1) (fun h => by omega), X12, O12, fun k hk h => by
          have := hm11 k hk
          have := h.2
          omega⟩
  · obtain rfl : res = (J, er, none) := by rw [← HRES.out]; unfold jtake; rw [if_neg (by rw [her]; exact he0), her]
    have i1 : ¬ (er : Int) = 0 := by omega
    have st := C1.big_store (P := Try.prog) (ty := 55) (cs' := #[.int .u32 0, .int .u16 0, .int .u16 0, .slice none 0 0]) rfl (msg_inf _ rfl) (by simp [Value.oneCell'])
    have C2 := C1.setRow #[.int .u32 0, .int .u16 0, .int .u16 0, .slice none 0 0]
    have X2 := X1.setRow (.inl (Nat.le_succ _)) (g := w.heap.size + 1) #[.int .u32 0, .int .u16 0, .int .u16 0, .slice none 0 0]
    clear hchk her HRES
    go_wp2_with fail
    exact bodyPost_ret (results3 C2 Try.results23 _ _ _ rfl rfl rfl Try.underlying55 rfl (msg_inf _ rfl)) rfl ⟨D, none, 0, rfl, hJ0.extN X2, fun k hk => .inl hk, X2.imp (fun _ _ h => h.elim), OwB.nil _ _, fun k hk => by cases hk⟩
end Go.Proofs.Ytcdpmedmhindaaa
