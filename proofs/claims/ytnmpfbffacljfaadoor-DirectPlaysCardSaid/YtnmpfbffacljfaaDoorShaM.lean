/- Contract of package sha's mix. -/
import Derived.Test.YtnmpfbffacljfaaDoorShaC
namespace Go.Proofs.YtnmpfbffacljfaaDoor
open Go.RowKit

/-- The package's tables hold what their text says. -/
structure Glob (w : World) : Prop where
  h : w.rangeAt 0 0 (H0.map v32)
  k : w.rangeAt 1 0 (KT.map v32)
theorem Glob.ext {S : Nat → Prop} {w w' : World} (G : Glob w) (hx : Ext S w w') (h0 : ¬ S 0) (h1 : ¬ S 1) : Glob w' :=
  ⟨fun j v hv => hx.cell (G.h j v hv) h0, fun j v hv => hx.cell (G.k j v hv) h1⟩
theorem Glob.extN {w w' : World} (G : Glob w) (hx : Ext Non w w') : Glob w' := G.ext hx (fun h => h) (fun h => h)
theorem Glob.one {w w' : World} (G : Glob w) {p : Nat} (hx : Ext (One p) w w') (hp : 2 ≤ p) : Glob w' :=
  G.ext hx (fun h => by have : 0 = p := h; omega) (fun h => by have : 1 = p := h; omega)
theorem Glob.ka {w : World} (G : Glob w) {i : Nat} (h : i < 64) : w.cell? ⟨1, i, none⟩ = some (.int .u32 (un (KA i) : Int)) := by
  have := G.k i (v32 (KA i)) (by
    have hl : i < KT.length := h
    rw [List.getElem?_map, List.getElem?_eq_getElem hl]
    unfold KA
    rw [List.getD_eq_getElem?_getD, List.getElem?_eq_getElem hl]
    rfl)
  rw [Nat.zero_add] at this
  exact this

def Z8 : List UInt32 := List.replicate 8 0
theorem Z8_len : Z8.length = 8 := rfl
@[go_sem ↓] theorem zero_h (w : World) : (zeroValue 97).run Tryd.prog w = .ok (.agg (u32a Z8)) w := by
  have : u32a Z8 = Array.replicate 8 (.int .u32 0) := rfl
  rw [this]
  exact (zero_of_info (P := Tryd.prog) (t := 97) (n := 8) (by kernel_rfl)).1 w
theorem u32a_ne {l : List UInt32} (h : l.length = 8) : u32a l ≠ #[] := row_ne (n := 7) (by rw [u32a_size, h])
theorem store_h (w : World) (l z : List UInt32) (hl : l.length = 8) (hz : z.length = 8) : (bigStore 97 (.pointer (some ⟨w.heap.size, 0, none⟩)) (.agg (u32a l))).run Tryd.prog (w.alloc (.cells (u32a z) 97)) = .ok () (w.alloc (.cells (u32a l) 97)) := by
  rw [Blk.big_store (P := Tryd.prog) (Blk.new w 97 (u32a z)) (by rw [u32a_size, u32a_size, hl, hz]) (h_info _ (by rw [u32a_size, hl])) (u32a_all l), World.setRow_alloc_new]
/-- The eight numbers of a stream, read at once. -/
theorem load_h {w : World} {p : Nat} {b : Bool} {h : List UInt32} {part : List UInt8} {n : Nat} (hh : h.length = 8) (hb : Blk w p 100 (strm b h part n)) :
    (bigLoad 97 (.pointer (some ⟨p, 1, none⟩))).run Tryd.prog w = .ok (.agg (u32a h)) w := by
  have := run_loadAt_mid (P := Tryd.prog) w p 1 97 (h.map v32) _ (hb.range 1 _ fun j v hv => by
    have hj : j < h.length := by have := (List.getElem?_eq_some_iff.1 hv).1; simpa using this
    rw [strm_h hh (by omega), ← hv, List.getElem?_map, List.getElem?_eq_getElem hj]
    simp [v32, List.getD, hj]) Tryd.underlying97 rfl (by rw [List.length_map, hh]; kernel_rfl)
  exact this
/-- A part of an array goes to another part of it. -/
theorem copy_h {w : World} {g : Nat} {a b c d e f x y : UInt32} (ty : TypeId) (hb : Blk w g 97 (u32a [a, b, c, d, e, f, x, y])) :
    (Builtin.copy_ #[23, 23] ty #[.slice (some ⟨g, 1, none⟩) 7 7, .slice (some ⟨g, 0, none⟩) 7 8]).run Tryd.prog w = .ok (.int .i64 7) (w.setRow g (u32a [a, a, b, c, d, e, f, x])) :=
  run_copy_row (P := Tryd.prog) w 23 23 ty 35 g 1 7 7 ⟨g, 0, none⟩ 7 8 _ 97 [v32 a, v32 b, v32 c, v32 d, v32 e, v32 f, v32 x] Tryd.underlying23 s32 hb rfl (fun j v hv => by
    rw [addr_add, hb.cell, ← hv]
    have hj : j < 7 := (List.getElem?_eq_some_iff.1 hv).1
    match j, hj with
    | 0, _ => rfl
    | 1, _ => rfl
    | 2, _ => rfl
    | 3, _ => rfl
    | 4, _ => rfl
    | 5, _ => rfl
    | 6, _ => rfl) (by simp [u32a]) (fun v hv => by
    simp only [List.mem_cons, List.not_mem_nil, or_false] at hv
    rcases hv with rfl | rfl | rfl | rfl | rfl | rfl | rfl <;> rfl)

theorem addk_get {h v : List UInt32} (hh : h.length = 8) (hv : v.length = 8) {k : Nat} (hk : k < 8) : ((addv h v).take k ++ h.drop k).getD k 0 = h.getD k 0 ∧
    ((addv h v).take k ++ h.drop k).set k (h.getD k 0 + v.getD k 0) = (addv h v).take (k + 1) ++ h.drop (k + 1) := by
  have hl : (addv h v).length = 8 := addv_len hh hv
  have hkl : ((addv h v).take k).length = k := by simp; omega
  refine ⟨?_, ?_⟩
  · rw [getD_app_r _ _ _ _ (by omega), hkl, Nat.sub_self]
    simp [List.getD]
  · rw [List.set_append_right _ _ (by omega), hkl, Nat.sub_self]
    have e1 : h.drop k = h.getD k 0 :: h.drop (k + 1) := by
      rw [List.drop_eq_getElem_cons (by omega)]
      simp [List.getD, show k < h.length from by omega]
    rw [e1, List.set_cons_zero, List.take_succ_eq_append_getElem (by omega), List.append_assoc]
    congr 1
    simp [addv, List.getD, show k < h.length from by omega, show k < v.length from by omega]

set_option maxRecDepth 100000 in
set_option maxHeartbeats 4000000 in
theorem mix_calls {w : World} {p : Nat} {h : List UInt32} {part : List UInt8} {n : Nat} (hh : h.length = 8) (hp : part.length = 64) (hb : Blk w p 100 (strm true h part n)) (G : Glob w) :
    Calls Tryd.prog 67 #[.pointer (some ⟨p, 0, none⟩)] w fun e w' => (∃ v, e = .returned v) ∧ Blk w' p 100 (strm true (comp h part) part n) ∧ Ext (One p) w w' := by
  have l1 := load_h hh hb
  have st := store_h w h Z8 hh Z8_len
  have hn0 := u32a_ne Z8_len
  have hpl := hb.lt
  go_enter Tryd.func67, Tryd.ntmps67
  go_wp2_with fail
  clear l1 st hn0
  have hx0 : Ext Non w (w.alloc (.cells (u32a h) 97)) := (Ext.refl _ _).alloc _
  have ctr := spread_calls hh hp (hb.alloc (.cells (u32a h) 97))
  with_reducible refine Calls.mono ctr ?_
  clear ctr
  rintro e w1 ⟨rfl, x1⟩
  have X1 := hx0.transN x1
  have B1 := (Blk.new w 97 (u32a h)).extN_ x1
  clear x1 hx0
  go_wp2_with fail
  go_loopw [16] (fun i wr => ∃ k : Nat, k ≤ 64 ∧ i = .int .i64 k ∧ Blk wr w.heap.size 97 (u32a (rnds part h k)) ∧ Ext Non w wr) (fun i _ => 64 - (intOf i).toNat)
  case atStart => exact ⟨0, by omega, rfl, by rw [rnds_zero]; exact B1, X1⟩
  case round =>
    clear B1 X1
    obtain ⟨k, hk, rfl, hg, hx⟩ := hrel
    have hlen := rnds_len part hh k
    by_cases hlt : k < 64
    · obtain ⟨v0, v1, v2, v3, v4, v5, v6, v7, hv⟩ := eight hlen
      have hnext : rnds part h (k + 1) = [tt v4 v5 v6 v7 (KA k) (W part k) + uu v0 v1 v2, v0, v1, v2, v3 + tt v4 v5 v6 v7 (KA k) (W part k), v4, v5, v6] := by
        rw [rnds_succ, hv]
        rfl
      rw [tt_def, uu_def] at hnext
      have HN := Lib.hid hnext
      rw [hv] at hg
      have GK := (G.extN hx).ka hlt
      have ix := fun W => run_index_arr (P := Tryd.prog) W Tryd.underlying134 s32 (Tryd.isAgg35 W) (schf part 64) .i64 (k : Int) k rfl hlt _ (schf_get part hlt (Nat.le_refl _))
      have hi : (k : Int) < 64 := by omega
      generalize W part k = wk at *
      generalize KA k = kk at *
      clear hnext hlen hv
      go_wp2_with fail
      have cw : ∀ W, Ext Non wr W → W.cell? ⟨w.heap.size, 0, none⟩ = some (.int .u32 (un v0 : Int)) ∧ W.cell? ⟨w.heap.size, 1, none⟩ = some (.int .u32 (un v1 : Int)) ∧ W.cell? ⟨w.heap.size, 2, none⟩ = some (.int .u32 (un v2 : Int)) ∧
          W.cell? ⟨w.heap.size, 4, none⟩ = some (.int .u32 (un v4 : Int)) ∧ W.cell? ⟨w.heap.size, 5, none⟩ = some (.int .u32 (un v5 : Int)) ∧ W.cell? ⟨w.heap.size, 6, none⟩ = some (.int .u32 (un v6 : Int)) ∧
          W.cell? ⟨w.heap.size, 7, none⟩ = some (.int .u32 (un v7 : Int)) ∧ W.cell? ⟨1, k, none⟩ = some (.int .u32 (un kk : Int)) := fun W hW =>
        have hgW := hg.extN_ hW
        ⟨hgW.cell 0, hgW.cell 1, hgW.cell 2, hgW.cell 4, hgW.cell 5, hgW.cell 6, hgW.cell 7, hW.cell GK (fun h => h)⟩
      refine wp_region_seq Non ((0, true) :: (1, true) :: (2, true) :: (3, true) :: (4, true) :: (5, true) :: []) (by kernel_rfl) (by kernel_rfl) (by kernel_rfl) ?_
      iterate 6 (refine wpSeq_quiet rfl rfl ?_; apply Exists.intro; refine ⟨?_, ?_⟩; (intro W hW; obtain ⟨d0, d1, d2, d4, d5, d6, d7, dk⟩ := cw W (hW.drewL); go_simp; try with_reducible rfl); (intro K hK; simp only [Act.put, List.setIfInBounds_toArray, List.set_cons_zero, List.set_cons_succ]; refine hK _ ?_; clear hK K))
      refine wpSeq_end ?_
      go_wp2_with fail
      refine wp_region_seq Non ((0, true) :: (1, true) :: (2, true) :: (4, true) :: (7, true) :: (11, true) :: (12, true) :: (13, true) :: (14, true) :: (15, true) :: (16, true) :: (17, true) :: (18, true) :: (19, true) :: (20, true) :: (22, true) :: (23, true) :: (24, true) :: (26, true) :: (3, false) :: (5, false) :: (6, true) :: (8, false) :: (9, true) :: (10, true) :: (21, true) :: (25, true) :: (27, true) :: (28, true) :: []) (by kernel_rfl) (by kernel_rfl) (by kernel_rfl) ?_
      iterate 19 (refine wpSeq_quiet rfl rfl ?_; apply Exists.intro; refine ⟨?_, ?_⟩; (intro W hW; obtain ⟨d0, d1, d2, d4, d5, d6, d7, dk⟩ := cw W (hW.drewL.drewL); go_simp; try with_reducible rfl); (intro K hK; simp only [Act.put, List.setIfInBounds_toArray, List.set_cons_zero, List.set_cons_succ]; refine hK _ ?_; clear hK K))
      refine wpSeq_call rfl rfl (fun K hK => ?_)
      go_simp
      have ctr := turned_calls wr.drew.drew v4 6 (by decide) (by decide)
      with_reducible refine Calls.mono ctr ?_
      clear ctr
      rintro e w2 ⟨rfl, rfl⟩
      go_simp
      refine hK _ _ (Ext.refl _ _) ?_
      clear hK K
      refine wpSeq_call rfl rfl (fun K hK => ?_)
      go_simp
      have ctr := turned_calls wr.drew.drew v4 11 (by decide) (by decide)
      with_reducible refine Calls.mono ctr ?_
      clear ctr
      rintro e w2 ⟨rfl, rfl⟩
      go_simp
      refine hK _ _ (Ext.refl _ _) ?_
      clear hK K
      iterate 1 (refine wpSeq_quiet rfl rfl ?_; apply Exists.intro; refine ⟨?_, ?_⟩; (intro W hW; go_simp; try with_reducible rfl); (intro K hK; simp only [Act.put, List.setIfInBounds_toArray, List.set_cons_zero, List.set_cons_succ]; refine hK _ ?_; clear hK K))
      refine wpSeq_call rfl rfl (fun K hK => ?_)
      go_simp
      have ctr := turned_calls wr.drew.drew v4 25 (by decide) (by decide)
      with_reducible refine Calls.mono ctr ?_
      clear ctr
      rintro e w2 ⟨rfl, rfl⟩
      go_simp
      refine hK _ _ (Ext.refl _ _) ?_
      clear hK K
      iterate 6 (refine wpSeq_quiet rfl rfl ?_; apply Exists.intro; refine ⟨?_, ?_⟩; (intro W hW; go_simp; try with_reducible rfl); (intro K hK; simp only [Act.put, List.setIfInBounds_toArray, List.set_cons_zero, List.set_cons_succ]; refine hK _ ?_; clear hK K))
      refine wpSeq_end ?_
      go_wp2_with fail
      refine wp_region_seq Non ((0, true) :: (2, true) :: (5, true) :: (8, true) :: (9, true) :: (10, true) :: (11, true) :: (12, true) :: (13, true) :: (14, true) :: (15, true) :: (16, true) :: (17, true) :: (18, true) :: (19, true) :: (20, true) :: (21, true) :: (22, true) :: (1, false) :: (3, false) :: (4, true) :: (6, false) :: (7, true) :: (23, true) :: (24, true) :: []) (by kernel_rfl) (by kernel_rfl) (by kernel_rfl) ?_
      iterate 18 (refine wpSeq_quiet rfl rfl ?_; apply Exists.intro; refine ⟨?_, ?_⟩; (intro W hW; obtain ⟨d0, d1, d2, d4, d5, d6, d7, dk⟩ := cw W (hW.drewL.drewL.drewL); go_simp; try with_reducible rfl); (intro K hK; simp only [Act.put, List.setIfInBounds_toArray, List.set_cons_zero, List.set_cons_succ]; refine hK _ ?_; clear hK K))
      refine wpSeq_call rfl rfl (fun K hK => ?_)
      go_simp
      have ctr := turned_calls wr.drew.drew.drew v0 2 (by decide) (by decide)
      with_reducible refine Calls.mono ctr ?_
      clear ctr
      rintro e w2 ⟨rfl, rfl⟩
      go_simp
      refine hK _ _ (Ext.refl _ _) ?_
      clear hK K
      refine wpSeq_call rfl rfl (fun K hK => ?_)
      go_simp
      have ctr := turned_calls wr.drew.drew.drew v0 13 (by decide) (by decide)
      with_reducible refine Calls.mono ctr ?_
      clear ctr
      rintro e w2 ⟨rfl, rfl⟩
      go_simp
      refine hK _ _ (Ext.refl _ _) ?_
      clear hK K
      iterate 1 (refine wpSeq_quiet rfl rfl ?_; apply Exists.intro; refine ⟨?_, ?_⟩; (intro W hW; go_simp; try with_reducible rfl); (intro K hK; simp only [Act.put, List.setIfInBounds_toArray, List.set_cons_zero, List.set_cons_succ]; refine hK _ ?_; clear hK K))
      refine wpSeq_call rfl rfl (fun K hK => ?_)
      go_simp
      have ctr := turned_calls wr.drew.drew.drew v0 22 (by decide) (by decide)
      with_reducible refine Calls.mono ctr ?_
      clear ctr
      rintro e w2 ⟨rfl, rfl⟩
      go_simp
      refine hK _ _ (Ext.refl _ _) ?_
      clear hK K
      iterate 3 (refine wpSeq_quiet rfl rfl ?_; apply Exists.intro; refine ⟨?_, ?_⟩; (intro W hW; go_simp; try with_reducible rfl); (intro K hK; simp only [Act.put, List.setIfInBounds_toArray, List.set_cons_zero, List.set_cons_succ]; refine hK _ ?_; clear hK K))
      refine wpSeq_end ?_
      clear cw ix
      have sl := fun W => run_arr_lo (P := Tryd.prog) W Tryd.underlying97 s32 w.heap.size 0 .i64 1 1 rfl (by decide)
      have sh := fun W => run_arr_hi (P := Tryd.prog) W Tryd.underlying97 s32 w.heap.size 0 .i64 7 7 rfl (by decide) (by decide)
      have hg3 : Blk wr.drew.drew.drew.drew w.heap.size 97 (u32a [v0, v1, v2, v3, v4, v5, v6, v7]) := hg
      have cp := fun ty => copy_h ty hg3
      go_wp2_with fail
      refine wp_region_seq (One w.heap.size) ((0, true) :: (1, true) :: (2, false) :: []) (by kernel_rfl) (by kernel_rfl) (by kernel_rfl) ?_
      iterate 2 (refine wpSeq_quiet rfl rfl ?_; apply Exists.intro; refine ⟨?_, ?_⟩; (intro W hW; go_simp; try with_reducible rfl); (intro K hK; simp only [Act.put, List.setIfInBounds_toArray, List.set_cons_zero, List.set_cons_succ]; refine hK _ ?_; clear hK K))
      refine wpSeq_call rfl rfl (fun K hK => ?_)
      go_simp
      refine hK _ _ ((Ext.refl (One w.heap.size) wr.drew.drew.drew.drew).setRow (.inr rfl) (u32a [v0, v0, v1, v2, v3, v4, v5, v6])) ?_
      refine wpSeq_end ?_
      have hg4 := hg3.setRow (u32a [v0, v0, v1, v2, v3, v4, v5, v6])
      clear cp sl sh hg3 hK
      have hx4 : Ext Non w (wr.drew.drew.drew.drew.setRow w.heap.size (u32a [v0, v0, v1, v2, v3, v4, v5, v6])) := Ext.setRow hx.drew.drew.drew.drew (.inl (Nat.le_refl _)) _
      have e0 : (wr.drew.drew.drew.drew.setRow w.heap.size (u32a [v0, v0, v1, v2, v3, v4, v5, v6])).cell? ⟨w.heap.size, 0, none⟩ = some (.int .u32 (un v0 : Int)) := hg4.cell 0
      have e4 : (wr.drew.drew.drew.drew.setRow w.heap.size (u32a [v0, v0, v1, v2, v3, v4, v5, v6])).cell? ⟨w.heap.size, 4, none⟩ = some (.int .u32 (un v3 : Int)) := hg4.cell 4
      have f0 := hg4.frozen 0
      have f4 := hg4.frozen 4
      generalize wr.drew.drew.drew.drew.setRow w.heap.size (u32a [v0, v0, v1, v2, v3, v4, v5, v6]) = w4 at *
      go_wp2_with fail
      refine ⟨⟨k + 1, by omega, by go_num, ?_, (hx4.setCell (p := ⟨w.heap.size, 0, none⟩) (.inl (Nat.le_refl _)) _).setCell (p := ⟨w.heap.size, 4, none⟩) (.inl (Nat.le_refl _)) _⟩, by simp [intOf]; omega⟩
      rw [HN.out]
      have hg5 := (hg4.set_ 0 (v32 (v7 + (rotr v4 6 ^^^ rotr v4 11 ^^^ rotr v4 25) + (v4 &&& v5 ^^^ ~~~v4 &&& v6) + kk + wk + ((rotr v0 2 ^^^ rotr v0 13 ^^^ rotr v0 22) + (v0 &&& v1 ^^^ v0 &&& v2 ^^^ v1 &&& v2))))).set_ 4 (v32 (v3 + (v7 + (rotr v4 6 ^^^ rotr v4 11 ^^^ rotr v4 25) + (v4 &&& v5 ^^^ ~~~v4 &&& v6) + kk + wk)))
      rw [v32, v32, u32a_set, u32a_set] at hg5
      exact hg5
    · obtain rfl : k = 64 := by omega
      obtain ⟨v, hv⟩ : ∃ v, rnds part h 64 = v := ⟨_, rfl⟩
      rw [hv] at hg hlen
      have hcomp : comp h part = addv h v := by rw [comp_def, hv]
      have HC := Lib.hid hcomp
      clear hcomp hv
      have hbr := hb.extN_ hx
      rw [show ((64 : Nat) : Int) = 64 from rfl]
      go_wp2_with fail
      go_loopw [89] (fun i wx => ∃ k : Nat, k ≤ 8 ∧ i = .int .i64 k ∧ Blk wx p 100 (strm true ((addv h v).take k ++ h.drop k) part n) ∧ Blk wx w.heap.size 97 (u32a v) ∧ Ext (One p) w wx) (fun i _ => 8 - (intOf i).toNat)
      case atStart => exact ⟨0, by omega, rfl, hbr, hg, hx.imp (fun _ _ h => h.elim)⟩
      case round =>
        clear hbr hg hx
        obtain ⟨k, hk, rfl, hbx, hgx, hx⟩ := hrel
        by_cases hlt : k < 8
        · obtain ⟨ha, hs⟩ := addk_get hh hlen hlt
          have hl8 : ((addv h v).take k ++ h.drop k).length = 8 := by simp [addv_len hh hlen, hh]; omega
          have c1 : wr.cell? ⟨p, 1 + k, none⟩ = some (.int .u32 (un (h.getD k 0) : Int)) := by rw [hbx.cell, strm_h hl8 hlt, ha]
          have c2 : wr.cell? ⟨w.heap.size, k, none⟩ = some (.int .u32 (un (v.getD k 0) : Int)) := by rw [hgx.cell, u32a_get v k (by omega)]
          have f1 := hbx.frozen (1 + k)
          have hb2 := hbx.set_ (1 + k) (.int .u32 (un (h.getD k 0 + v.getD k 0) : Int))
          rw [strm_set_h hl8 hlt, hs] at hb2
          have hg2 := hgx.far (p := ⟨p, 1 + k, none⟩) (by show w.heap.size ≠ p; omega) (.int .u32 (un (h.getD k 0 + v.getD k 0) : Int))
          have hx2 := hx.set1 (1 + k) (.int .u32 (un (h.getD k 0 + v.getD k 0) : Int))
          generalize h.getD k 0 = x1 at *
          generalize v.getD k 0 = x2 at *
          clear ha hs hl8
          have hi : (k : Int) < 8 := by omega
          go_wp2_with fail
          refine wp_region_tail 13 (by kernel_rfl) (by kernel_rfl) ?_
          simp only [List.take_succ_cons, List.take_zero, List.drop_succ_cons, List.drop_zero]
          repeat still_step
          refine wpStill_nil ?_
          go_wp2_with fail
          exact ⟨⟨k + 1, by omega, by go_num, hb2.drew, hg2.drew, hx2.drew⟩, by simp [intOf]; omega⟩
        · obtain rfl : k = 8 := by omega
          rw [List.take_of_length_le (by rw [addv_len hh hlen]; exact Nat.le_refl _), List.drop_of_length_le (by omega), List.append_nil] at hbx
          go_wp2_with fail
          go_end0
          exact ⟨⟨_, rfl⟩, by rw [HC.out]; exact hbx, hx⟩
end Go.Proofs.YtnmpfbffacljfaaDoor
