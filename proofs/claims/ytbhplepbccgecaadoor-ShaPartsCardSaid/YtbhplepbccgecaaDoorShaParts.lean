/- The law ShaParts: a text in parts has the sum of the whole; for any bytes and any two places. -/
import Derived.Test.YtbhplepbccgecaaDoorSha03
namespace Go.Proofs.YtbhplepbccgecaaDoor
open Go.RowKit

set_option maxRecDepth 100000 in
set_option maxHeartbeats 4000000 in
theorem sparts_walk (A0 : Option Addr) (n0 c0 : Nat) (l0 : List UInt8) (v1 v2 : Int) (w : World) (G : Glob w) (hw2 : 2 ≤ w.heap.size)
    (hl0 : l0.length = n0) (hc0 : n0 ≤ c0) (r0 : Rd w (· < w.heap.size) A0 (bvs l0)) :
    Calls Tryd.prog 5 #[.slice A0 n0 c0, .int .i64 v1, .int .i64 v2] w fun e w' => e = .returned (.bool true) ∧ Below w.heap.size w w' := by
  obtain ⟨k, hk, hka, hkb, _⟩ := min_at n0 2000 (by omega)
  obtain ⟨a, ha⟩ : ∃ l, l0.take k = l := ⟨_, rfl⟩
  have ra : Rd w (· < w.heap.size) A0 (bvs a) := by rw [← ha, bvs_take5]; exact r0.take k
  have la : a.length = k := by rw [← ha]; simp; omega
  have ma : k ≤ c0 := by omega
  have ia : (k : Int) ≤ (c0 : Int) := by omega
  clear ha r0 hl0
  obtain ⟨p, hp, hpa⟩ := and16_at v1
  obtain ⟨q, hq, hqa⟩ := and16_at v2
  obtain ⟨x, hx⟩ : ∃ x, x = p % (k + 1) := ⟨_, rfl⟩
  have hxk : x ≤ k := by rw [hx]; have := Nat.mod_lt p (show k + 1 > 0 by omega); omega
  have e1 : (p : Int).tmod ((k : Int) + 1) = (x : Int) := by rw [hx]; rfl
  obtain ⟨y, hy⟩ : ∃ y, y = x + q % (k - x + 1) := ⟨_, rfl⟩
  have hyk : y ≤ k := by rw [hy]; have := Nat.mod_lt q (show k - x + 1 > 0 by omega); omega
  have hxy : x ≤ y := by omega
  have e2 : (q : Int).tmod ((k : Int) - (x : Int) + 1) = ((y - x : Nat) : Int) := by
    have h1 : (k : Int) - (x : Int) + 1 = ((k - x + 1 : Nat) : Int) := by omega
    rw [h1, hy, Nat.add_sub_cancel_left]; rfl
  have e3 : (x : Int) + ((y - x : Nat) : Int) = (y : Int) := by omega
  clear hx hy
  have z1 := strm0_ne
  have z2 := zrow32_ne
  go_enter Tryd.func5, Tryd.ntmps5
  go_wp2_with fail
  have ctr := shown_calls G hw2
  with_reducible refine Calls.mono ctr ?_
  clear ctr
  rintro e w1 ⟨rfl, x1⟩
  go_wp2_with fail
  have pa : ∀ q ∈ ([⟨A0, c0, a⟩] : List Part), Rd w (· < w.heap.size) q.a (bvs q.l) ∧ q.l.length ≤ q.c := fun q hq => by
    simp only [List.mem_cons, List.not_mem_nil, or_false] at hq
    subst hq
    exact ⟨ra, by show a.length ≤ c0; omega⟩
  have V : Hid ((([⟨A0, c0, a⟩] : List Part).map Part.val).toArray = #[.slice A0 k c0]) := by
    show _ = _
    simp [Part.val, la]
  have E : Hid (allOf [⟨A0, c0, a⟩] = a) := by show _ = _; simp [allOf]
  have hll : a.length ≤ 562949953421312 := by omega
  have ctr := sumN_calls x1 G hw2 [⟨A0, c0, a⟩] pa 1 rfl (by rw [E.out]; exact hll) (by decide) #[.slice A0 k c0] V.out (Ext.refl Non _) a E.out
  with_reducible refine Calls.mono ctr ?_
  clear ctr
  rintro e w2 ⟨rfl, x2⟩
  have X2 : Ext Non w (w2.alloc (.cells (ba (sha a)) 25)) := ((x1.alloc _).transN x2).alloc _
  have B2 := Blk.new w2 25 (ba (sha a))
  have hg : w.heap.size ≤ w2.heap.size := ((x1.alloc _).transN x2).size
  clear x1 x2 pa V E
  have S1 := strm_new (w2.alloc (.cells (ba (sha a)) 25))
  have X3 : Ext Non w ((w2.alloc (.cells (ba (sha a)) 25)).alloc (.cells strm0 34)) := X2.alloc _
  have B3 := B2.alloc (.cells strm0 34)
  rw [World.size_alloc] at S1
  clear B2 X2
  have ya : (a.take y).length = y := by simp; omega
  have yb : (a.drop y).length = k - y := by simp; omega
  have yd : a.take y ++ [] ++ a.drop y = a := by simp
  have YD := Lib.hid yd
  have ry : Rd w (· < w.heap.size) A0 (bvs (a.take y)) := by rw [bvs_take5]; exact ra.take y
  have rz : Rd w (· < w.heap.size) (cut A0 y c0) (bvs (a.drop y)) := by
    have := ra.cut (k := y) (cap := c0) (by rw [bvs_length]; omega)
    simpa [bvs] using this
  have nD : ∀ g, w.heap.size ≤ g → ¬ (g < w.heap.size) := fun g h => by omega
  have l1 : ([] : List UInt8).length + (a.take y).length ≤ 1125899906842624 := by simp; omega
  have l2 : ([] ++ a.take y).length + ([] : List UInt8).length ≤ 1125899906842624 := by simp; omega
  have l3 : ([] ++ a.take y ++ []).length + (a.drop y).length ≤ 1125899906842624 := by simp; omega
  clear yd
  go_wp2_with fail
  have ctr := write_calls S1 (G.extN X3) (by omega) c0 y (ry.extN X3) ya (by omega) (nD _ (by omega)) l1
  with_reducible refine Calls.mono ctr ?_
  clear ctr
  rintro e w4 ⟨⟨u1, rfl⟩, S4, x4⟩
  have X4 : Ext Non w w4 := X3.trans x4 (fun i hi h => by have h : i = w2.heap.size + 1 := h; omega)
  have B4 := B3.ext x4 (fun h => by have h : w2.heap.size = w2.heap.size + 1 := h; omega)
  clear S1 X3 x4 B3
  go_wp2_with fail
  have ctr := write_calls S4.strm (G.extN X4) (by omega) 0 0 (Rd.nil (w := w4) (D := Non) (A := none)) rfl (by omega) (fun h => h) l2
  with_reducible refine Calls.mono ctr ?_
  clear ctr
  rintro e w5 ⟨⟨u2, rfl⟩, S5, x5⟩
  have X5 : Ext Non w w5 := X4.trans x5 (fun i hi h => by have h : i = w2.heap.size + 1 := h; omega)
  have B5 := B4.ext x5 (fun h => by have h : w2.heap.size = w2.heap.size + 1 := h; omega)
  clear S4 X4 x5 B4
  go_wp2_with fail
  have ctr := write_calls S5.strm (G.extN X5) (by omega) (c0 - y) (k - y) (rz.extN X5) yb (by omega) (nD _ (by omega)) l3
  with_reducible refine Calls.mono ctr ?_
  clear ctr
  rintro e w6 ⟨⟨u3, rfl⟩, S6, x6⟩
  have X6 : Ext Non w (w6.alloc (.cells strm0 34)) := (X5.trans x6 (fun i hi h => by have h : i = w2.heap.size + 1 := h; omega)).alloc _
  have B6 := (B5.ext x6 (fun h => by have h : w2.heap.size = w2.heap.size + 1 := h; omega)).alloc (.cells strm0 34)
  have S7 := S6.extN ((Ext.refl Non w6).alloc (.cells strm0 34))
  rw [List.nil_append, YD.out] at S7
  have T7 := strm_new w6
  have hp6 := S6.lt
  have ht : w.heap.size ≤ w6.heap.size := by omega
  clear S5 S6 X5 x6 B5 ya yb l1 l2 l3 ry
  go_wp2_with fail
  generalize w6.heap.size = t at *
  go_loopw [11] (fun i wr => ∃ j : Nat, j ≤ k ∧ i = .int .i64 j ∧ Strm wr t (a.take j) ∧ Strm wr (w2.heap.size + 1) a ∧ Blk wr w2.heap.size 25 (ba (sha a)) ∧ Ext Non w wr) (fun i _ => k - (intOf i).toNat)
  case atStart => exact ⟨0, by omega, rfl, T7, S7.strm, B6, X6⟩
  case round =>
    clear T7 S7 B6 X6
    obtain ⟨j, hj, rfl, T, S, B, X⟩ := hrel
    have Gw := G.extN X
    by_cases hjk : j < k
    · have rj : Rd w (· < w.heap.size) (cut A0 j c0) (bvs ((a.drop j).take 1)) := by
        have := (ra.cut (k := j) (cap := c0) (by rw [bvs_length]; omega)).take 1
        simpa [bvs] using this
      have lj : ((a.drop j).take 1).length = 1 := by simp; omega
      have ej : a.take j ++ (a.drop j).take 1 = a.take (j + 1) := by rw [List.take_add]
      have EJ := Lib.hid ej
      have hlen : (a.take j).length + ((a.drop j).take 1).length ≤ 1125899906842624 := by rw [lj, List.length_take]; omega
      have i1 : (j : Int) < (k : Int) := by omega
      have i2 : (j : Int) + 1 ≤ (c0 : Int) := by omega
      have i3 : ¬ (c0 = j) := by omega
      have i4 : j + 1 - j = 1 := by omega
      clear ej rz
      go_wp2_with fail
      have ctr := write_calls T Gw (by omega) (c0 - j) 1 (rj.extN X) lj (by omega) (nD _ ht) hlen
      with_reducible refine Calls.mono ctr ?_
      clear ctr
      rintro e w7 ⟨⟨u4, rfl⟩, T', x7⟩
      have X7 : Ext Non w w7 := X.trans x7 (fun i hi h => by have h : i = t := h; omega)
      have B7 := B.ext x7 (fun h => by have h : w2.heap.size = t := h; omega)
      have S7 := S.ext x7 (fun h => by have h : w2.heap.size + 1 = t := h; omega)
      rw [EJ.out] at T'
      go_wp2_with fail
      exact ⟨⟨j + 1, by omega, by go_num, T'.strm, S7, B7, X7⟩, by simp [intOf]; omega⟩
    · rw [List.take_of_length_le (by omega)] at T
      have i1 : (k : Int) ≤ (j : Int) := by omega
      go_wp2_with fail
      have i3 : (x : Int) ≤ (k : Int) := by omega
      have i4 : (y : Int) ≤ (k : Int) := by omega
      have i5 : (x : Int) ≤ (y : Int) := by omega
      have i6 : (x : Int) ≤ (c0 : Int) := by omega
      have i7 : (y : Int) ≤ (c0 : Int) := by omega
      have rx : Rd w (· < w.heap.size) A0 (bvs (a.take x)) := by rw [bvs_take5]; exact ra.take x
      have rxy : Rd w (· < w.heap.size) (cut A0 x c0) (bvs ((a.drop x).take (y - x))) := by
        have := (ra.cut (k := x) (cap := c0) (by rw [bvs_length]; omega)).take (y - x)
        simpa [bvs] using this
      have lx : (a.take x).length = x := by simp; omega
      have lxy : ((a.drop x).take (y - x)).length = y - x := by simp; omega
      have ly : (a.drop y).length = k - y := by simp; omega
      have pa : ∀ q ∈ ([⟨A0, c0, a.take x⟩, ⟨cut A0 x c0, c0 - x, (a.drop x).take (y - x)⟩, ⟨none, 0, []⟩, ⟨cut A0 y c0, c0 - y, a.drop y⟩] : List Part), Rd w (· < w.heap.size) q.a (bvs q.l) ∧ q.l.length ≤ q.c := fun q hq => by
        simp only [List.mem_cons, List.not_mem_nil, or_false] at hq
        rcases hq with rfl | rfl | rfl | rfl
        · exact ⟨rx, by show (a.take x).length ≤ c0; omega⟩
        · exact ⟨rxy, by show ((a.drop x).take (y - x)).length ≤ c0 - x; omega⟩
        · exact ⟨Rd.nil, Nat.le_refl _⟩
        · exact ⟨rz, by show (a.drop y).length ≤ c0 - y; omega⟩
      have V : Hid ((([⟨A0, c0, a.take x⟩, ⟨cut A0 x c0, c0 - x, (a.drop x).take (y - x)⟩, ⟨none, 0, []⟩, ⟨cut A0 y c0, c0 - y, a.drop y⟩] : List Part).map Part.val).toArray = #[.slice A0 x c0, .slice (cut A0 x c0) (y - x) (c0 - x), .slice none 0 0, .slice (cut A0 y c0) (k - y) (c0 - y)]) := by
        show _ = _
        rw [List.map_cons, List.map_cons, List.map_cons, List.map_cons, List.map_nil, Part.val, Part.val, Part.val, Part.val, lx, lxy, ly]
        rfl
      have E : Hid (allOf [⟨A0, c0, a.take x⟩, ⟨cut A0 x c0, c0 - x, (a.drop x).take (y - x)⟩, ⟨none, 0, []⟩, ⟨cut A0 y c0, c0 - y, a.drop y⟩] = a) := by
        show _ = _
        have h1 : a.take x ++ ((a.drop x).take (y - x) ++ a.drop y) = a := by
          have : a.drop y = (a.drop x).drop (y - x) := by rw [List.drop_drop, Nat.add_sub_cancel' hxy]
          rw [this, List.take_append_drop, List.take_append_drop]
        simpa [allOf] using h1
      clear rx rxy rz lx lxy ly
      refine wp_region_seq Non [(0, true), (1, true), (2, true), (3, true), (4, true), (5, true), (6, true), (7, true), (8, true), (9, true), (10, true), (11, true), (14, true), (12, false), (13, false), (15, true), (16, true), (17, true), (19, true), (18, false), (20, true), (21, true), (22, true), (24, true), (23, false), (25, true), (26, true), (27, true)] (by kernel_rfl) (by kernel_rfl) (by kernel_rfl) ?_
      have X8 := X.drew
      have S8 : Strm wr.drew _ _ := S
      have T8 : Strm wr.drew _ _ := T
      have B8 := B.drew
      generalize wr.drew = z at X8 S8 T8 B8 ⊢
      clear X S T B Gw
      have lw : ∀ W, Ext Non z W → (bigLoad 25 (.pointer (some ⟨w2.heap.size, 0, none⟩))).run Tryd.prog W = .ok (.agg (ba (sha a))) W := fun W h => load_sha (B8.extN_ h)
      iterate 13 (refine wpSeq_quiet rfl rfl ?_; apply Exists.intro; refine ⟨?_, ?_⟩; (intro W hW; have q1 := lw W hW; go_simp; try with_reducible rfl); (intro K hK; simp only [Act.put, List.setIfInBounds_toArray, List.set_cons_zero, List.set_cons_succ]; refine hK _ ?_; clear hK K))
      refine wpSeq_call rfl rfl (fun K hK => ?_)
      go_simp
      refine hK _ _ ((Ext.refl Non z).alloc _) ?_
      clear hK K
      refine wpSeq_call rfl rfl (fun K hK => ?_)
      go_simp
      have ctr := sumN_calls X8 G hw2 [⟨A0, c0, a.take x⟩, ⟨cut A0 x c0, c0 - x, (a.drop x).take (y - x)⟩, ⟨none, 0, []⟩, ⟨cut A0 y c0, c0 - y, a.drop y⟩] pa 4 rfl (by rw [E.out]; exact hll) (by decide) #[.slice A0 x c0, .slice (cut A0 x c0) (y - x) (c0 - x), .slice none 0 0, .slice (cut A0 y c0) (k - y) (c0 - y)] V.out (Ext.refl Non _) a E.out
      with_reducible refine Calls.mono ctr ?_
      clear ctr
      rintro e z3 ⟨rfl, y3⟩
      go_simp
      refine hK _ _ y3 ?_
      clear hK K
      have Y3 : Ext Non z z3 := ((Ext.refl Non z).alloc _).transN y3
      clear y3
      have lw3 : ∀ W, Ext Non z3 W → (bigLoad 25 (.pointer (some ⟨w2.heap.size, 0, none⟩))).run Tryd.prog W = .ok (.agg (ba (sha a))) W := fun W h => lw W (Y3.transN h)
      iterate 4 (refine wpSeq_quiet rfl rfl ?_; apply Exists.intro; refine ⟨?_, ?_⟩; (intro W hW; have q1 := lw3 W hW; go_simp; try with_reducible rfl); (intro K hK; simp only [Act.put, List.setIfInBounds_toArray, List.set_cons_zero, List.set_cons_succ]; refine hK _ ?_; clear hK K))
      have X9 := X8.transN Y3
      have hw9 := X9.size
      refine wpSeq_call rfl rfl (fun K hK => ?_)
      go_simp
      have ctr := ssum_calls (S8.extN Y3) (G.extN X9) (by omega) hll
      with_reducible refine Calls.mono ctr ?_
      clear ctr
      rintro e z4 ⟨rfl, y4⟩
      go_simp
      refine hK _ _ y4 ?_
      clear hK K
      have Y4 : Ext Non z z4 := Y3.transN y4
      clear y4
      have lw4 : ∀ W, Ext Non z4 W → (bigLoad 25 (.pointer (some ⟨w2.heap.size, 0, none⟩))).run Tryd.prog W = .ok (.agg (ba (sha a))) W := fun W h => lw W (Y4.transN h)
      iterate 4 (refine wpSeq_quiet rfl rfl ?_; apply Exists.intro; refine ⟨?_, ?_⟩; (intro W hW; have q1 := lw4 W hW; go_simp; try with_reducible rfl); (intro K hK; simp only [Act.put, List.setIfInBounds_toArray, List.set_cons_zero, List.set_cons_succ]; refine hK _ ?_; clear hK K))
      have X10 := X8.transN Y4
      have hw10 := X10.size
      refine wpSeq_call rfl rfl (fun K hK => ?_)
      go_simp
      have ctr := ssum_calls (T8.extN Y4) (G.extN X10) (by omega) hll
      with_reducible refine Calls.mono ctr ?_
      clear ctr
      rintro e z5 ⟨rfl, y5⟩
      go_simp
      refine hK _ _ y5 ?_
      clear hK K
      have X11 := X10.transN y5
      iterate 3 (refine wpSeq_quiet rfl rfl ?_; apply Exists.intro; refine ⟨?_, ?_⟩; (intro W hW; go_simp; try with_reducible rfl); (intro K hK; simp only [Act.put, List.setIfInBounds_toArray, List.set_cons_zero, List.set_cons_succ]; refine hK _ ?_; clear hK K))
      refine wpSeq_end ?_
      go_wp2
      go_ret
      exact ⟨rfl, X11.belowN⟩
end Go.Proofs.YtbhplepbccgecaaDoor
