/- The law ShaStreams: a stream is what it has taken, at any time; for any slice of slices of bytes. -/
import Derived.Test.YtbhplepbccgecaaDoorShaTells
import Derived.Test.YtbhplepbccgecaaDoorConv
namespace Go.Proofs.YtbhplepbccgecaaDoor
open Go.RowKit

theorem rd_mark1 (w : World) (t : TypeId) (cs : List Value) (fr : Nat × Nat) : Rd (w.alloc (.cells cs.toArray t fr)) (fun k => k = w.heap.size) (some ⟨w.heap.size, 0, none⟩) cs :=
  .inr ⟨_, rfl, rfl, fun j u hu => by rw [addr_add, cell_of_row _ _ _ _ _ _ (heap_alloc_new w _)]; simpa using hu⟩
set_option maxRecDepth 100000 in
set_option maxHeartbeats 4000000 in
theorem streams_walk (w : World) (G : Glob w) (hw2 : 2 ≤ w.heap.size) (A0 : Option Addr) (len cap : Nat) (hd : Dec Tryd.prog w 22 [.slice A0 len cap]) :
    Calls Tryd.prog 4 #[.slice A0 len cap] w fun e w' => e = .returned (.bool true) ∧ Below w.heap.size w w' := by
  obtain ⟨qs, hql, hlc, hcm, hqs, r0⟩ := hd.parts
  clear hd
  simp only [maxLen] at hcm
  have z1 := strm0_ne
  have z2 := zrow32_ne
  have kc := fun (w : World) (C : Array Value) (n c : Nat) => Lib.run_convert_bytes_const (P := Tryd.prog) w 24 5 C n c Tryd.underlying24 Tryd.underlying5
  go_enter Tryd.func4, Tryd.ntmps4
  go_wp2_with fail
  have ctr := shown_calls G hw2
  with_reducible refine Calls.mono ctr ?_
  clear ctr
  rintro e w1 ⟨rfl, x1⟩
  have S1 := strm_new w1
  have X1 : Ext Non w (w1.alloc (.cells strm0 34)) := x1.alloc _
  have hp1 : w.heap.size ≤ w1.heap.size := x1.size
  go_wp2_with fail
  generalize w1.heap.size = p at *
  go_loopw [5, 6] (fun s i wr => ∃ (k : Nat) (L : List UInt8), k ≤ len ∧ k ≤ 10 ∧ s = .string (str L) ∧ i = .int .i64 k ∧ L.length ≤ 100 * k ∧ Strm wr p L ∧ Ext Non w wr) (fun _ i _ => len - (intOf i).toNat)
  case atStart => exact ⟨0, [], by omega, by omega, rfl, rfl, by simp, S1, X1⟩
  case round =>
    clear x1 S1 X1
    obtain ⟨k, L, hk, hk6, rfl, rfl, hLl, S, X⟩ := hrel
    by_cases hlt : k < len ∧ k < 10
    · obtain ⟨hlt, hlt6⟩ := hlt
      have i1 : (k : Int) < (len : Int) := by omega
      have i6 : (k : Int) < 10 := by omega
      obtain ⟨q, hq⟩ : ∃ q, qs[k]? = some q := ⟨_, List.getElem?_eq_getElem (by omega)⟩
      have hqm : q ∈ qs := List.mem_of_getElem? hq
      obtain ⟨hqc, rq⟩ := hqs q hqm
      obtain ⟨S0, c0⟩ := (r0.extN X).ix (k := k) (u := .slice q.a q.l.length q.c) (by rw [List.getElem?_map, hq]; rfl)
      obtain ⟨qa, qc, ql⟩ := q
      dsimp only at *
      obtain ⟨qn, hqn⟩ : ∃ n, ql.length = n := ⟨_, rfl⟩
      obtain ⟨m, hm, hm1, hm2, hm3⟩ := min_at qn 100 (by omega)
      have vk : IntKind.i64.wrap (k : Int) = (k : Int) := by rw [IntKind.wrap_i64]; omega
      rw [hqn] at c0
      go_wp2_with fail
      have rm : Rd w (· < w.heap.size) qa (bvs (ql.take m)) := by
        have := rq.take m
        rwa [← bvs_take5] at this
      have lm : (ql.take m).length = m := by simp; omega
      obtain ⟨ml, hml⟩ : ∃ x, ql.take m = x := ⟨_, rfl⟩
      rw [hml] at rm lm
      have m1 : (m : Int) ≤ (qc : Int) := by omega
      have m0 : (0 : Int) ≤ (m : Int) := by omega
      have cw : ∀ W, Ext Non wr W → W.cell? ((A0.getD default).add k) = some (.slice qa qn qc) := fun W hW => hW.cell c0 (fun h => h)
      clear hqs r0 hq hqm rq hml c0
      refine wp_region_seqP (fun W => Ext Non wr W) ((1, true) :: (2, true) :: (3, true) :: (4, true) :: (5, true) :: (6, true) :: (7, true) :: (8, true) :: (9, true) :: (10, true) :: (11, true) :: (0, false) :: (12, false) :: (13, true) :: []) (by kernel_rfl) (by kernel_rfl) (by kernel_rfl) (Ext.refl _ wr).drew ?_
      iterate 11 (refine wpSeqP_quiet rfl rfl ?_; apply Exists.intro; refine ⟨?_, ?_⟩; (intro W hW; have c0 := cw W hW; go_simp; try with_reducible rfl); (intro K hK; simp only [Act.put, List.setIfInBounds_toArray, List.set_cons_zero, List.set_cons_succ]; refine hK _ ?_; clear hK K))
      clear cw
      have O1 : OwB (wr.drew.alloc (.cells #[] 5)) wr.heap.size (some ⟨wr.heap.size, 0, none⟩) 0 [] := World.ownsRow_made wr.drew #[] 0 (Nat.le_refl _) (by simp [maxLen]) rfl
      have X1 : Ext Non wr (wr.drew.alloc (.cells #[] 5)) := (Ext.refl Non wr).drew.alloc _
      have r1 := (rm.extN X).extN X1
      have hs1 : wr.heap.size ≤ (wr.drew.alloc (.cells #[] 5)).heap.size := X1.size
      refine wpSeqP_call rfl rfl (fun K hK => ?_)
      go_simp
      refine hK _ _ X1 ?_
      clear hK K
      obtain ⟨A', c', w5, hrun, o5, x5, hob⟩ := run_ap8 24 O1 r1 qc 0 m rfl lm (by simp; omega) hs1
      have X5 : Ext Non wr w5 := X1.trans x5 (fun i hi h => by
        have h : wr.heap.size = i := Option.some.inj h
        omega)
      refine wpSeqP_call rfl rfl (fun K hK => ?_)
      refine op_app _ _ rfl rfl rfl hrun ?_
      simp only [Act.put, List.setIfInBounds_toArray, List.set_cons_zero, List.set_cons_succ]
      refine hK _ _ X5 ?_
      clear hK K
      clear hrun x5 X1 O1 r1 hs1 hob rm
      iterate 1 (refine wpSeqP_quiet rfl rfl ?_; apply Exists.intro; refine ⟨?_, ?_⟩; (intro W hW; go_simp; try with_reducible rfl); (intro K hK; simp only [Act.put, List.setIfInBounds_toArray, List.set_cons_zero, List.set_cons_succ]; refine hK _ ?_; clear hK K))
      refine wpSeqP_end ?_
      rw [List.nil_append] at o5
      rw [Nat.zero_add]
      have hwr := S.lt
      have S5 := S.extN X5
      have X6 := X.transN X5
      have hw5 := X5.size
      have Gw5 := G.extN X6
      obtain ⟨cs, cn, cl, cst, T5⟩ := S5.copy
      have X7 : Ext Non w (w5.alloc (.cells cs 34)) := X6.alloc _
      have S7 := S5.extN ((Ext.refl Non w5).alloc (.cells cs 34))
      have o7 := o5.alloc (.cells cs 34)
      clear S S5 X X5
      have kc1 := kc (w5.alloc (.cells cs 34)) #[.int .u8 111, .int .u8 116, .int .u8 104, .int .u8 101, .int .u8 114] 5 5
      rw [World.size_alloc, show (#[.int .u8 111, .int .u8 116, .int .u8 104, .int .u8 101, .int .u8 114] : Array Value).size = 5 from rfl] at kc1
      have rk := rd_mark1 (w5.alloc (.cells cs 34)) 5 (bvs [111, 116, 104, 101, 114]) (5, 6)
      rw [World.size_alloc] at rk
      have X8 : Ext Non w ((w5.alloc (.cells cs 34)).alloc (.cells #[.int .u8 111, .int .u8 116, .int .u8 104, .int .u8 101, .int .u8 114] 5 (5, 6))) := X7.alloc _
      have T6 := T5.extN ((Ext.refl Non _).alloc (.cells #[.int .u8 111, .int .u8 116, .int .u8 104, .int .u8 101, .int .u8 114] 5 (5, 6)))
      have S8 := S7.extN ((Ext.refl Non _).alloc (.cells #[.int .u8 111, .int .u8 116, .int .u8 104, .int .u8 101, .int .u8 114] 5 (5, 6)))
      have o8 := o7.alloc (.cells #[.int .u8 111, .int .u8 116, .int .u8 104, .int .u8 101, .int .u8 114] 5 (5, 6))
      have hA' : ∀ i, ob A' = some i → wr.heap.size ≤ i ∧ i < w5.heap.size := fun i hi => o5.lt hi
      have hX := X6.size
      clear kc o7 o5 S7 T5 X6 X7
      go_wp2_with fail
      clear kc1 cl cst cn
      have e5 : ([111, 116, 104, 101, 114] : List UInt8).length = 5 := rfl
      have ctr := write_calls T6 (G.extN X8) (by omega) 5 5 rk e5 (Nat.le_refl _) (fun h => by have h : w5.heap.size = w5.heap.size + 1 := h; omega) (by rw [e5]; omega)
      with_reducible refine Calls.mono ctr ?_
      clear ctr
      rintro e w6 ⟨⟨u1, rfl⟩, T9, x6⟩
      have X9 : Ext Non w w6 := X8.trans x6 (fun i hi h => by have h : i = w5.heap.size := h; omega)
      have S9 := S8.ext x6 (fun h => by have h : p = w5.heap.size := h; omega)
      have o9 := o8.ext x6 (fun i hi h => by have := hA' i hi; have h : i = w5.heap.size := h; omega)
      clear T9 T6 rk X8 S8 o8 x6
      go_wp2_with fail
      have hml : ml.length ≤ c' := o9.len.1
      have ctr := write_calls S9 (G.extN X9) (by omega) c' m o9.rd lm (by omega) (fun h => by have := hA' p h; omega) (by omega)
      with_reducible refine Calls.mono ctr ?_
      clear ctr
      rintro e w7 ⟨⟨u2, rfl⟩, S10, x7⟩
      have X10 : Ext Non w w7 := X9.trans x7 (fun i hi h => by have h : i = p := h; omega)
      have o10 := o9.ext x7 (fun i hi h => by have := hA' i hi; have h : i = p := h; omega)
      have cv := run_convert_rd w7 24 9 5 Tryd.underlying24 Tryd.underlying9 Tryd.underlying5 o10.rd m c' lm
      obtain ⟨n1, hn1⟩ : ∃ n, L.length = n := ⟨_, rfl⟩
      obtain ⟨L2, hL2⟩ : ∃ l, L ++ ml = l := ⟨_, rfl⟩
      obtain ⟨hs1, hs2, hs3, hs4, hmax⟩ := sum_facts hL2 n1 m hn1 lm (by omega)
      rw [hL2] at S10
      have hl2 : L2.length ≤ 100 * (k + 1) := by rw [← hL2, List.length_append]; omega
      clear S9 X9 o9 x7 hL2
      go_wp2_with fail
      clear cv hs1 hs2 hs3 hs4 hmax
      have hAA : ∀ i, ob A' = some i → w.heap.size ≤ i ∧ p < i := fun i hi => by have := hA' i hi; omega
      go_loopw [9] (fun i wr2 => ∃ (j : Nat) (l' : List UInt8), j ≤ m ∧ i = .int .i64 j ∧ l'.length = m ∧ OwB wr2 w.heap.size A' c' l' ∧ Strm wr2 p L2 ∧ Ext Non w wr2) (fun i _ => m - (intOf i).toNat)
      case atStart => exact ⟨0, ml, by omega, rfl, lm, o10.lower (fun i hi => (hAA i hi).1), S10.strm, X10⟩
      case round =>
        clear S10 o10 X10
        obtain ⟨j, l', hj, rfl, hl', o, S, X⟩ := hrel
        by_cases hjm : j < m
        · obtain ⟨hA, ⟨u, hc⟩, hf, o', x'⟩ := o.set_ (j := j) (by omega) 63 63 rfl
          have S' := S.ext x' (fun h => by have := hAA p h; omega)
          have X' := X.trans x' (fun i hi he => by have := hAA i he; omega)
          clear hAA hA' S X o
          go_wp2_with fail
          exact ⟨⟨j + 1, l'.set j 63, by omega, by go_num, by simpa using hl', o', S', X'⟩, by simp [intOf]; omega⟩
        · obtain rfl : m = j := by omega
          clear o hA' hAA
          have hxs := X.size
          go_wp2_with fail
          have ctr := ssum_calls S (G.extN X) (by omega) (by omega)
          with_reducible refine Calls.mono ctr ?_
          clear ctr
          rintro e w8 ⟨rfl, x8⟩
          have y8 : Ext Non wr (w8.alloc (.cells (ba (sha L2)) 25)) := x8.alloc _
          have B8 := Blk.new w8 25 (ba (sha L2))
          go_wp2_with fail
          generalize w8.alloc (.cells (ba (sha L2)) 25) = w9 at *
          generalize w8.heap.size = g1 at *
          have S11 := S.extN y8
          have X11 := X.transN y8
          clear S X x8 y8
          have ctr := ssum_calls S11 (G.extN X11) (by have := X11.size; omega) (by omega)
          with_reducible refine Calls.mono ctr ?_
          clear ctr
          rintro e w10 ⟨rfl, x10⟩
          have y10 : Ext Non w9 (w10.alloc (.cells (ba (sha L2)) 25)) := x10.alloc _
          have B10 := Blk.new w10 25 (ba (sha L2))
          have B9 := B8.extN_ y10
          go_wp2_with fail
          generalize w10.alloc (.cells (ba (sha L2)) 25) = w11 at *
          generalize w10.heap.size = g2 at *
          have S12 := S11.extN y10
          have X12 := X11.transN y10
          clear S11 X11 x10 y10 B8
          have lw1 : ∀ W, Ext Non w11 W → (bigLoad 25 (.pointer (some ⟨g1, 0, none⟩))).run Tryd.prog W = .ok (.agg (ba (sha L2))) W := fun W h => load_sha (B9.extN_ h)
          have lw2 : ∀ W, Ext Non w11 W → (bigLoad 25 (.pointer (some ⟨g2, 0, none⟩))).run Tryd.prog W = .ok (.agg (ba (sha L2))) W := fun W h => load_sha (B10.extN_ h)
          have cs := fun W => run_arr_all (P := Tryd.prog) W Tryd.underlying25 s8 g1 0 (by decide)
          have cv := fun W (hW : Ext Non w11 W) => run_convert_rd W 24 9 5 Tryd.underlying24 Tryd.underlying9 Tryd.underlying5 ((rd_ba B9).extN hW) 32 32 (sha_len L2)
          refine wp_region_seq Non ((0, true) :: (1, true) :: (2, true) :: (3, true) :: (4, true) :: (5, true) :: (6, true) :: (7, false) :: (8, true) :: (9, true) :: []) (by kernel_rfl) (by kernel_rfl) (by kernel_rfl) ?_
          iterate 7 (refine wpSeq_quiet rfl rfl ?_; apply Exists.intro; refine ⟨?_, ?_⟩; (intro W hW; have c1 := cv W hW.drewL; have c2 := lw1 W hW.drewL; have c3 := lw2 W hW.drewL; go_simp; try with_reducible rfl); (intro K hK; simp only [Act.put, List.setIfInBounds_toArray, List.set_cons_zero, List.set_cons_succ]; refine hK _ ?_; clear hK K))
          refine wpSeq_call rfl rfl (fun K hK => ?_)
          go_simp
          have ctr := rsum_calls w11.drew L2 (by omega)
          with_reducible refine Calls.mono ctr ?_
          clear ctr
          rintro e w12 ⟨rfl, x12⟩
          go_simp
          refine hK _ _ x12 ?_
          clear hK K
          iterate 2 (refine wpSeq_quiet rfl rfl ?_; apply Exists.intro; refine ⟨?_, ?_⟩; (intro W hW; go_simp; try with_reducible rfl); (intro K hK; simp only [Act.put, List.setIfInBounds_toArray, List.set_cons_zero, List.set_cons_succ]; refine hK _ ?_; clear hK K))
          refine wpSeq_end ?_
          have X13 := X12.drew.transN x12
          have S13 := S12.extN ((Ext.refl Non w11).drew.transN x12)
          clear cs cv lw1 lw2 x12 X12 S12 B9 B10
          go_wp2_with fail
          exact ⟨⟨k + 1, L2, by omega, by omega, rfl, by go_num, hl2, S13, X13⟩, by simp [intOf]; omega⟩
    · have i1 : ¬ ((k : Int) < (len : Int) ∧ (k : Int) < 10) := by omega
      have hX := X.size
      clear kc
      go_wp2_with fail
      all_goals
        have ctr := ssum_calls S (G.extN X) (by omega) (by omega)
        with_reducible refine Calls.mono ctr ?_
        clear ctr
        rintro e w4 ⟨rfl, x4⟩
        obtain ⟨c5, w5, cb, hc5, x5, hs5, r5⟩ := conv_bytes w4 L
        have X5 := (X.transN x4).transN x5
        have pA : ∀ q ∈ ([⟨some ⟨w4.heap.size, 0, none⟩, c5, L⟩] : List Part), Rd w5 (· < w5.heap.size) q.a (bvs q.l) ∧ q.l.length ≤ q.c := fun q hq => by
          simp only [List.mem_cons, List.not_mem_nil, or_false] at hq
          subst hq
          exact ⟨r5.imp (fun k hk _ => hk), hc5⟩
        have V : Hid ((([⟨some ⟨w4.heap.size, 0, none⟩, c5, L⟩] : List Part).map Part.val).toArray = #[.slice (some ⟨w4.heap.size, 0, none⟩) L.length c5]) := by
          show _ = _
          simp [Part.val]
        have E : Hid (allOf [⟨some ⟨w4.heap.size, 0, none⟩, c5, L⟩] = L) := by show _ = _; simp [allOf]
        clear hs5
        go_wp2_with fail
        have ctr := sumN_calls (Ext.refl Non w5) (G.extN X5) (by have := X5.size; omega) [⟨some ⟨w4.heap.size, 0, none⟩, c5, L⟩] pA 1 rfl (by rw [E.out]; omega) (by decide) #[.slice (some ⟨w4.heap.size, 0, none⟩) L.length c5] V.out (Ext.refl Non _) L E.out
        with_reducible refine Calls.mono ctr ?_
        clear ctr
        rintro e w6 ⟨rfl, x6⟩
        have X6 := (X5.alloc (.cells #[.slice (some ⟨w4.heap.size, 0, none⟩) L.length c5] 24)).transN x6
        go_wp2_with fail
        go_ret
        exact ⟨by simp, X6.belowN⟩
end Go.Proofs.YtbhplepbccgecaaDoor
