/- The law ShaNone: bytes that are none change nothing; for any bytes and any number. -/
import Derived.Test.YtbhplepbccgecaaDoorSha03
import Derived.Test.YtbhplepbccgecaaDoorSeqT
import Derived.Test.YtbhplepbccgecaaDoorShaL
namespace Go.Proofs.YtbhplepbccgecaaDoor
open Go.RowKit

set_option maxRecDepth 100000 in
set_option maxHeartbeats 600000 in
theorem snone_walk (A0 : Option Addr) (n0 c0 : Nat) (l0 : List UInt8) (v1 : Int) (w : World) (G : Glob w) (hw2 : 2 ≤ w.heap.size)
    (hl0 : l0.length = n0) (hc0 : n0 ≤ c0) (r0 : Rd w (· < w.heap.size) A0 (bvs l0)) :
    Calls Tryd.prog 9 #[.slice A0 n0 c0, .int .i64 v1] w fun e w' => e = .returned (.bool true) ∧ Below w.heap.size w w' := by
  obtain ⟨k, hk, hka, hkb, _⟩ := min_at n0 300 (by omega)
  obtain ⟨a, ha⟩ : ∃ l, l0.take k = l := ⟨_, rfl⟩
  have ra : Rd w (· < w.heap.size) A0 (bvs a) := by rw [← ha, bvs_take5]; exact r0.take k
  have la : a.length = k := by rw [← ha]; simp; omega
  have ma : k ≤ c0 := by omega
  have ia : (k : Int) ≤ (c0 : Int) := by omega
  clear ha r0 hl0
  obtain ⟨p, hp, hpa⟩ := and16_at v1
  obtain ⟨n, hn⟩ : ∃ n, n = p % 11 := ⟨_, rfl⟩
  have hn1 : n ≤ 10 := by omega
  have e1 : (p : Int).tmod 11 = (n : Int) := by rw [hn]; rfl
  clear hn
  have z1 := strm0_ne
  have z2 := zrow32_ne
  go_enter Tryd.func9, Tryd.ntmps9
  go_wp2_with fail
  have ctr := shown_calls G hw2
  with_reducible refine Calls.mono ctr ?_
  clear ctr
  rintro e w1 ⟨rfl, x1⟩
  have S1 := strm_new w1
  have X1 : Ext Non w (w1.alloc (.cells strm0 34)) := x1.alloc _
  have hg := x1.size
  have O1 := OwV.nil (E := 24) (w1.alloc (.cells strm0 34)) w.heap.size
  clear x1
  go_wp2_with fail
  generalize w1.heap.size = g at *
  go_loopw [7, 8] (fun v i wr => ∃ (j : Nat) (A : Option Addr) (c : Nat), j ≤ n ∧ v = .slice A j c ∧ i = .int .i64 j ∧ OwV 24 wr w.heap.size A c (List.replicate j (.slice none 0 0)) ∧ (∀ k, ob A = some k → g < k) ∧ Strm wr g [] ∧ Ext Non w wr) (fun _ i _ => n - (intOf i).toNat)
  case atStart => exact ⟨0, none, 0, by omega, rfl, rfl, O1, (by intro k hk; cases hk), S1, X1⟩
  case round =>
    clear O1 S1 X1
    obtain ⟨j, A, c, hj, rfl, rfl, o, hA, S, X⟩ := hrel
    have Gw := G.extN X
    by_cases hjn : j < n
    · have i1 : (j : Int) < (n : Int) := by omega
      have l1 : ([] : List UInt8).length + ([] : List UInt8).length ≤ 1125899906842624 := by simp
      go_wp2_with fail
      have ctr := write_calls S Gw (by omega) 0 0 (Rd.nil (w := wr) (D := Non) (A := none)) rfl (by omega) (fun h => h) l1
      with_reducible refine Calls.mono ctr ?_
      clear ctr
      rintro e w2 ⟨⟨u1, rfl⟩, S2, x2⟩
      have X2 : Ext Non w w2 := X.trans x2 (fun i hi h => by have h : i = g := h; omega)
      have o2 := o.ext x2 (fun k hk h => by have h : k = g := h; have := hA k hk; omega)
      have S3 := S2.strm.extN ((Ext.refl Non w2).alloc (.cells #[] 5))
      have X3 : Ext Non w (w2.alloc (.cells #[] 5)) := X2.alloc _
      have o3 := o2.alloc (.cells #[] 5)
      clear S X o x2 o2 S2 X2
      go_wp2_with fail
      have ctr := write_calls S3 (G.extN X3) (by omega) 0 0 (Rd.nil (w := w2.alloc (.cells #[] 5)) (D := Non) (A := some ⟨w2.heap.size, 0, none⟩)) rfl (by omega) (fun h => h) l1
      with_reducible refine Calls.mono ctr ?_
      clear ctr
      rintro e w4 ⟨⟨u2, rfl⟩, S4, x4⟩
      have X4 : Ext Non w w4 := X3.trans x4 (fun i hi h => by have h : i = g := h; omega)
      have o4 := o3.ext x4 (fun k hk h => by have h : k = g := h; have := hA k hk; omega)
      have hw4 := X4.size
      have hg4 := S4.lt
      clear S3 X3 x4 o3 l1
      go_wp2_with (at_builtin; refine wp_apV Tryd.underlying22 plinfo rfl (by decide) rfl (.tmp 27) (.tmp 28) rfl j rfl (o4.alloc (.cells #[.slice none 0 0] 24)) (by simp) 1 1 rfl (rd_new w4 24 [.slice none 0 0]) (by simp [Value.oneCell']) rfl (by simp; omega) (by rw [World.size_alloc]; omega) ?_; intro A' c' w5 o5 x5 hob)
      have X5 : Ext Non w w5 := (X4.alloc _).trans x5 (fun i hi h => by have := hA i h; omega)
      have S5 := (S4.extN ((Ext.refl Non w4).alloc (.cells #[.slice none 0 0] 24))).ext x5 (fun h => by have := hA _ h; omega)
      have hA' : ∀ k, ob A' = some k → g < k := fun k hk => by
        rcases hob with h | h
        · exact hA k (h ▸ hk)
        · rw [h, World.size_alloc] at hk; injection hk with hk; omega
      exact ⟨⟨j + 1, A', c', by omega, rfl, by go_num, by rw [List.replicate_succ']; exact o5, hA', S5.strm, X5⟩, by simp [intOf]; omega⟩
    · have i1 : (n : Int) ≤ (j : Int) := by omega
      obtain rfl : j = n := by omega
      go_wp2_with fail
      have ctr := ssum_calls S Gw (by have := X.size; omega) (by simp)
      with_reducible refine Calls.mono ctr ?_
      clear ctr
      rintro e w2 ⟨rfl, x2⟩
      have X2 : Ext Non w (w2.alloc (.cells (ba (sha [])) 25)) := (X.transN x2).alloc _
      have y2 : Ext Non wr (w2.alloc (.cells (ba (sha [])) 25)) := x2.alloc _
      have S2 := S.extN y2
      have o2 := o.extN y2
      have B2 := Blk.new w2 25 (ba (sha []))
      have hg2 : g < w2.heap.size := Nat.lt_of_lt_of_le S.lt x2.size
      have hA2 : ∀ k, ob A = some k → k < w2.heap.size := fun k hk => Nat.lt_of_lt_of_le (o.lt hk).2 x2.size
      have nD : ¬ (g < w.heap.size) := by omega
      have l1 : ([] : List UInt8).length + a.length ≤ 1125899906842624 := by simp; omega
      have l2 : ([] ++ a).length + ([] : List UInt8).length ≤ 1125899906842624 := by simp; omega
      clear X S o x2 y2 Gw
      go_wp2_with fail
      have ctr := write_calls S2 (G.extN X2) (by omega) c0 k (ra.extN X2) la ma nD l1
      with_reducible refine Calls.mono ctr ?_
      clear ctr
      rintro e w3 ⟨⟨u1, rfl⟩, S3, x3⟩
      have X3 : Ext Non w w3 := X2.trans x3 (fun i hi h => by have h : i = g := h; omega)
      have o3 := o2.ext x3 (fun k hk h => by have h : k = g := h; have := hA k hk; omega)
      have B3 := B2.ext x3 (fun h => by have h : w2.heap.size = g := h; omega)
      clear X2 S2 o2 B2 x3
      go_wp2_with fail
      have ctr := write_calls S3.strm (G.extN X3) (by omega) 0 0 (Rd.nil (w := w3) (D := Non) (A := none)) rfl (by omega) (fun h => h) l2
      with_reducible refine Calls.mono ctr ?_
      clear ctr
      rintro e w4 ⟨⟨u2, rfl⟩, S4, x4⟩
      have X4 : Ext Non w w4 := X3.trans x4 (fun i hi h => by have h : i = g := h; omega)
      have o4 := o3.ext x4 (fun k hk h => by have h : k = g := h; have := hA k hk; omega)
      have B4 := B3.ext x4 (fun h => by have h : w2.heap.size = g := h; omega)
      rw [List.nil_append, List.append_nil] at S4
      clear X3 S3 o3 B3 x4 l1 l2
      go_wp2_with fail
      have pa : ∀ q ∈ ([⟨A0, c0, a⟩] : List Part), Rd w (· < w.heap.size) q.a (bvs q.l) ∧ q.l.length ≤ q.c := fun q hq => by
        simp only [List.mem_cons, List.not_mem_nil, or_false] at hq
        subst hq
        exact ⟨ra, by show a.length ≤ c0; omega⟩
      have V : Hid ((([⟨A0, c0, a⟩] : List Part).map Part.val).toArray = #[.slice A0 k c0]) := by
        show _ = _
        simp [Part.val, la]
      have E : Hid (allOf [⟨A0, c0, a⟩] = a) := by show _ = _; simp [allOf]
      have hll : a.length ≤ 562949953421312 := by omega
      have pb : ∀ q ∈ (List.replicate j ⟨none, 0, []⟩ ++ [⟨A0, c0, a⟩, ⟨none, 0, []⟩] : List Part), Rd w (· < w.heap.size) q.a (bvs q.l) ∧ q.l.length ≤ q.c := fun q hq => by
        simp only [List.mem_append, List.mem_replicate, List.mem_cons, List.not_mem_nil, or_false] at hq
        rcases hq with ⟨_, rfl⟩ | rfl | rfl
        · exact ⟨Rd.nil, Nat.le_refl _⟩
        · exact ⟨ra, by show a.length ≤ c0; omega⟩
        · exact ⟨Rd.nil, Nat.le_refl _⟩
      have VB : Hid ((List.replicate j ⟨none, 0, []⟩ ++ [⟨A0, c0, a⟩, ⟨none, 0, []⟩] : List Part).map Part.val = List.replicate j (.slice none 0 0) ++ [.slice A0 k c0, .slice none 0 0]) := by
        show _ = _
        simp [Part.val, la]
      have EB : Hid (allOf (List.replicate j ⟨none, 0, []⟩ ++ [⟨A0, c0, a⟩, ⟨none, 0, []⟩]) = a) := by show _ = _; simp [allOf]
      have hS : ∀ k, ob A = some k → w.heap.size ≤ k ∧ k < w4.heap.size := fun k hk => o4.lt hk
      refine wp_region_tree (fun k => ob A = some k) (.q 0 (.q 1 (.q 2 (.c 3 (.q 4 (.q 5 (.q 6 (.q 8 (.b 7 (.c 9 (.c 10 (.q 11 (.q 12 (.q 13 (.q 14 (.q 15 (.q 19 (.b 16 (.b 17 (.b 18 (.c 20 (.c 21 (.q 22 (.q 23 (.q 24 .stop))))) 20 (.c 18 (.c 21 (.q 22 (.q 23 (.q 24 .stop)))))) 20 (.c 17 (.c 18 (.c 21 (.q 22 (.q 23 (.q 24 .stop))))))) 20 (.c 16 (.c 17 (.c 18 (.c 21 (.q 22 (.q 23 (.q 24 .stop)))))))))))))))) 9 (.c 7 (.c 10 (.q 11 (.q 12 (.q 13 (.q 14 (.q 15 (.q 19 (.b 16 (.b 17 (.b 18 (.c 20 (.c 21 (.q 22 (.q 23 (.q 24 .stop))))) 20 (.c 18 (.c 21 (.q 22 (.q 23 (.q 24 .stop)))))) 20 (.c 17 (.c 18 (.c 21 (.q 22 (.q 23 (.q 24 .stop))))))) 20 (.c 16 (.c 17 (.c 18 (.c 21 (.q 22 (.q 23 (.q 24 .stop))))))))))))))))))))))))) (by kernel_rfl) (by kernel_rfl) (by kernel_rfl) ?_
      have X5 := X4.drew
      have S5 : Strm1 w4.drew _ _ := S4
      have B5 := B4.drew
      have o5 := o4.drew
      have hz : w4.drew.heap.size = w4.heap.size := rfl
      generalize w4.drew = z at X5 S5 B5 o5 hz ⊢
      rw [← hz] at hS
      clear X4 S4 B4 o4
      have lw : ∀ W, Ext (fun k => ob A = some k) z W → (bigLoad 25 (.pointer (some ⟨w2.heap.size, 0, none⟩))).run Tryd.prog W = .ok (.agg (ba (sha []))) W := fun W h => load_sha (B5.ext h (fun hk => by have := hA2 _ hk; omega))
      iterate 3 (refine wpTree_quiet rfl rfl ?_; apply Exists.intro; refine ⟨?_, ?_⟩; (intro W hW; have q1 := lw W hW; go_simp; try with_reducible rfl); (intro K hK; simp only [Act.put, List.setIfInBounds_toArray, List.set_cons_zero, List.set_cons_succ]; refine hK _ ?_; clear hK K))
      have c0' : Calls Tryd.prog 12 #[.slice none 0 0] z fun e w' => e = .returned (.agg (ba (sha []))) ∧ Ext Non z w' :=
        psum_calls (ps := []) (D := fun _ => False) 0 0 ⟨Rd.nil, fun q hq => by cases hq⟩ rfl (Nat.le_refl _) (G.extN X5) (by have := X5.size; omega) (fun k hk => False.elim hk) (by simp [allOf]) (by decide)
      refine wpTree_call rfl rfl (fun K hK => ?_)
      go_simp
      have ctr := c0'
      with_reducible refine Calls.mono ctr ?_
      clear ctr
      rintro e z1 ⟨rfl, y1⟩
      go_simp
      refine hK _ _ y1.ofN ?_
      clear hK K
      clear c0' lw
      iterate 4 (refine wpTree_quiet rfl rfl ?_; apply Exists.intro; refine ⟨?_, ?_⟩; (intro W hW; go_simp; try with_reducible rfl); (intro K hK; simp only [Act.put, List.setIfInBounds_toArray, List.set_cons_zero, List.set_cons_succ]; refine hK _ ?_; clear hK K))
      have X6 := X5.transN y1
      have hw6 := X6.size
      refine wpTree_both rfl rfl rfl rfl ?_ ?_
      case' refine_1 =>
        intro K hK
        go_simp
        have ctr := ssum_calls (S5.extN y1).strm (G.extN X6) (by omega) hll
        with_reducible refine Calls.mono ctr ?_
        clear ctr
        rintro e z2 ⟨rfl, y2⟩
        go_simp
        refine hK _ _ y2.ofN ?_
        clear hK K
        refine wpTree_call rfl rfl (fun K hK => ?_)
        go_simp
        refine hK _ _ ((Ext.refl Non z2).alloc _).ofN ?_
        clear hK K
        have ctr := sumN_calls (X6.transN y2) G hw2 [⟨A0, c0, a⟩] pa 1 rfl (by rw [E.out]; exact hll) (by decide) #[.slice A0 k c0] V.out (Ext.refl Non _) a E.out
        have Y2 : Ext Non z1 (z2.alloc (.cells #[.slice A0 k c0] 24)) := y2.alloc _
        generalize z2.alloc (.cells #[.slice A0 k c0] 24) = v2 at ctr Y2 ⊢
        generalize z2.heap.size = g5 at ctr ⊢
        clear y2
      case' refine_2 =>
        intro K hK
        go_simp
        refine hK _ _ ((Ext.refl Non z1).alloc _).ofN ?_
        clear hK K
        refine wpTree_call rfl rfl (fun K hK => ?_)
        go_simp
        have ctr := ssum_calls (S5.extN (y1.alloc (.cells #[.slice A0 k c0] 24))).strm (G.extN (X6.alloc _)) (by rw [World.size_alloc]; omega) hll
        with_reducible refine Calls.mono ctr ?_
        clear ctr
        rintro e v2 ⟨rfl, y2⟩
        go_simp
        refine hK _ _ y2.ofN ?_
        clear hK K
        have ctr := sumN_calls X6 G hw2 [⟨A0, c0, a⟩] pa 1 rfl (by rw [E.out]; exact hll) (by decide) #[.slice A0 k c0] V.out y2 a E.out
        have Y2 : Ext Non z1 v2 := ((Ext.refl Non z1).alloc _).transN y2
        generalize z1.heap.size = g5 at ctr ⊢
        clear y2
      all_goals
        refine wpTree_call rfl rfl (fun K hK => ?_)
        go_simp
        with_reducible refine Calls.mono ctr ?_
        clear ctr
        rintro e z4 ⟨rfl, y4⟩
        go_simp
        refine hK _ _ y4.ofN ?_
        clear hK K
        have Y4 : Ext Non z z4 := (y1.transN Y2).transN y4
        clear Y2 y4
        iterate 6 (refine wpTree_quiet rfl rfl ?_; apply Exists.intro; refine ⟨?_, ?_⟩; (intro W hW; go_simp; try with_reducible rfl); (intro K hK; simp only [Act.put, List.setIfInBounds_toArray, List.set_cons_zero, List.set_cons_succ]; refine hK _ ?_; clear hK K))
        have X7 := X5.transN Y4
        have hw7 := X7.size
        have o7 := o5.extN Y4
        have hS7 : ∀ k, ob A = some k → w.heap.size ≤ k ∧ k < z4.heap.size := fun k hk => o7.lt hk
        refine wpTree_both rfl rfl rfl rfl ?_ ?_
        intro K hK
        go_simp
        refine hK _ _ ((Ext.refl Non z4).alloc (.cells #[.slice A0 k c0, .slice none 0 0] 24)).ofN ?_
        clear hK K
        have X8 := X7.alloc (.cells #[.slice A0 k c0, .slice none 0 0] 24)
        refine wpTree_both rfl rfl rfl rfl ?_ ?_
        obtain ⟨A', c', w5, hrun, o6, x6, hob⟩ := run_apV Tryd.underlying22 plinfo rfl 22 (o7.alloc (.cells #[.slice A0 k c0, .slice none 0 0] 24)) (rd_new z4 24 [.slice A0 k c0, .slice none 0 0]) (by simp [Value.oneCell']) 2 j 2 (by simp) rfl (by simp; omega) (by decide) (by rw [World.size_alloc]; omega)
        have X9 : Ext Non w w5 := X8.trans x6 (fun i hi h => by have := hS7 i h; omega)
        intro K hK
        refine op_app (.tmp 48) (.tmp 50) rfl rfl rfl hrun ?_
        (simp only [Act.put, List.setIfInBounds_toArray, List.set_cons_zero, List.set_cons_succ])
        refine hK _ _ x6 ?_
        clear hK K hrun
        refine wpTree_both rfl rfl rfl rfl ?_ ?_
        intro K hK
        go_simp
        have ctr := sumO_calls X9 G hw2 (List.replicate j ⟨none, 0, []⟩ ++ [⟨A0, c0, a⟩, ⟨none, 0, []⟩]) pb o6 VB.out (j + 2) (by simp) (by rw [EB.out]; exact hll) (by omega) a EB.out
        with_reducible refine Calls.mono ctr ?_
        clear ctr
        rintro e w6 ⟨rfl, x7⟩
        go_simp
        refine hK _ _ x7.ofN ?_
        clear hK K
        have X10 := X9.transN x7
        refine wpTree_call rfl rfl (fun K hK => ?_)
        go_simp
        refine hK _ _ ((Ext.refl Non w6).alloc _).ofN ?_
        clear hK K
        have ctr := sumN_calls X10 G hw2 [⟨A0, c0, a⟩] pa 1 rfl (by rw [E.out]; exact hll) (by decide) #[.slice A0 k c0] V.out (Ext.refl Non _) a E.out
        have X11 : Ext Non w (w6.alloc (.cells #[.slice A0 k c0] 24)) := X10.alloc _
        generalize w6.alloc (.cells #[.slice A0 k c0] 24) = v5 at ctr X11 ⊢
        generalize w6.heap.size = g6 at ctr ⊢
        clear hob x6 X9 X10 x7
        rotate_left
        intro K hK
        go_simp
        refine hK _ _ ((Ext.refl Non w5).alloc (.cells #[.slice A0 k c0] 24)).ofN ?_
        clear hK K
        refine wpTree_call rfl rfl (fun K hK => ?_)
        go_simp
        have ctr := sumO_calls (X9.alloc (.cells #[.slice A0 k c0] 24)) G hw2 (List.replicate j ⟨none, 0, []⟩ ++ [⟨A0, c0, a⟩, ⟨none, 0, []⟩]) pb (o6.alloc (.cells #[.slice A0 k c0] 24)) VB.out (j + 2) (by simp) (by rw [EB.out]; exact hll) (by omega) a EB.out
        with_reducible refine Calls.mono ctr ?_
        clear ctr
        rintro e v5 ⟨rfl, x7⟩
        go_simp
        refine hK _ _ x7.ofN ?_
        clear hK K
        have ctr := sumN_calls X9 G hw2 [⟨A0, c0, a⟩] pa 1 rfl (by rw [E.out]; exact hll) (by decide) #[.slice A0 k c0] V.out x7 a E.out
        have X11 : Ext Non w v5 := (X9.alloc _).transN x7
        generalize w5.heap.size = g6 at ctr ⊢
        clear hob x6 X9 x7
        rotate_left
        intro K hK
        go_simp
        refine hK _ _ ((Ext.refl Non (z4.alloc (.cells #[.slice A0 k c0, .slice none 0 0] 24))).alloc (.cells #[.slice A0 k c0] 24)).ofN ?_
        clear hK K
        obtain ⟨A', c', w5, hrun, o6, x6, hob⟩ := run_apV Tryd.underlying22 plinfo rfl 22 ((o7.alloc (.cells #[.slice A0 k c0, .slice none 0 0] 24)).alloc (.cells #[.slice A0 k c0] 24)) ((rd_new z4 24 [.slice A0 k c0, .slice none 0 0]).extN ((Ext.refl Non _).alloc (.cells #[.slice A0 k c0] 24))) (by simp [Value.oneCell']) 2 j 2 (by simp) rfl (by simp; omega) (by decide) (by rw [World.size_alloc, World.size_alloc]; omega)
        have X9 : Ext Non w w5 := (X8.alloc (.cells #[.slice A0 k c0] 24)).trans x6 (fun i hi h => by have := hS7 i h; omega)
        refine wpTree_call rfl rfl (fun K hK => ?_)
        refine op_app (.tmp 48) (.tmp 50) rfl rfl rfl hrun ?_
        (simp only [Act.put, List.setIfInBounds_toArray, List.set_cons_zero, List.set_cons_succ])
        refine hK _ _ x6 ?_
        clear hK K hrun
        refine wpTree_call rfl rfl (fun K hK => ?_)
        go_simp
        have ctr := sumO_calls X9 G hw2 (List.replicate j ⟨none, 0, []⟩ ++ [⟨A0, c0, a⟩, ⟨none, 0, []⟩]) pb o6 VB.out (j + 2) (by simp) (by rw [EB.out]; exact hll) (by omega) a EB.out
        with_reducible refine Calls.mono ctr ?_
        clear ctr
        rintro e v5 ⟨rfl, x7⟩
        go_simp
        refine hK _ _ x7.ofN ?_
        clear hK K
        have ctr := sumS_calls (v := z4.alloc (.cells #[.slice A0 k c0, .slice none 0 0] 24)) X8 G hw2 [⟨A0, c0, a⟩] pa 1 rfl (by rw [E.out]; exact hll) (by decide) #[.slice A0 k c0] V.out (x6.transN x7) (fun k hk => by have := hS7 k hk; rw [World.size_alloc]; omega) a E.out
        have X11 : Ext Non w v5 := X9.transN x7
        rw [World.size_alloc] at ctr
        generalize z4.heap.size + 1 = g6 at ctr ⊢
        clear hob x6 X9 x7
        rotate_left
        intro K hK
        go_simp
        refine hK _ _ ((Ext.refl Non z4).alloc (.cells #[.slice A0 k c0] 24)).ofN ?_
        clear hK K
        have X8 := X7.alloc (.cells #[.slice A0 k c0] 24)
        refine wpTree_call rfl rfl (fun K hK => ?_)
        go_simp
        refine hK _ _ ((Ext.refl Non (z4.alloc (.cells #[.slice A0 k c0] 24))).alloc (.cells #[.slice A0 k c0, .slice none 0 0] 24)).ofN ?_
        clear hK K
        obtain ⟨A', c', w5, hrun, o6, x6, hob⟩ := run_apV Tryd.underlying22 plinfo rfl 22 ((o7.alloc (.cells #[.slice A0 k c0] 24)).alloc (.cells #[.slice A0 k c0, .slice none 0 0] 24)) (rd_new (z4.alloc (.cells #[.slice A0 k c0] 24)) 24 [.slice A0 k c0, .slice none 0 0]) (by simp [Value.oneCell']) 2 j 2 (by simp) rfl (by simp; omega) (by decide) (by rw [World.size_alloc, World.size_alloc]; omega)
        rw [World.size_alloc] at hrun
        have X9 : Ext Non w w5 := (X8.alloc (.cells #[.slice A0 k c0, .slice none 0 0] 24)).trans x6 (fun i hi h => by have := hS7 i h; omega)
        refine wpTree_call rfl rfl (fun K hK => ?_)
        refine op_app (.tmp 48) (.tmp 50) rfl rfl rfl hrun ?_
        (simp only [Act.put, List.setIfInBounds_toArray, List.set_cons_zero, List.set_cons_succ])
        refine hK _ _ x6 ?_
        clear hK K hrun
        refine wpTree_call rfl rfl (fun K hK => ?_)
        go_simp
        have ctr := sumO_calls X9 G hw2 (List.replicate j ⟨none, 0, []⟩ ++ [⟨A0, c0, a⟩, ⟨none, 0, []⟩]) pb o6 VB.out (j + 2) (by simp) (by rw [EB.out]; exact hll) (by omega) a EB.out
        with_reducible refine Calls.mono ctr ?_
        clear ctr
        rintro e v5 ⟨rfl, x7⟩
        go_simp
        refine hK _ _ x7.ofN ?_
        clear hK K
        have ctr := sumS_calls (v := z4) X7 G hw2 [⟨A0, c0, a⟩] pa 1 rfl (by rw [E.out]; exact hll) (by decide) #[.slice A0 k c0] V.out ((((Ext.refl Non (z4.alloc (.cells #[.slice A0 k c0] 24))).alloc (.cells #[.slice A0 k c0, .slice none 0 0] 24)).ofN.trans' x6).transN x7) hS7 a E.out
        have X11 : Ext Non w v5 := X9.transN x7
        generalize z4.heap.size = g6 at ctr ⊢
        clear hob x6 X9 x7
        all_goals
          refine wpTree_call rfl rfl (fun K hK => ?_)
          go_simp
          with_reducible refine Calls.mono ctr ?_
          clear ctr
          rintro e v6 ⟨rfl, y6⟩
          go_simp
          refine hK _ _ y6.ofN ?_
          clear hK K
          iterate 3 (refine wpTree_quiet rfl rfl ?_; apply Exists.intro; refine ⟨?_, ?_⟩; (intro W hW; go_simp; try with_reducible rfl); (intro K hK; simp only [Act.put, List.setIfInBounds_toArray, List.set_cons_zero, List.set_cons_succ]; refine hK _ ?_; clear hK K))
          refine wpTree_end ?_
          go_wp2
          go_ret
          exact ⟨rfl, (X11.transN y6).belowN⟩
end Go.Proofs.YtbhplepbccgecaaDoor
