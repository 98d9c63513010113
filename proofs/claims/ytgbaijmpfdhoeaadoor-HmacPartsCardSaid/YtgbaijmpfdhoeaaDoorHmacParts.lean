/- The law HmacParts: in which parts bytes come does not matter to a code; for any two rows of bytes, any number. -/
import Derived.Test.YtgbaijmpfdhoeaaDoorHmN
import Derived.Test.YtgbaijmpfdhoeaaDoorSeqT
namespace Go.Proofs.YtgbaijmpfdhoeaaDoor
open Go.RowKit

theorem kpad_zeros (key : List UInt8) (j : Nat) (h : key.length + j ≤ 64) : kpad (key ++ zeros j) = kpad key := by
  have h1 : ¬ 64 < (key ++ zeros j).length := by rw [List.length_append, zeros_length]; omega
  have h2 : ¬ 64 < key.length := by omega
  unfold kpad
  rw [if_neg h1, if_neg h2, List.append_assoc, List.length_append, zeros_length]
  congr 1
  unfold zeros
  rw [List.replicate_append_replicate]
  congr 1
  omega
theorem hm_zeros (key m : List UInt8) (j : Nat) (h : key.length + j ≤ 64) : hm (key ++ zeros j) m = hm key m := by
  unfold hm
  rw [kpad_zeros key j h]

/-- What its guard leaves out. -/
theorem wpSeq_skip {P : Program} {l : List Oper} {Q : Exit → Act → World → Prop} {S : Nat → Prop} {rest : List (Nat × Bool)} {a : Act} {w : World} {i : Nat} {o : Oper} (hi : l[i]? = some o) (hw : Region.wanted o (yielded l.toArray a.tmps) = false)
    (h : ∀ K : Act → Prop, (∀ a, wpSeq P l.toArray Q S rest a w → K a) → K (a.put o.dst undef)) : wpSeq P l.toArray Q S ((i, true) :: rest) a w :=
  ⟨o, undef, by simpa using hi, .inr ⟨hw, rfl⟩, h _ (fun _ h => h)⟩
set_option maxRecDepth 100000 in
set_option maxHeartbeats 4000000 in
theorem hparts_walk (A0 : Option Addr) (n0 c0 : Nat) (l0 : List UInt8) (A1 : Option Addr) (n1 c1 : Nat) (l1 : List UInt8) (x0 : Int) (w : World) (G : Glob w) (hw2 : 2 ≤ w.heap.size)
    (hl0 : l0.length = n0) (hc0 : n0 ≤ c0) (r0 : Rd w (· < w.heap.size) A0 (bvs l0)) (hl1 : l1.length = n1) (hc1 : n1 ≤ c1) (r1 : Rd w (· < w.heap.size) A1 (bvs l1)) :
    Calls Tryd.prog 6 #[.slice A0 n0 c0, .slice A1 n1 c1, .int .i64 x0] w fun e w' => e = .returned (.bool true) ∧ Below w.heap.size w w' := by
  obtain ⟨k0, hk0, hk0a, hk0b, _⟩ := min_at n0 60 (by omega)
  obtain ⟨a, ha⟩ : ∃ l, l0.take k0 = l := ⟨_, rfl⟩
  have ra : Rd w (· < w.heap.size) A0 (bvs a) := by rw [← ha, bvs_take5]; exact r0.take k0
  have la : a.length = k0 := by rw [← ha]; simp; omega
  have ma : k0 ≤ c0 := by omega
  have ia : (k0 : Int) ≤ (c0 : Int) := by omega
  clear ha r0 hl0
  obtain ⟨k1, hk1, hk1a, hk1b, _⟩ := min_at n1 500 (by omega)
  obtain ⟨b, hb⟩ : ∃ l, l1.take k1 = l := ⟨_, rfl⟩
  have rb : Rd w (· < w.heap.size) A1 (bvs b) := by rw [← hb, bvs_take5]; exact r1.take k1
  have lb : b.length = k1 := by rw [← hb]; simp; omega
  have mb : k1 ≤ c1 := by omega
  have ib : (k1 : Int) ≤ (c1 : Int) := by omega
  clear hb r1 hl1
  obtain ⟨m, hm0, hma⟩ := and16_at x0
  obtain ⟨N, hN⟩ : ∃ N, k1 + 1 = N := ⟨_, rfl⟩
  obtain ⟨i, hi⟩ : ∃ i, m % N = i := ⟨_, rfl⟩
  have hik : i ≤ k1 := by have := Nat.mod_lt m (show 0 < N by omega); omega
  have eN : (k1 : Int) + 1 = (N : Int) := by omega
  have nN : ¬ (N : Int) = 0 := by omega
  have em1 : (m : Int).tmod (N : Int) = (i : Int) := by rw [← hi]; rfl
  have em2 : (m : Int) % (N : Int) = (i : Int) := by rw [← hi]; rfl
  have ii : (i : Int) ≤ (k1 : Int) := by omega
  have i0 : (0 : Int) ≤ (i : Int) := by omega
  have HN := Lib.hid hN
  clear hN hi
  have z2 := zrow32_ne
  have z3 := zrow16_ne
  have sK := fun W g => run_arr_all (P := Tryd.prog) W Tryd.underlying29 s8 g 0 (by decide)
  obtain ⟨pB, VB, EB⟩ := one_part rb lb mb
  have hbl : (allOf [⟨A1, c1, b⟩]).length ≤ 562949953421000 := by rw [EB.out]; omega
  go_enter Tryd.func6, Tryd.ntmps6
  go_wp2_with fail
  have ctr := shown_calls G hw2
  with_reducible refine Calls.mono ctr ?_
  clear ctr
  rintro e w1 ⟨rfl, x1⟩
  go_wp2_with fail
  have ctr := macN_calls x1 G hw2 [⟨A1, c1, b⟩] pB 1 rfl (by decide) #[.slice A1 k1 c1] VB.out (Ext.refl Non _) k0 c0 ((ra.extN (x1.alloc (.cells #[.slice A1 k1 c1] 22))).imp (fun k _ hk => Nat.lt_of_lt_of_le hk (x1.alloc (.cells #[.slice A1 k1 c1] 22)).size)) la ma (by omega) hbl b EB.out
  with_reducible refine Calls.mono ctr ?_
  clear ctr
  rintro e w2 ⟨rfl, x2⟩
  have X2 := (x1.alloc (.cells #[.slice A1 k1 c1] 22)).transN x2
  have X3 : Ext Non w (w2.alloc (.cells (ba (hm a b)) 26)) := X2.alloc _
  have B3 := Blk.new w2 26 (ba (hm a b))
  have O3 : OwB ((w2.alloc (.cells (ba (hm a b)) 26)).alloc (.cells #[] 5)) (w2.heap.size + 1) (some ⟨w2.heap.size + 1, 0, none⟩) 0 [] := by
    have := World.ownsRow_made (e := 5) (size := 1) (w2.alloc (.cells (ba (hm a b)) 26)) #[] 0 (Nat.le_refl _) (by simp [maxLen]) rfl
    rw [World.size_alloc] at this
    exact this
  have X4 : Ext Non w ((w2.alloc (.cells (ba (hm a b)) 26)).alloc (.cells #[] 5)) := X3.alloc _
  have B4 := B3.alloc (.cells #[] 5)
  have hs4 : w2.heap.size + 1 ≤ ((w2.alloc (.cells (ba (hm a b)) 26)).alloc (.cells #[] 5)).heap.size := by rw [World.size_alloc, World.size_alloc]; omega
  clear x2 x1 X3 B3
  go_wp2_with (at_builtin; first
    | (refine wp_ap8 rfl (.tmp 34) (.tmp 35) rfl 0 rfl O3 rfl k0 c0 rfl (ra.extN X4) la (by simp; omega) hs4 ?_; intro A5 c5 w5 o5 x5 hob5; rw [List.nil_append] at o5; have r5 : Rd (w5.alloc (.cells #[.int .u8 0, .int .u8 0, .int .u8 0] 5)) (· < w5.heap.size + 1) (some ⟨w5.heap.size, 0, none⟩) (bvs [0, 0, 0]) := rd_new w5 5 (bvs [0, 0, 0]); have hs5 : w2.heap.size + 1 ≤ (w5.alloc (.cells #[.int .u8 0, .int .u8 0, .int .u8 0] 5)).heap.size := by (have := x5.size; rw [World.size_alloc]; omega))
    | (refine wp_ap8 rfl (.tmp 36) (.tmp 37) rfl k0 rfl (o5.alloc (.cells #[.int .u8 0, .int .u8 0, .int .u8 0] 5)) la 3 3 rfl r5 rfl (by simp; omega) hs5 ?_; intro A6 c6 w6 o6 x6 hob6))
  have hsw2 : w.heap.size ≤ w2.heap.size := X2.size
  have X5 : Ext Non w (w5.alloc (.cells #[.int .u8 0, .int .u8 0, .int .u8 0] 5)) := (X4.trans x5 (fun i hi h => by
    have h : w2.heap.size + 1 = i := Option.some.inj h
    omega)).alloc _
  have B5 := (B4.ext x5 (fun h => by
    have h : w2.heap.size + 1 = w2.heap.size := Option.some.inj h
    omega)).alloc (.cells #[.int .u8 0, .int .u8 0, .int .u8 0] 5)
  have hA5 : ∀ i, ob A5 = some i → w2.heap.size + 1 ≤ i := fun i hi => (o5.lt hi).1
  have X6 : Ext Non w w6 := X5.trans x6 (fun i hi h => by have := hA5 i h; omega)
  have B6 := B5.ext x6 (fun h => by have := hA5 _ h; omega)
  have l6 : (a ++ [0, 0, 0]).length = k0 + 3 := by rw [List.length_append, la]; rfl
  have hc6 := o6.len.1
  rw [l6] at hc6
  have X7 : Ext Non w (w6.alloc (.cells (zrow 32) 29)) := X6.alloc _
  have B7 := B6.alloc (.cells (zrow 32) 29)
  have o7 := o6.alloc (.cells (zrow 32) 29)
  have K7 := Blk.new w6 29 (zrow 32)
  obtain ⟨w7, hcp, K8, x8⟩ := copy_ba (dst := zeros 32) K7 (ra.extN X7) 32 k0 c0 (Nat.min k0 32) (zeros_length 32) la rfl
  obtain ⟨kk, hkk⟩ : ∃ l, a.take (Nat.min k0 32) ++ (zeros 32).drop (Nat.min k0 32) = l := ⟨_, rfl⟩
  have hmin : Nat.min k0 32 ≤ 32 := Nat.min_le_right _ _
  have hmin2 : Nat.min k0 32 ≤ k0 := Nat.min_le_left _ _
  have hkl : kk.length = 32 := by rw [← hkk, List.length_append, List.length_take, zeros_drop, zeros_length]; omega
  have hkz : k0 ≤ 32 → kk = a ++ zeros (32 - k0) := fun h => by
    have : Nat.min k0 32 = k0 := Nat.min_eq_left h
    rw [← hkk, this, List.take_of_length_le (by omega), zeros_drop]
  rw [hkk] at K8
  have hw6 : w.heap.size ≤ w6.heap.size := X6.size
  have hB6 := B6.lt
  have X8 : Ext Non w w7 := X7.trans x8 (fun i hi h => by have h : i = w6.heap.size := h; omega)
  have B8 := B7.ext x8 (fun h => by have h : w2.heap.size = w6.heap.size := h; omega)
  have o8 := o7.ext x8 (fun i hi h => by have := (o6.lt hi).2; have h : i = w6.heap.size := h; omega)
  have HKK := Lib.hid hkk
  have HKZ := Lib.hid hkz
  clear X2 X4 B4 O3 hs4 o5 x5 hob5 r5 hs5 o6 x6 hob6 X5 B5 X6 B6 X7 B7 o7 K7 x8 hkk hkz hmin hmin2 hA5
  go_simp
  go_wp2_with fail
  clear hcp
  have ctr := macN_calls X8 G hw2 [⟨A1, c1, b⟩] pB 1 rfl (by decide) #[.slice A1 k1 c1] VB.out (Ext.refl Non _) 32 32 ((rd_ba (K8.alloc (.cells #[.slice A1 k1 c1] 22))).imp (fun k hk _ => hk)) hkl (Nat.le_refl _) (by decide) hbl b EB.out
  with_reducible refine Calls.mono ctr ?_
  clear ctr
  rintro e w9 ⟨rfl, x9⟩
  have y9 : Ext Non w7 (w9.alloc (.cells (ba (hm kk b)) 26)) := (((Ext.refl Non w7).alloc (.cells #[.slice A1 k1 c1] 22)).transN x9).alloc _
  have D10 := Blk.new w9 26 (ba (hm kk b))
  have B10 := B8.extN_ y9
  have K10 := K8.extN_ y9
  have o10 := o8.extN y9
  have X10 := X8.transN y9
  clear x9 B8 K8 o8 X8 y9
  go_upto_region 10 with (fail)
  generalize w9.alloc (.cells (ba (hm kk b)) 26) = w10 at *
  generalize w9.heap.size = g11 at *
  generalize w6.heap.size = g10 at *
  generalize w2.heap.size = g8 at *
  have rp1 : Rd w (· < w.heap.size) A1 (bvs (b.take i)) := by rw [bvs_take5]; exact rb.take i
  have rp2 : Rd w (· < w.heap.size) (cut A1 i c1) (bvs (b.drop i)) := by
    have := rb.cut (k := i) (cap := c1) (by rw [bvs_length]; omega)
    simpa [bvs] using this
  have lp1 : (b.take i).length = i := by rw [List.length_take]; omega
  have lp2 : (b.drop i).length = k1 - i := by rw [List.length_drop, lb]
  have pA2 : ∀ q ∈ ([⟨A1, c1, b.take i⟩, ⟨cut A1 i c1, c1 - i, b.drop i⟩] : List Part), Rd w (· < w.heap.size) q.a (bvs q.l) ∧ q.l.length ≤ q.c := fun q hq => by
    simp only [List.mem_cons, List.not_mem_nil, or_false] at hq
    rcases hq with rfl | rfl
    · exact ⟨rp1, by show (b.take i).length ≤ c1; omega⟩
    · exact ⟨rp2, by show (b.drop i).length ≤ c1 - i; omega⟩
  have V2 : Hid ((([⟨A1, c1, b.take i⟩, ⟨cut A1 i c1, c1 - i, b.drop i⟩] : List Part).map Part.val).toArray = #[.slice A1 i c1, .slice (cut A1 i c1) (k1 - i) (c1 - i)]) := by
    show _ = _
    simp [Part.val, lp1, lp2]
  have E2 : Hid (allOf [⟨A1, c1, b.take i⟩, ⟨cut A1 i c1, c1 - i, b.drop i⟩] = b) := by show _ = _; simp [allOf]
  have P1 := Lib.hid lp1
  have P2 := Lib.hid lp2
  have iic : (i : Int) ≤ (c1 : Int) := by omega
  clear lp1 lp2
  go_cut [12] from 46 (fun s12 wc => ∃ g, s12 = .pointer (some ⟨g, 0, none⟩) ∧ Blk wc g 35 (ba ((hm kk b).take 16)) ∧ Ext Non w10 wc)
  case first =>
    as_aux_lemma =>
    have stm := fun W g (B : Blk W g 35 (zrow 16)) => B.big_store (P := Tryd.prog) (ty := 35) (cs' := ba ((hm kk b).take 16)) (by rw [zrow_size, ba_size, m16_len]) (mac_info _ (by rw [ba_size, m16_len])) (ba_all _)
    have ly := fun W (hW : Ext (fun k => w10.heap.size ≤ k) w10 W) => (K10.ext hW (fun h => by have h : w10.heap.size ≤ g10 := h; have := K10.lt; omega)).big_load (P := Tryd.prog) Tryd.underlying29 rfl (key_info _ (by rw [ba_size, hkl]))
    refine wp_region_tree (fun k => w10.heap.size ≤ k) (.q 0 (.q 1 (.q 2 (.q 3 (.q 4 (.q 5 (.q 6 (.b 7 (.b 8 (.c 9 (.c 10 .stop)) 9 (.c 8 (.c 10 .stop))) 9 (.c 7 (.c 8 (.c 10 .stop))))))))))) (by kernel_rfl) (by kernel_rfl) (by kernel_rfl) ?_
    iterate 7 (refine wpTree_quiet rfl rfl ?_; apply Exists.intro; refine ⟨?_, ?_⟩; (intro W hW; have u1 := ly W hW.drewL; go_simp; try with_reducible rfl); (intro K hK; simp only [Act.put, List.setIfInBounds_toArray, List.set_cons_zero, List.set_cons_succ]; refine hK _ ?_; clear hK K))
    clear ly
    refine wpTree_both rfl rfl rfl rfl ?_ ?_
    · intro K hK
      go_simp
      refine hK _ _ (Ext.allocD w10 _).ofN ?_
      clear hK K
      refine wpTree_both rfl rfl rfl rfl ?_ ?_
      · have ctr := shortN_calls (w := w) (v := w10) X10 G hw2 [⟨A1, c1, b.take i⟩, ⟨cut A1 i c1, c1 - i, b.drop i⟩] pA2 2 rfl (by decide) #[.slice A1 i c1, .slice (cut A1 i c1) (k1 - i) (c1 - i)] V2.out (Ext.refl Non (w10.alloc (.cells #[.slice A1 i c1, .slice (cut A1 i c1) (k1 - i) (c1 - i)] 22))).drew kk hkl (by rw [E2.out]; omega) b E2.out
        try rw [World.size_alloc] at ctr
        intro K hK
        go_simp
        with_reducible refine Calls.mono ctr ?_
        clear ctr
        rintro e u2 ⟨rfl, x6⟩
        go_simp
        refine hK _ _ x6.ofN ?_
        clear hK K
        have xu2 := (Ext.alloc (Ext.refl Non w10) (.cells #[.slice A1 i c1, .slice (cut A1 i c1) (k1 - i) (c1 - i)] 22)).drew.transN x6
        have hu2 : w10.heap.size ≤ u2.heap.size := xu2.size
        refine wpTree_call rfl rfl (fun K hK => ?_)
        go_simp
        refine hK _ _ ((Ext.refl Non u2).alloc _).ofN ?_
        clear hK K
        have BB := Blk.new u2 35 (zrow 16)
        have XX : Ext Non w10 (u2.alloc (.cells (zrow 16) 35)) := xu2.alloc _
        have st := stm _ _ BB
        refine wpTree_call rfl rfl (fun K hK => ?_)
        go_simp
        refine hK _ _ ((Ext.refl (fun k => w10.heap.size ≤ k) (u2.alloc (.cells (zrow 16) 35))).setRow (.inr hu2) _) ?_
        clear hK K
        refine wpTree_end ?_
        go_wp2_with fail
        go_meet
        case rel => exact ⟨_, rfl, Blk.setRow BB _, Ext.setRow XX (.inl hu2) _⟩
      · intro K hK
        go_simp
        refine hK _ _ (Ext.allocD (w10.alloc (.cells #[.slice A1 i c1, .slice (cut A1 i c1) (k1 - i) (c1 - i)] 22)) _).ofN ?_
        clear hK K
        have BB := (Blk.new (w10.alloc (.cells #[.slice A1 i c1, .slice (cut A1 i c1) (k1 - i) (c1 - i)] 22)) 35 (zrow 16)).drew
        rw [World.size_alloc] at BB
        have hg : w10.heap.size ≤ w10.heap.size + 1 := Nat.le_succ _
        have ctr := shortN_calls (w := w) (v := w10) X10 G hw2 [⟨A1, c1, b.take i⟩, ⟨cut A1 i c1, c1 - i, b.drop i⟩] pA2 2 rfl (by decide) #[.slice A1 i c1, .slice (cut A1 i c1) (k1 - i) (c1 - i)] V2.out ((Ext.refl Non (w10.alloc (.cells #[.slice A1 i c1, .slice (cut A1 i c1) (k1 - i) (c1 - i)] 22))).alloc (.cells (zrow 16) 35)).drew kk hkl (by rw [E2.out]; omega) b E2.out
        try rw [World.size_alloc] at ctr
        refine wpTree_call rfl rfl (fun K hK => ?_)
        go_simp
        with_reducible refine Calls.mono ctr ?_
        clear ctr
        rintro e u2 ⟨rfl, x6⟩
        go_simp
        refine hK _ _ x6.ofN ?_
        clear hK K
        have B2 := BB.extN_ x6
        have xu2 := (Ext.alloc (Ext.alloc (Ext.refl Non w10) (.cells #[.slice A1 i c1, .slice (cut A1 i c1) (k1 - i) (c1 - i)] 22)) (.cells (zrow 16) 35)).drew.transN x6
        have st := stm _ _ B2
        refine wpTree_call rfl rfl (fun K hK => ?_)
        go_simp
        refine hK _ _ ((Ext.refl (fun k => w10.heap.size ≤ k) u2).setRow (.inr hg) _) ?_
        clear hK K
        refine wpTree_end ?_
        go_wp2_with fail
        go_meet
        case rel => exact ⟨_, rfl, Blk.setRow B2 _, Ext.setRow xu2 (.inl hg) _⟩
    · intro K hK
      go_simp
      refine hK _ _ (Ext.allocD w10 _).ofN ?_
      clear hK K
      refine wpTree_call rfl rfl (fun K hK => ?_)
      go_simp
      refine hK _ _ (Ext.allocD (w10.alloc (.cells (zrow 16) 35)) _).ofN ?_
      clear hK K
      have BB := ((Blk.new w10 35 (zrow 16)).alloc (.cells #[.slice A1 i c1, .slice (cut A1 i c1) (k1 - i) (c1 - i)] 22)).drew
      have hg : w10.heap.size ≤ w10.heap.size := Nat.le_refl _
      have ctr := shortN_calls (w := w) (v := (w10.alloc (.cells (zrow 16) 35))) (X10.alloc (.cells (zrow 16) 35)) G hw2 [⟨A1, c1, b.take i⟩, ⟨cut A1 i c1, c1 - i, b.drop i⟩] pA2 2 rfl (by decide) #[.slice A1 i c1, .slice (cut A1 i c1) (k1 - i) (c1 - i)] V2.out (Ext.refl Non ((w10.alloc (.cells (zrow 16) 35)).alloc (.cells #[.slice A1 i c1, .slice (cut A1 i c1) (k1 - i) (c1 - i)] 22))).drew kk hkl (by rw [E2.out]; omega) b E2.out
      try rw [World.size_alloc] at ctr
      refine wpTree_call rfl rfl (fun K hK => ?_)
      go_simp
      with_reducible refine Calls.mono ctr ?_
      clear ctr
      rintro e u2 ⟨rfl, x6⟩
      go_simp
      refine hK _ _ x6.ofN ?_
      clear hK K
      have B2 := BB.extN_ x6
      have xu2 := (Ext.alloc (Ext.alloc (Ext.refl Non w10) (.cells (zrow 16) 35)) (.cells #[.slice A1 i c1, .slice (cut A1 i c1) (k1 - i) (c1 - i)] 22)).drew.transN x6
      have st := stm _ _ B2
      refine wpTree_call rfl rfl (fun K hK => ?_)
      go_simp
      refine hK _ _ ((Ext.refl (fun k => w10.heap.size ≤ k) u2).setRow (.inr hg) _) ?_
      clear hK K
      refine wpTree_end ?_
      go_wp2_with fail
      go_meet
      case rel => exact ⟨_, rfl, Blk.setRow B2 _, Ext.setRow xu2 (.inl hg) _⟩
  case rest =>
    obtain ⟨g12, rfl, C9, x9⟩ := hcut
    have X11 := X10.transN x9
    have D11 := D10.extN_ x9
    have B11 := B10.extN_ x9
    have o11 := o10.extN x9
    have pA3 : ∀ q ∈ ([⟨A1, c1, b.take i⟩, ⟨none, 0, []⟩, ⟨cut A1 i c1, c1 - i, b.drop i⟩] : List Part), Rd w (· < w.heap.size) q.a (bvs q.l) ∧ q.l.length ≤ q.c := fun q hq => by
      simp only [List.mem_cons, List.not_mem_nil, or_false] at hq
      rcases hq with rfl | rfl | rfl
      · exact ⟨rp1, by show (b.take i).length ≤ c1; rw [P1.out]; omega⟩
      · exact ⟨Rd.nil, Nat.le_refl 0⟩
      · exact ⟨rp2, by show (b.drop i).length ≤ c1 - i; rw [P2.out]; omega⟩
    have V3 : Hid ((([⟨A1, c1, b.take i⟩, ⟨none, 0, []⟩, ⟨cut A1 i c1, c1 - i, b.drop i⟩] : List Part).map Part.val).toArray = #[.slice A1 i c1, .slice none 0 0, .slice (cut A1 i c1) (k1 - i) (c1 - i)]) := by
      show _ = _
      simp [Part.val, P1.out, P2.out]
    have E3 : Hid (allOf [⟨A1, c1, b.take i⟩, ⟨none, 0, []⟩, ⟨cut A1 i c1, c1 - i, b.drop i⟩] = b) := by show _ = _; simp [allOf]
    have l1 : ∀ W, Ext Non wc W → (bigLoad 26 (.pointer (some ⟨g8, 0, none⟩))).run Tryd.prog W = .ok (.agg (ba (hm a b))) W := fun W h => load_mac (B11.extN_ h)
    have l2 : ∀ W, Ext Non wc W → (bigLoad 26 (.pointer (some ⟨g11, 0, none⟩))).run Tryd.prog W = .ok (.agg (ba (hm kk b))) W := fun W h => load_mac (D11.extN_ h)
    have s1 := fun W => run_arr_all (P := Tryd.prog) W Tryd.underlying35 s8 g12 0 (by decide)
    have s2 := fun W => run_arr_hi (P := Tryd.prog) W Tryd.underlying26 s8 g11 0 .i64 16 16 rfl (by decide) (by decide)
    have v1 : ∀ W, Ext Non wc W → (convert 22 9 (.slice (some ⟨g12, 0, none⟩) 16 16)).run Tryd.prog W = .ok (.string (str ((hm kk b).take 16))) W := fun W hW =>
      run_convert_rd W 22 9 5 Tryd.underlying22 Tryd.underlying9 Tryd.underlying5 ((rd_ba C9).extN hW) 16 16 (m16_len _ _)
    have v2 : ∀ W, Ext Non wc W → (convert 22 9 (.slice (some ⟨g11, 0, none⟩) 16 32)).run Tryd.prog W = .ok (.string (str ((hm kk b).take 16))) W := fun W hW =>
      run_convert_rd W 22 9 5 Tryd.underlying22 Tryd.underlying9 Tryd.underlying5 (by rw [bvs_take5]; exact ((rd_ba D11).extN hW).take 16) 16 32 (m16_len _ _)
    have e3 : (hm (a ++ [0, 0, 0]) b == hm a b) = true := by
      rw [show ([0, 0, 0] : List UInt8) = zeros 3 from rfl, hm_zeros a b 3 (by omega)]
      exact beq_self_eq_true _
    by_cases h32 : 32 < k0
    · have i32 : (32 : Int) < (k0 : Int) := by omega
      go_wp2_with fail
      refine wp_region_seq Non ((0, true) :: (1, true) :: (2, true) :: (3, true) :: (4, true) :: (5, true) :: (6, true) :: (7, true) :: (8, true) :: (11, true) :: (9, false) :: (10, false) :: (12, true) :: (13, true) :: (14, true) :: (15, true) :: (16, true) :: (19, true) :: (17, false) :: (18, false) :: (20, true) :: (21, true) :: (22, true) :: (23, true) :: (24, true) :: (25, true) :: (26, true) :: (27, true) :: (28, true) :: (29, true) :: (30, true) :: (31, true) :: (32, true) :: (33, true) :: (34, true) :: (35, true) :: (36, true) :: (37, true) :: (38, true) :: (39, true) :: []) (by kernel_rfl) (by kernel_rfl) (by kernel_rfl) ?_
      iterate 10 (refine wpSeq_quiet rfl rfl ?_; apply Exists.intro; refine ⟨?_, ?_⟩; (intro W hW; have u1 := l1 W hW.drewL; go_simp; try with_reducible rfl); (intro K hK; simp only [Act.put, List.setIfInBounds_toArray, List.set_cons_zero, List.set_cons_succ]; refine hK _ ?_; clear hK K))
      refine wpSeq_call rfl rfl (fun K hK => ?_)
      go_simp
      refine hK _ _ (Ext.allocD wc _) ?_
      clear hK K
      refine wpSeq_call rfl rfl (fun K hK => ?_)
      go_simp
      have ctr := macN_calls (w := w) (v := wc) X11 G hw2 [⟨A1, c1, b.take i⟩, ⟨none, 0, []⟩, ⟨cut A1 i c1, c1 - i, b.drop i⟩] pA3 3 rfl (by decide) #[.slice A1 i c1, .slice none 0 0, .slice (cut A1 i c1) (k1 - i) (c1 - i)] V3.out ((Ext.refl Non (wc.alloc (.cells #[.slice A1 i c1, .slice none 0 0, .slice (cut A1 i c1) (k1 - i) (c1 - i)] 22))).drew) k0 c0 ((ra.extN ((X11.alloc (.cells #[.slice A1 i c1, .slice none 0 0, .slice (cut A1 i c1) (k1 - i) (c1 - i)] 22)).drew)).imp (fun k _ hk => Nat.lt_of_lt_of_le hk (Ext.size ((X11.alloc (.cells #[.slice A1 i c1, .slice none 0 0, .slice (cut A1 i c1) (k1 - i) (c1 - i)] 22)).drew)))) la ma (by omega) (by rw [E3.out]; omega) b E3.out
      with_reducible refine Calls.mono ctr ?_
      clear ctr
      rintro e w13 ⟨rfl, x13⟩
      go_simp
      refine hK _ _ x13 ?_
      clear hK K
      have y13 : Ext Non wc w13 := ((Ext.alloc (Ext.refl Non wc) (.cells #[.slice A1 i c1, .slice none 0 0, .slice (cut A1 i c1) (k1 - i) (c1 - i)] 22)).drew).transN x13
      iterate 6 (refine wpSeq_quiet rfl rfl ?_; apply Exists.intro; refine ⟨?_, ?_⟩; (intro W hW; have u1 := l1 W (y13.transN hW); go_simp; try with_reducible rfl); (intro K hK; simp only [Act.put, List.setIfInBounds_toArray, List.set_cons_zero, List.set_cons_succ]; refine hK _ ?_; clear hK K))
      refine wpSeq_call rfl rfl (fun K hK => ?_)
      go_simp
      refine hK _ _ ((Ext.refl Non w13).alloc _) ?_
      clear hK K
      have X13 := X11.transN y13
      refine wpSeq_call rfl rfl (fun K hK => ?_)
      go_simp
      have ctr := macN_calls (w := w) (v := w13) X13 G hw2 [⟨A1, c1, b⟩] pB 1 rfl (by decide) #[.slice A1 k1 c1] VB.out (Ext.refl Non _) (k0 + 3) c6 (((o11.extN (y13.alloc (.cells #[.slice A1 k1 c1] 22))).rd).imp (fun i hi _ => hi)) l6 hc6 (by omega) hbl b EB.out
      with_reducible refine Calls.mono ctr ?_
      clear ctr
      rintro e w14 ⟨rfl, x14⟩
      go_simp
      refine hK _ _ x14 ?_
      clear hK K
      have y14 : Ext Non wc w14 := (y13.alloc (.cells #[.slice A1 k1 c1] 22)).transN x14
      iterate 14 (refine wpSeq_quiet rfl rfl ?_; apply Exists.intro; refine ⟨?_, ?_⟩; (intro W hW; have u1 := v1 W (y14.transN hW); have u2 := v2 W (y14.transN hW); have u3 := l1 W (y14.transN hW); go_simp; try with_reducible rfl); (intro K hK; simp only [Act.put, List.setIfInBounds_toArray, List.set_cons_zero, List.set_cons_succ]; refine hK _ ?_; clear hK K))
      iterate 3 (refine wpSeq_skip rfl rfl (fun K hK => ?_); simp only [Act.put, List.setIfInBounds_toArray, List.set_cons_zero, List.set_cons_succ]; refine hK _ ?_; clear hK K)
      iterate 3 (refine wpSeq_quiet rfl rfl ?_; apply Exists.intro; refine ⟨?_, ?_⟩; (intro W hW; go_simp; try with_reducible rfl); (intro K hK; simp only [Act.put, List.setIfInBounds_toArray, List.set_cons_zero, List.set_cons_succ]; refine hK _ ?_; clear hK K))
      refine wpSeq_end ?_
      have X15 := X11.transN y14
      go_wp2_with fail
      go_ret
      exact ⟨by simp, X15.belowN⟩
    · have i32 : ¬ (32 : Int) < (k0 : Int) := by omega
      have e4 : (hm kk b == hm a b) = true := by
        rw [HKZ.out (by omega), hm_zeros a b (32 - k0) (by omega)]
        exact beq_self_eq_true _
      go_wp2_with fail
      have d32 : decide ((32 : Int) < (k0 : Int)) = false := decide_eq_false (by omega)
      refine wp_region_seq Non ((0, true) :: (1, true) :: (2, true) :: (3, true) :: (4, true) :: (5, true) :: (6, true) :: (7, true) :: (8, true) :: (11, true) :: (9, false) :: (10, false) :: (12, true) :: (13, true) :: (14, true) :: (15, true) :: (16, true) :: (19, true) :: (17, false) :: (18, false) :: (20, true) :: (21, true) :: (22, true) :: (23, true) :: (24, true) :: (25, true) :: (26, true) :: (27, true) :: (28, true) :: (29, true) :: (30, true) :: (31, true) :: (32, true) :: (33, true) :: (34, true) :: (35, true) :: (36, true) :: (37, true) :: (38, true) :: (39, true) :: []) (by kernel_rfl) (by kernel_rfl) (by kernel_rfl) ?_
      iterate 10 (refine wpSeq_quiet rfl rfl ?_; apply Exists.intro; refine ⟨?_, ?_⟩; (intro W hW; have u1 := l1 W hW.drewL; go_simp; try with_reducible rfl); (intro K hK; simp only [Act.put, List.setIfInBounds_toArray, List.set_cons_zero, List.set_cons_succ]; refine hK _ ?_; clear hK K))
      refine wpSeq_call rfl rfl (fun K hK => ?_)
      go_simp
      refine hK _ _ (Ext.allocD wc _) ?_
      clear hK K
      refine wpSeq_call rfl rfl (fun K hK => ?_)
      go_simp
      have ctr := macN_calls (w := w) (v := wc) X11 G hw2 [⟨A1, c1, b.take i⟩, ⟨none, 0, []⟩, ⟨cut A1 i c1, c1 - i, b.drop i⟩] pA3 3 rfl (by decide) #[.slice A1 i c1, .slice none 0 0, .slice (cut A1 i c1) (k1 - i) (c1 - i)] V3.out ((Ext.refl Non (wc.alloc (.cells #[.slice A1 i c1, .slice none 0 0, .slice (cut A1 i c1) (k1 - i) (c1 - i)] 22))).drew) k0 c0 ((ra.extN ((X11.alloc (.cells #[.slice A1 i c1, .slice none 0 0, .slice (cut A1 i c1) (k1 - i) (c1 - i)] 22)).drew)).imp (fun k _ hk => Nat.lt_of_lt_of_le hk (Ext.size ((X11.alloc (.cells #[.slice A1 i c1, .slice none 0 0, .slice (cut A1 i c1) (k1 - i) (c1 - i)] 22)).drew)))) la ma (by omega) (by rw [E3.out]; omega) b E3.out
      with_reducible refine Calls.mono ctr ?_
      clear ctr
      rintro e w13 ⟨rfl, x13⟩
      go_simp
      refine hK _ _ x13 ?_
      clear hK K
      have y13 : Ext Non wc w13 := ((Ext.alloc (Ext.refl Non wc) (.cells #[.slice A1 i c1, .slice none 0 0, .slice (cut A1 i c1) (k1 - i) (c1 - i)] 22)).drew).transN x13
      iterate 6 (refine wpSeq_quiet rfl rfl ?_; apply Exists.intro; refine ⟨?_, ?_⟩; (intro W hW; have u1 := l1 W (y13.transN hW); go_simp; try with_reducible rfl); (intro K hK; simp only [Act.put, List.setIfInBounds_toArray, List.set_cons_zero, List.set_cons_succ]; refine hK _ ?_; clear hK K))
      refine wpSeq_call rfl rfl (fun K hK => ?_)
      go_simp
      refine hK _ _ ((Ext.refl Non w13).alloc _) ?_
      clear hK K
      have X13 := X11.transN y13
      refine wpSeq_call rfl rfl (fun K hK => ?_)
      go_simp
      have ctr := macN_calls (w := w) (v := w13) X13 G hw2 [⟨A1, c1, b⟩] pB 1 rfl (by decide) #[.slice A1 k1 c1] VB.out (Ext.refl Non _) (k0 + 3) c6 (((o11.extN (y13.alloc (.cells #[.slice A1 k1 c1] 22))).rd).imp (fun i hi _ => hi)) l6 hc6 (by omega) hbl b EB.out
      with_reducible refine Calls.mono ctr ?_
      clear ctr
      rintro e w14 ⟨rfl, x14⟩
      go_simp
      refine hK _ _ x14 ?_
      clear hK K
      have y14 : Ext Non wc w14 := (y13.alloc (.cells #[.slice A1 k1 c1] 22)).transN x14
      iterate 14 (refine wpSeq_quiet rfl rfl ?_; apply Exists.intro; refine ⟨?_, ?_⟩; (intro W hW; have u1 := v1 W (y14.transN hW); have u2 := v2 W (y14.transN hW); have u3 := l1 W (y14.transN hW); have u4 := l2 W (y14.transN hW); go_simp; try with_reducible rfl); (intro K hK; simp only [Act.put, List.setIfInBounds_toArray, List.set_cons_zero, List.set_cons_succ]; refine hK _ ?_; clear hK K))
      iterate 6 (refine wpSeq_quiet rfl rfl ?_; apply Exists.intro; refine ⟨?_, ?_⟩; (intro W hW; have u1 := v1 W (y14.transN hW); have u2 := v2 W (y14.transN hW); have u3 := l1 W (y14.transN hW); have u4 := l2 W (y14.transN hW); go_simp; try with_reducible rfl); (intro K hK; simp only [Act.put, List.setIfInBounds_toArray, List.set_cons_zero, List.set_cons_succ]; refine hK _ ?_; clear hK K))
      refine wpSeq_end ?_
      have X15 := X11.transN y14
      go_wp2_with fail
      go_ret
      exact ⟨by simp, X15.belowN⟩
end Go.Proofs.YtgbaijmpfdhoeaaDoor
