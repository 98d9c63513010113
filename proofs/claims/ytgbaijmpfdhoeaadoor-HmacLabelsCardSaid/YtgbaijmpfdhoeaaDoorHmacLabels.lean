/- The law HmacLabels: a key of a key is a code of what it is for; for any array, any text, any two rows of bytes. -/
import Derived.Test.YtgbaijmpfdhoeaaDoorHmN
import Derived.Test.YtgbaijmpfdhoeaaDoorSeqT
namespace Go.Proofs.YtgbaijmpfdhoeaaDoor
open Go.RowKit

set_option maxRecDepth 100000 in
set_option maxHeartbeats 4000000 in
theorem labels_walk (w : World) (G : Glob w) (hw2 : 2 ≤ w.heap.size) (kk : List UInt8) (hkk : kk.length = 32) (lb0 : List UInt8) (hlb0 : lb0.length ≤ maxLen)
    (A1 : Option Addr) (n1 c1 : Nat) (l1 : List UInt8) (hl1 : l1.length = n1) (hc1 : n1 ≤ c1) (r1 : Rd w (· < w.heap.size) A1 (bvs l1)) (A2 : Option Addr) (n2 c2 : Nat) (l2 : List UInt8) (hl2 : l2.length = n2) (hc2 : n2 ≤ c2) (r2 : Rd w (· < w.heap.size) A2 (bvs l2)) :
    Calls Tryd.prog 8 #[.agg (ba kk), .string (str lb0), .slice A1 n1 c1, .slice A2 n2 c2] w fun e w' => e = .returned (.bool true) ∧ Below w.heap.size w w' := by
  obtain ⟨n0, hn0⟩ : ∃ n, lb0.length = n := ⟨_, rfl⟩
  obtain ⟨k0, hk0, hk0a, hk0b, _⟩ := min_at n0 100 (by omega)
  obtain ⟨t, ht⟩ : ∃ l, lb0.take k0 = l := ⟨_, rfl⟩
  have lt : t.length = k0 := by rw [← ht]; simp; omega
  have hz0 : (str lb0).size = n0 := by rw [str_size, hn0]
  have hx0 : (str lb0).extract 0 k0 = str t := by rw [str_extract, List.drop_zero, ht]
  have hzt : (str t).size = k0 := by rw [str_size, lt]
  have it : (k0 : Int) ≤ (n0 : Int) := by omega
  clear ht hlb0 hn0
  obtain ⟨k1, hk1, hk1a, hk1b, _⟩ := min_at n1 100 (by omega)
  obtain ⟨a, ha⟩ : ∃ l, l1.take k1 = l := ⟨_, rfl⟩
  have ra : Rd w (· < w.heap.size) A1 (bvs a) := by rw [← ha, bvs_take5]; exact r1.take k1
  have la : a.length = k1 := by rw [← ha]; simp; omega
  have ma : k1 ≤ c1 := by omega
  have ia : (k1 : Int) ≤ (c1 : Int) := by omega
  clear ha r1 hl1
  obtain ⟨k2, hk2, hk2a, hk2b, _⟩ := min_at n2 100 (by omega)
  obtain ⟨b, hb⟩ : ∃ l, l2.take k2 = l := ⟨_, rfl⟩
  have rb : Rd w (· < w.heap.size) A2 (bvs b) := by rw [← hb, bvs_take5]; exact r2.take k2
  have lb : b.length = k2 := by rw [← hb]; simp; omega
  have mb : k2 ≤ c2 := by omega
  have ib : (k2 : Int) ≤ (c2 : Int) := by omega
  clear hb r2 hl2
  have wk0 : IntKind.u32.wrap (k0 : Int) = (k0 : Int) := by rw [IntKind.wrap_u32]; omega
  have wk1 : IntKind.u32.wrap (k1 : Int) = (k1 : Int) := by rw [IntKind.wrap_u32]; omega
  have wk2 : IntKind.u32.wrap (k2 : Int) = (k2 : Int) := by rw [IntKind.wrap_u32]; omega
  have nk := row_ne (n := 31) (a := ba kk) (by rw [ba_size, hkk])
  have z2 := zrow32_ne
  have z3 := zrow16_ne
  have X0 : Ext Non w (w.alloc (.cells (ba kk) 29)) := (Ext.refl Non w).alloc _
  have K0 := Blk.new w 29 (ba kk)
  go_enter Tryd.func8, Tryd.ntmps8
  go_wp2_with fail
  have ctr := shown_calls (G.extN X0) (by rw [World.size_alloc]; omega)
  with_reducible refine Calls.mono ctr ?_
  clear ctr
  rintro e w1 ⟨rfl, x1⟩
  have K1 := (K0.extN_ x1).alloc (.cells #[.slice none 0 0] 45)
  have hw1 : w.heap.size < w1.heap.size := (K0.extN_ x1).lt
  have W1 := new_wr4 w1 (w1.heap.size + 1)
  have X1 : Ext Non w (w1.alloc (.cells #[.slice none 0 0] 45)) := (X0.transN x1).alloc _
  have hb1 : w1.heap.size + 1 ≤ (w1.alloc (.cells #[.slice none 0 0] 45)).heap.size := by rw [World.size_alloc]; exact Nat.le_refl _
  clear x1 X0 K0
  go_wp2_with fail
  clear hx0 hz0
  generalize w1.alloc (.cells #[.slice none 0 0] 45) = v1 at *
  generalize w1.heap.size = P at *
  have ctr := wu32_calls W1 hb1 k0 (by omega) (by simp)
  with_reducible refine Calls.mono ctr ?_
  clear ctr
  rintro e w2 ⟨rfl, g2, S2⟩
  have X2 := Wr.extW X1 W1 S2 (by omega) (by omega)
  have K2 := K1.extW W1 S2 (by omega) (by omega)
  have W2 := S2.wr
  have hb2 : P + 1 ≤ w2.heap.size := Nat.le_trans hb1 S2.ext.size
  obtain ⟨c3, w3, cb, hc3, x3, hs3, r3⟩ := conv_bytes w2 t
  rw [lt] at cb hc3
  have W3 := W2.extN x3
  have X3 := X2.transN x3
  have K3 := K2.extN_ x3
  have hb3 : P + 1 ≤ w3.heap.size := Nat.le_trans hb2 x3.size
  clear K1 X1 W1 S2 X2 K2 W2 hs3 x3 hb2 hb1
  go_wp2_with fail
  have ctr := wbytes_calls W3 hb3 c3 k0 r3 lt (by rw [List.length_append, be_length]; simp; omega)
  with_reducible refine Calls.mono ctr ?_
  clear ctr
  rintro e w4 ⟨rfl, g4, S4⟩
  have X4 := Wr.extW X3 W3 S4 (by omega) (by omega)
  have K4 := K3.extW W3 S4 (by omega) (by omega)
  have W4 := S4.wr
  have hb4 : P + 1 ≤ w4.heap.size := Nat.le_trans hb3 S4.ext.size
  have hd0 : [] ++ be 4 k0 ++ t = dmsg t [] := by unfold dmsg; rw [lt]; simp
  rw [hd0] at W4
  clear W3 X3 K3 S4 cb r3 hd0 hb3 wk0
  have hl4 : (dmsg t []).length ≤ 1000 := by have := dmsg_len t [] 0 (fun _ h => nomatch h); simp at this; omega
  go_wp2_with fail
  have ctr := wu32_calls W4 hb4 k1 (by omega) (by omega)
  with_reducible refine Calls.mono ctr ?_
  clear ctr
  rintro e w5 ⟨rfl, g5, S5⟩
  have X5 := Wr.extW X4 W4 S5 (by omega) (by omega)
  have K5 := K4.extW W4 S5 (by omega) (by omega)
  have W5 := S5.wr
  have hb5 : P + 1 ≤ w5.heap.size := Nat.le_trans hb4 S5.ext.size
  clear X4 K4 W4 S5 hb4
  go_wp2_with fail
  have ctr := wbytes_calls W5 hb5 c1 k1 (ra.extN X5) la (by rw [List.length_append, be_length]; omega)
  with_reducible refine Calls.mono ctr ?_
  clear ctr
  rintro e w6 ⟨rfl, g6, S6⟩
  have X6 := Wr.extW X5 W5 S6 (by omega) (by omega)
  have K6 := K5.extW W5 S6 (by omega) (by omega)
  have W6 := S6.wr
  have hb6 : P + 1 ≤ w6.heap.size := Nat.le_trans hb5 S6.ext.size
  clear X5 K5 W5 S6 hb5 wk1
  have hl6 : (dmsg t [] ++ be 4 k1 ++ a).length ≤ 2000 := by rw [List.length_append, List.length_append, be_length]; omega
  go_wp2_with fail
  have ctr := wu32_calls W6 hb6 k2 (by omega) (by omega)
  with_reducible refine Calls.mono ctr ?_
  clear ctr
  rintro e w7 ⟨rfl, g7, S7⟩
  have X7 := Wr.extW X6 W6 S7 (by omega) (by omega)
  have K7 := K6.extW W6 S7 (by omega) (by omega)
  have W7 := S7.wr
  have hb7 : P + 1 ≤ w7.heap.size := Nat.le_trans hb6 S7.ext.size
  clear X6 K6 W6 S7 hb6
  go_wp2_with fail
  have ctr := wbytes_calls W7 hb7 c2 k2 (rb.extN X7) lb (by rw [List.length_append, be_length]; omega)
  with_reducible refine Calls.mono ctr ?_
  clear ctr
  rintro e w8 ⟨rfl, g8, S8⟩
  have X8 := Wr.extW X7 W7 S8 (by omega) (by omega)
  have K8 := K7.extW W7 S8 (by omega) (by omega)
  have W8 := S8.wr
  have hw8 : P + 1 ≤ w8.heap.size := Nat.le_trans hb7 S8.ext.size
  have hL : dmsg t [] ++ be 4 k1 ++ a ++ be 4 k2 ++ b = dmsg t [a, b] := by unfold dmsg; rw [lt]; simp [la, lb]
  rw [hL] at W8
  have hLl : (dmsg t [a, b]).length ≤ 3000 := by rw [← hL, List.length_append, List.length_append, be_length]; omega
  obtain ⟨L, hLL⟩ : ∃ l, dmsg t [a, b] = l := ⟨_, rfl⟩
  rw [hLL] at W8 hLl
  have HL := Lib.hid hLL
  clear X7 K7 W7 S8 hb7 wk2 hL hl4 hl6 hLL
  go_upto_region 7 with (fail)
  have sK := fun W g => run_arr_all (P := Tryd.prog) W Tryd.underlying29 s8 g 0 (by decide)
  go_cut [11] from 52 (fun s11 wc => ∃ g, s11 = .pointer (some ⟨g, 0, none⟩) ∧ Blk wc g 26 (ba (hm kk L)) ∧ Ext Non w8 wc)
  case first =>
    as_aux_lemma =>
    have Wd := W8.extN (Ext.refl Non w8).drew
    have HWD := Lib.hid Wd
    have stm := fun W g (B : Blk W g 26 (zrow 32)) => B.big_store (P := Tryd.prog) (ty := 26) (cs' := ba (hm kk L)) (by rw [zrow_size, ba_size, hm_len]) (o_info _ (by rw [ba_size, hm_len])) (ba_all _)
    refine wp_region_tree (fun k => w8.heap.size ≤ k) (.q 0 (.q 1 (.b 2 (.b 3 (.b 4 (.c 5 (.c 6 .stop)) 5 (.c 4 (.c 6 .stop))) 5 (.c 3 (.c 4 (.c 6 .stop)))) 5 (.c 2 (.c 3 (.c 4 (.c 6 .stop))))))) (by kernel_rfl) (by kernel_rfl) (by kernel_rfl) ?_
    have hs8 : 2 ≤ w8.drew.heap.size := by show 2 ≤ w8.heap.size; have := X8.size; omega
    have G8 := G.extN X8.drew
    have K8d := K8.drew
    have r8 : Ext Non w8 w8.drew := (Ext.refl Non w8).drew
    clear Wd K8 X8 W8
    iterate 2 (refine wpTree_quiet rfl rfl ?_; apply Exists.intro; refine ⟨?_, ?_⟩; (intro W hW; go_simp; try with_reducible rfl); (intro K hK; simp only [Act.put, List.setIfInBounds_toArray, List.set_cons_zero, List.set_cons_succ]; refine hK _ ?_; clear hK K))
    refine wpTree_both rfl rfl rfl rfl ?_ ?_
    · have ctr := wdone_calls HWD.out L.length rfl (by omega)
      intro K hK
      go_simp
      with_reducible refine Calls.mono ctr ?_
      clear ctr
      rintro e u1 ⟨A5, c5, rfl, o5, x5⟩
      go_simp
      refine hK _ _ x5.ofN ?_
      clear hK K
      have xu := r8.transN x5
      have hu1 : w8.heap.size ≤ u1.heap.size := xu.size
      obtain ⟨pA, V, E⟩ := one_part (w := u1) (o5.rd.imp (fun k hk _ => hk)) rfl o5.len.1
      have Ku := K8d.extN_ x5
      have Gu := G8.extN x5
      have hu2 : 2 ≤ u1.heap.size := Nat.le_trans hs8 x5.size
      refine wpTree_both rfl rfl rfl rfl ?_ ?_
      · intro K hK
        go_simp
        refine hK _ _ ((Ext.refl Non u1).alloc _).ofN ?_
        clear hK K
        refine wpTree_both rfl rfl rfl rfl ?_ ?_
        · have ctr := macN_calls (w := u1) (v := u1) (Ext.refl Non u1) Gu hu2 [⟨A5, c5, L⟩] pA 1 rfl (by decide) #[.slice A5 L.length c5] V.out (Ext.refl Non _) 32 32 ((rd_ba (Ku.alloc (.cells #[.slice A5 L.length c5] 22))).imp (fun k hk _ => hk)) hkk (Nat.le_refl _) (by decide) (by rw [E.out]; omega) L E.out
          try rw [World.size_alloc] at ctr
          intro K hK
          go_simp
          with_reducible refine Calls.mono ctr ?_
          clear ctr
          rintro e u2 ⟨rfl, x6⟩
          go_simp
          refine hK _ _ x6.ofN ?_
          clear hK K
          have xu2 := (xu.alloc (.cells #[.slice A5 L.length c5] 22)).transN x6
          have hu2' : w8.heap.size ≤ u2.heap.size := xu2.size
          refine wpTree_call rfl rfl (fun K hK => ?_)
          go_simp
          refine hK _ _ ((Ext.refl Non u2).alloc _).ofN ?_
          clear hK K
          have BB := Blk.new u2 26 (zrow 32)
          have XX : Ext Non w8 (u2.alloc (.cells (zrow 32) 26)) := xu2.alloc _
          have st := stm _ _ BB
          refine wpTree_call rfl rfl (fun K hK => ?_)
          go_simp
          refine hK _ _ ((Ext.refl (fun k => w8.heap.size ≤ k) (u2.alloc (.cells (zrow 32) 26))).setRow (.inr hu2') _) ?_
          clear hK K
          refine wpTree_end ?_
          go_wp2_with fail
          go_meet
          case rel => exact ⟨_, rfl, Blk.setRow BB _, Ext.setRow XX (.inl hu2') _⟩
        · intro K hK
          go_simp
          refine hK _ _ (((Ext.refl Non _).alloc _).ofN) ?_
          clear hK K
          have BB := Blk.new (u1.alloc (.cells #[.slice A5 L.length c5] 22)) 26 (zrow 32)
          rw [World.size_alloc] at BB
          have XX : Ext Non w8 ((u1.alloc (.cells #[.slice A5 L.length c5] 22)).alloc (.cells (zrow 32) 26)) := (xu.alloc (.cells #[.slice A5 L.length c5] 22)).alloc _
          have hg : w8.heap.size ≤ u1.heap.size + 1 := by omega
          have ctr := macN_calls (w := u1) (v := u1) (Ext.refl Non u1) Gu hu2 [⟨A5, c5, L⟩] pA 1 rfl (by decide) #[.slice A5 L.length c5] V.out ((Ext.refl Non (u1.alloc (.cells #[.slice A5 L.length c5] 22))).alloc (.cells (zrow 32) 26)) 32 32 ((rd_ba ((Ku.alloc (.cells #[.slice A5 L.length c5] 22)).alloc (.cells (zrow 32) 26))).imp (fun k hk _ => hk)) hkk (Nat.le_refl _) (by decide) (by rw [E.out]; omega) L E.out
          try rw [World.size_alloc] at ctr
          refine wpTree_call rfl rfl (fun K hK => ?_)
          go_simp
          with_reducible refine Calls.mono ctr ?_
          clear ctr
          rintro e u2 ⟨rfl, x6⟩
          go_simp
          refine hK _ _ x6.ofN ?_
          clear hK K
          have B2 := BB.extN_ x6
          have xu2 := XX.transN x6
          have st := stm _ _ B2
          refine wpTree_call rfl rfl (fun K hK => ?_)
          go_simp
          refine hK _ _ ((Ext.refl (fun k => w8.heap.size ≤ k) u2).setRow (.inr hg) _) ?_
          clear hK K
          refine wpTree_end ?_
          go_wp2_with fail
          go_meet
          case rel => exact ⟨_, rfl, Blk.setRow B2 _, Ext.setRow xu2 (.inl hg) _⟩
      · intro K hK
        go_simp
        refine hK _ _ (((Ext.refl Non _).alloc _).ofN) ?_
        clear hK K
        have BB := (Blk.new u1 26 (zrow 32)).alloc (.cells #[.slice A5 L.length c5] 22)
        have XX : Ext Non w8 ((u1.alloc (.cells (zrow 32) 26)).alloc (.cells #[.slice A5 L.length c5] 22)) := (xu.alloc (.cells (zrow 32) 26)).alloc _
        refine wpTree_call rfl rfl (fun K hK => ?_)
        go_simp
        refine hK _ _ (((Ext.refl Non _).alloc _).ofN) ?_
        clear hK K
        have ctr := macN_calls (w := u1) (v := (u1.alloc (.cells (zrow 32) 26))) ((Ext.refl Non u1).alloc (.cells (zrow 32) 26)) Gu hu2 [⟨A5, c5, L⟩] pA 1 rfl (by decide) #[.slice A5 L.length c5] V.out (Ext.refl Non _) 32 32 ((rd_ba ((Ku.alloc (.cells (zrow 32) 26)).alloc (.cells #[.slice A5 L.length c5] 22))).imp (fun k hk _ => hk)) hkk (Nat.le_refl _) (by decide) (by rw [E.out]; omega) L E.out
        try rw [World.size_alloc] at ctr
        refine wpTree_call rfl rfl (fun K hK => ?_)
        go_simp
        with_reducible refine Calls.mono ctr ?_
        clear ctr
        rintro e u2 ⟨rfl, x6⟩
        go_simp
        refine hK _ _ x6.ofN ?_
        clear hK K
        have B2 := BB.extN_ x6
        have xu2 := XX.transN x6
        have st := stm _ _ B2
        refine wpTree_call rfl rfl (fun K hK => ?_)
        go_simp
        refine hK _ _ ((Ext.refl (fun k => w8.heap.size ≤ k) u2).setRow (.inr hu1) _) ?_
        clear hK K
        refine wpTree_end ?_
        go_wp2_with fail
        go_meet
        case rel => exact ⟨_, rfl, Blk.setRow B2 _, Ext.setRow xu2 (.inl hu1) _⟩
    · intro K hK
      go_simp
      refine hK _ _ (((Ext.refl Non _).alloc _).ofN) ?_
      clear hK K
      have B0 := (Blk.new w8 26 (zrow 32)).drew
      have x0 : Ext Non w8.drew (w8.alloc (.cells (zrow 32) 26)).drew := Ext.allocD w8 _
      refine wpTree_call rfl rfl (fun K hK => ?_)
      go_simp
      have ctr := wdone_calls (HWD.out.extN x0) L.length rfl (by omega)
      with_reducible refine Calls.mono ctr ?_
      clear ctr
      rintro e u1 ⟨A5, c5, rfl, o5, x5⟩
      go_simp
      refine hK _ _ x5.ofN ?_
      clear hK K
      have xu := (r8.transN x0).transN x5
      have hu1 : w8.heap.size ≤ u1.heap.size := xu.size
      obtain ⟨pA, V, E⟩ := one_part (w := u1) (o5.rd.imp (fun k hk _ => hk)) rfl o5.len.1
      have Ku := (K8d.extN_ x0).extN_ x5
      have Gu := (G8.extN x0).extN x5
      have hu2 : 2 ≤ u1.heap.size := Nat.le_trans hs8 (x0.transN x5).size
      have B1 := (B0.extN_ x5).alloc (.cells #[.slice A5 L.length c5] 22)
      refine wpTree_call rfl rfl (fun K hK => ?_)
      go_simp
      refine hK _ _ (((Ext.refl Non _).alloc _).ofN) ?_
      clear hK K
      have ctr := macN_calls (w := u1) (v := u1) (Ext.refl Non u1) Gu hu2 [⟨A5, c5, L⟩] pA 1 rfl (by decide) #[.slice A5 L.length c5] V.out (Ext.refl Non _) 32 32 ((rd_ba (Ku.alloc (.cells #[.slice A5 L.length c5] 22))).imp (fun k hk _ => hk)) hkk (Nat.le_refl _) (by decide) (by rw [E.out]; omega) L E.out
      try rw [World.size_alloc] at ctr
      refine wpTree_call rfl rfl (fun K hK => ?_)
      go_simp
      with_reducible refine Calls.mono ctr ?_
      clear ctr
      rintro e u2 ⟨rfl, x6⟩
      go_simp
      refine hK _ _ x6.ofN ?_
      clear hK K
      have B2 := B1.extN_ x6
      have xu2 := (xu.alloc (.cells #[.slice A5 L.length c5] 22)).transN x6
      have hg : w8.heap.size ≤ w8.heap.size := Nat.le_refl _
      have st := stm _ _ B2
      refine wpTree_call rfl rfl (fun K hK => ?_)
      go_simp
      refine hK _ _ ((Ext.refl (fun k => w8.heap.size ≤ k) u2).setRow (.inr hg) _) ?_
      clear hK K
      refine wpTree_end ?_
      go_wp2_with fail
      go_meet
      case rel => exact ⟨_, rfl, Blk.setRow B2 _, Ext.setRow xu2 (.inl hg) _⟩
  case rest =>
    obtain ⟨g11, rfl, B9, x9⟩ := hcut
    have X9 := X8.transN x9
    have K9 := K8.extN_ x9
    have W9 := W8.extN x9
    have lk := K9.big_load Tryd.underlying29 rfl (key_info _ (by rw [ba_size, hkk]))
    have pA2 : ∀ q ∈ ([⟨A1, c1, a⟩, ⟨A2, c2, b⟩] : List Part), Rd w (· < w.heap.size) q.a (bvs q.l) ∧ q.l.length ≤ q.c := fun q hq => by
      simp only [List.mem_cons, List.not_mem_nil, or_false] at hq
      rcases hq with rfl | rfl
      · exact ⟨ra, by show a.length ≤ c1; omega⟩
      · exact ⟨rb, by show b.length ≤ c2; omega⟩
    have V2 : Hid ((([⟨A1, c1, a⟩, ⟨A2, c2, b⟩] : List Part).map Part.val).toArray = #[.slice A1 k1 c1, .slice A2 k2 c2]) := by
      show _ = _
      simp [Part.val, la, lb]
    have hps2 : ∀ q ∈ ([⟨A1, c1, a⟩, ⟨A2, c2, b⟩] : List Part), q.l.length ≤ 1000 := fun q hq => by
      simp only [List.mem_cons, List.not_mem_nil, or_false] at hq
      rcases hq with rfl | rfl
      · show a.length ≤ 1000
        omega
      · show b.length ≤ 1000
        omega
    clear x9 X8 K8 W8
    go_wp2_with fail
    clear lk
    have ctr := derN_calls X9 G hw2 [⟨A1, c1, a⟩, ⟨A2, c2, b⟩] pA2 2 rfl (by decide) #[.slice A1 k1 c1, .slice A2 k2 c2] V2.out (Ext.refl Non _) hps2 kk hkk t (by omega) L HL.out
    with_reducible refine Calls.mono ctr ?_
    clear ctr
    rintro e w10 ⟨rfl, x10⟩
    have y10 : Ext Non wc (w10.alloc (.cells (ba (hm kk L)) 29)) := (((Ext.refl Non wc).alloc (.cells #[.slice A1 k1 c1, .slice A2 k2 c2] 22)).transN x10).alloc _
    have D8 := Blk.new w10 29 (ba (hm kk L))
    have B8 := B9.extN_ y10
    have Xv8 := X9.transN y10
    have Kv8 := K9.extN_ y10
    have Wv8 := W9.extN y10
    clear x10 X9 K9 W9 B9 y10 pA2 V2 hps2 ra rb
    go_upto_region 9 with (fail)
    generalize w10.alloc (.cells (ba (hm kk L)) 29) = v8 at *
    generalize w10.heap.size = g12 at *
    go_cut [13] from 63 (fun s13 wd => ∃ g, s13 = .pointer (some ⟨g, 0, none⟩) ∧ Blk wd g 35 (ba ((hm kk L).take 16)) ∧ Ext Non v8 wd)
    case first =>
      as_aux_lemma =>
      have Wd := Wv8.extN (Ext.refl Non v8).drew
      have HWD := Lib.hid Wd
      have stm := fun W g (B : Blk W g 35 (zrow 16)) => B.big_store (P := Tryd.prog) (ty := 35) (cs' := ba ((hm kk L).take 16)) (by rw [zrow_size, ba_size, m16_len]) (mac_info _ (by rw [ba_size, m16_len])) (ba_all _)
      have ly := fun W (hW : Ext (fun k => v8.heap.size ≤ k) v8 W) => (Kv8.ext hW (fun h => by have h : v8.heap.size ≤ w.heap.size := h; have := Kv8.lt; omega)).big_load (P := Tryd.prog) Tryd.underlying29 rfl (key_info _ (by rw [ba_size, hkk]))
      refine wp_region_tree (fun k => v8.heap.size ≤ k) (.q 0 (.q 1 (.b 2 (.b 3 (.b 4 (.c 5 (.c 6 .stop)) 5 (.c 4 (.c 6 .stop))) 5 (.c 3 (.c 4 (.c 6 .stop)))) 5 (.c 2 (.c 3 (.c 4 (.c 6 .stop))))))) (by kernel_rfl) (by kernel_rfl) (by kernel_rfl) ?_
      have hs8 : 2 ≤ v8.drew.heap.size := by show 2 ≤ v8.heap.size; have := Xv8.size; omega
      have G8 := G.extN Xv8.drew
      have Kv8d := Kv8.drew
      have r8 : Ext Non v8 v8.drew := (Ext.refl Non v8).drew
      clear Wd Kv8 Xv8 Wv8
      iterate 2 (refine wpTree_quiet rfl rfl ?_; apply Exists.intro; refine ⟨?_, ?_⟩; (intro W hW; have u1 := ly W hW.drewL; go_simp; try with_reducible rfl); (intro K hK; simp only [Act.put, List.setIfInBounds_toArray, List.set_cons_zero, List.set_cons_succ]; refine hK _ ?_; clear hK K))
      refine wpTree_both rfl rfl rfl rfl ?_ ?_
      · have ctr := wdone_calls HWD.out L.length rfl (by omega)
        intro K hK
        go_simp
        with_reducible refine Calls.mono ctr ?_
        clear ctr
        rintro e u1 ⟨A5, c5, rfl, o5, x5⟩
        go_simp
        refine hK _ _ x5.ofN ?_
        clear hK K
        have xu := r8.transN x5
        have hu1 : v8.heap.size ≤ u1.heap.size := xu.size
        obtain ⟨pA, V, E⟩ := one_part (w := u1) (o5.rd.imp (fun k hk _ => hk)) rfl o5.len.1
        have Ku := Kv8d.extN_ x5
        have Gu := G8.extN x5
        have hu2 : 2 ≤ u1.heap.size := Nat.le_trans hs8 x5.size
        refine wpTree_both rfl rfl rfl rfl ?_ ?_
        · intro K hK
          go_simp
          refine hK _ _ ((Ext.refl Non u1).alloc _).ofN ?_
          clear hK K
          refine wpTree_both rfl rfl rfl rfl ?_ ?_
          · have ctr := shortN_calls (w := u1) (v := u1) (Ext.refl Non u1) Gu hu2 [⟨A5, c5, L⟩] pA 1 rfl (by decide) #[.slice A5 L.length c5] V.out (Ext.refl Non _) kk hkk (by rw [E.out]; omega) L E.out
            try rw [World.size_alloc] at ctr
            intro K hK
            go_simp
            with_reducible refine Calls.mono ctr ?_
            clear ctr
            rintro e u2 ⟨rfl, x6⟩
            go_simp
            refine hK _ _ x6.ofN ?_
            clear hK K
            have xu2 := (xu.alloc (.cells #[.slice A5 L.length c5] 22)).transN x6
            have hu2' : v8.heap.size ≤ u2.heap.size := xu2.size
            refine wpTree_call rfl rfl (fun K hK => ?_)
            go_simp
            refine hK _ _ ((Ext.refl Non u2).alloc _).ofN ?_
            clear hK K
            have BB := Blk.new u2 35 (zrow 16)
            have XX : Ext Non v8 (u2.alloc (.cells (zrow 16) 35)) := xu2.alloc _
            have st := stm _ _ BB
            refine wpTree_call rfl rfl (fun K hK => ?_)
            go_simp
            refine hK _ _ ((Ext.refl (fun k => v8.heap.size ≤ k) (u2.alloc (.cells (zrow 16) 35))).setRow (.inr hu2') _) ?_
            clear hK K
            refine wpTree_end ?_
            go_wp2_with fail
            go_meet
            case rel => exact ⟨_, rfl, Blk.setRow BB _, Ext.setRow XX (.inl hu2') _⟩
          · intro K hK
            go_simp
            refine hK _ _ (((Ext.refl Non _).alloc _).ofN) ?_
            clear hK K
            have BB := Blk.new (u1.alloc (.cells #[.slice A5 L.length c5] 22)) 35 (zrow 16)
            rw [World.size_alloc] at BB
            have XX : Ext Non v8 ((u1.alloc (.cells #[.slice A5 L.length c5] 22)).alloc (.cells (zrow 16) 35)) := (xu.alloc (.cells #[.slice A5 L.length c5] 22)).alloc _
            have hg : v8.heap.size ≤ u1.heap.size + 1 := by omega
            have ctr := shortN_calls (w := u1) (v := u1) (Ext.refl Non u1) Gu hu2 [⟨A5, c5, L⟩] pA 1 rfl (by decide) #[.slice A5 L.length c5] V.out ((Ext.refl Non (u1.alloc (.cells #[.slice A5 L.length c5] 22))).alloc (.cells (zrow 16) 35)) kk hkk (by rw [E.out]; omega) L E.out
            try rw [World.size_alloc] at ctr
            refine wpTree_call rfl rfl (fun K hK => ?_)
            go_simp
            with_reducible refine Calls.mono ctr ?_
            clear ctr
            rintro e u2 ⟨rfl, x6⟩
            go_simp
            refine hK _ _ x6.ofN ?_
            clear hK K
            have B2 := BB.extN_ x6
            have xu2 := XX.transN x6
            have st := stm _ _ B2
            refine wpTree_call rfl rfl (fun K hK => ?_)
            go_simp
            refine hK _ _ ((Ext.refl (fun k => v8.heap.size ≤ k) u2).setRow (.inr hg) _) ?_
            clear hK K
            refine wpTree_end ?_
            go_wp2_with fail
            go_meet
            case rel => exact ⟨_, rfl, Blk.setRow B2 _, Ext.setRow xu2 (.inl hg) _⟩
        · intro K hK
          go_simp
          refine hK _ _ (((Ext.refl Non _).alloc _).ofN) ?_
          clear hK K
          have BB := (Blk.new u1 35 (zrow 16)).alloc (.cells #[.slice A5 L.length c5] 22)
          have XX : Ext Non v8 ((u1.alloc (.cells (zrow 16) 35)).alloc (.cells #[.slice A5 L.length c5] 22)) := (xu.alloc (.cells (zrow 16) 35)).alloc _
          refine wpTree_call rfl rfl (fun K hK => ?_)
          go_simp
          refine hK _ _ (((Ext.refl Non _).alloc _).ofN) ?_
          clear hK K
          have ctr := shortN_calls (w := u1) (v := (u1.alloc (.cells (zrow 16) 35))) ((Ext.refl Non u1).alloc (.cells (zrow 16) 35)) Gu hu2 [⟨A5, c5, L⟩] pA 1 rfl (by decide) #[.slice A5 L.length c5] V.out (Ext.refl Non _) kk hkk (by rw [E.out]; omega) L E.out
          try rw [World.size_alloc] at ctr
          refine wpTree_call rfl rfl (fun K hK => ?_)
          go_simp
          with_reducible refine Calls.mono ctr ?_
          clear ctr
          rintro e u2 ⟨rfl, x6⟩
          go_simp
          refine hK _ _ x6.ofN ?_
          clear hK K
          have B2 := BB.extN_ x6
          have xu2 := XX.transN x6
          have st := stm _ _ B2
          refine wpTree_call rfl rfl (fun K hK => ?_)
          go_simp
          refine hK _ _ ((Ext.refl (fun k => v8.heap.size ≤ k) u2).setRow (.inr hu1) _) ?_
          clear hK K
          refine wpTree_end ?_
          go_wp2_with fail
          go_meet
          case rel => exact ⟨_, rfl, Blk.setRow B2 _, Ext.setRow xu2 (.inl hu1) _⟩
      · intro K hK
        go_simp
        refine hK _ _ (((Ext.refl Non _).alloc _).ofN) ?_
        clear hK K
        have B0 := (Blk.new v8 35 (zrow 16)).drew
        have x0 : Ext Non v8.drew (v8.alloc (.cells (zrow 16) 35)).drew := Ext.allocD v8 _
        refine wpTree_call rfl rfl (fun K hK => ?_)
        go_simp
        have ctr := wdone_calls (HWD.out.extN x0) L.length rfl (by omega)
        with_reducible refine Calls.mono ctr ?_
        clear ctr
        rintro e u1 ⟨A5, c5, rfl, o5, x5⟩
        go_simp
        refine hK _ _ x5.ofN ?_
        clear hK K
        have xu := (r8.transN x0).transN x5
        have hu1 : v8.heap.size ≤ u1.heap.size := xu.size
        obtain ⟨pA, V, E⟩ := one_part (w := u1) (o5.rd.imp (fun k hk _ => hk)) rfl o5.len.1
        have Ku := (Kv8d.extN_ x0).extN_ x5
        have Gu := (G8.extN x0).extN x5
        have hu2 : 2 ≤ u1.heap.size := Nat.le_trans hs8 (x0.transN x5).size
        have B1 := (B0.extN_ x5).alloc (.cells #[.slice A5 L.length c5] 22)
        refine wpTree_call rfl rfl (fun K hK => ?_)
        go_simp
        refine hK _ _ (((Ext.refl Non _).alloc _).ofN) ?_
        clear hK K
        have ctr := shortN_calls (w := u1) (v := u1) (Ext.refl Non u1) Gu hu2 [⟨A5, c5, L⟩] pA 1 rfl (by decide) #[.slice A5 L.length c5] V.out (Ext.refl Non _) kk hkk (by rw [E.out]; omega) L E.out
        try rw [World.size_alloc] at ctr
        refine wpTree_call rfl rfl (fun K hK => ?_)
        go_simp
        with_reducible refine Calls.mono ctr ?_
        clear ctr
        rintro e u2 ⟨rfl, x6⟩
        go_simp
        refine hK _ _ x6.ofN ?_
        clear hK K
        have B2 := B1.extN_ x6
        have xu2 := (xu.alloc (.cells #[.slice A5 L.length c5] 22)).transN x6
        have hg : v8.heap.size ≤ v8.heap.size := Nat.le_refl _
        have st := stm _ _ B2
        refine wpTree_call rfl rfl (fun K hK => ?_)
        go_simp
        refine hK _ _ ((Ext.refl (fun k => v8.heap.size ≤ k) u2).setRow (.inr hg) _) ?_
        clear hK K
        refine wpTree_end ?_
        go_wp2_with fail
        go_meet
        case rel => exact ⟨_, rfl, Blk.setRow B2 _, Ext.setRow xu2 (.inl hg) _⟩
    case rest =>
      obtain ⟨g13, rfl, C9, x9⟩ := hcut
      have X9 := Xv8.transN x9
      have D9 := D8.extN_ x9
      have B9 := B8.extN_ x9
      have s1 := fun W => run_arr_all (P := Tryd.prog) W Tryd.underlying26 s8 g11 0 (by decide)
      have s2 := fun W => run_arr_all (P := Tryd.prog) W Tryd.underlying29 s8 g12 0 (by decide)
      have s3 := fun W => run_arr_all (P := Tryd.prog) W Tryd.underlying35 s8 g13 0 (by decide)
      have s4 := fun W => run_arr_hi (P := Tryd.prog) W Tryd.underlying26 s8 g11 0 .i64 16 16 rfl (by decide) (by decide)
      have u1 : ∀ W, Ext Non wc W → (convert 22 9 (.slice (some ⟨g11, 0, none⟩) 32 32)).run Tryd.prog W = .ok (.string (str (hm kk L))) W := fun W hW =>
        run_convert_rd W 22 9 5 Tryd.underlying22 Tryd.underlying9 Tryd.underlying5 ((rd_ba B9).extN hW) 32 32 (hm_len _ _)
      have u2 : ∀ W, Ext Non wc W → (convert 22 9 (.slice (some ⟨g12, 0, none⟩) 32 32)).run Tryd.prog W = .ok (.string (str (hm kk L))) W := fun W hW =>
        run_convert_rd W 22 9 5 Tryd.underlying22 Tryd.underlying9 Tryd.underlying5 ((rd_ba D9).extN hW) 32 32 (hm_len _ _)
      have u3 : ∀ W, Ext Non wc W → (convert 22 9 (.slice (some ⟨g13, 0, none⟩) 16 16)).run Tryd.prog W = .ok (.string (str ((hm kk L).take 16))) W := fun W hW =>
        run_convert_rd W 22 9 5 Tryd.underlying22 Tryd.underlying9 Tryd.underlying5 ((rd_ba C9).extN hW) 16 16 (m16_len _ _)
      have u4 : ∀ W, Ext Non wc W → (convert 22 9 (.slice (some ⟨g11, 0, none⟩) 16 32)).run Tryd.prog W = .ok (.string (str ((hm kk L).take 16))) W := fun W hW =>
        run_convert_rd W 22 9 5 Tryd.underlying22 Tryd.underlying9 Tryd.underlying5 (by rw [bvs_take5]; exact ((rd_ba B9).extN hW).take 16) 16 32 (m16_len _ _)
      go_wp2_with fail
      refine wp_region_seq Non ((0, true) :: (1, true) :: (2, true) :: (3, true) :: (4, true) :: (5, true) :: (6, true) :: (7, true) :: (8, true) :: (9, true) :: (10, true) :: (11, true) :: (12, true) :: (13, true) :: (14, true) :: (15, true) :: []) (by kernel_rfl) (by kernel_rfl) (by kernel_rfl) ?_
      iterate 16 (refine wpSeq_quiet rfl rfl ?_; apply Exists.intro; refine ⟨?_, ?_⟩; (intro W hW; have q1 := u1 W hW.drewL; have q2 := u2 W hW.drewL; have q3 := u3 W hW.drewL; have q4 := u4 W hW.drewL; go_simp; try with_reducible rfl); (intro K hK; simp only [Act.put, List.setIfInBounds_toArray, List.set_cons_zero, List.set_cons_succ]; refine hK _ ?_; clear hK K))
      refine wpSeq_end ?_
      clear u1 u2 u3 u4 s1 s2 s3 s4
      go_wp2_with fail
      go_ret
      exact ⟨by simp, X9.drew.belowN⟩
end Go.Proofs.YtgbaijmpfdhoeaaDoor
