/- Contract of package hmac: Derive. -/
import Derived.Test.YtgbaijmpfdhoeaaDoorShort
import Derived.Test.YtgbaijmpfdhoeaaDoorRef04
import Derived.Test.YtgbaijmpfdhoeaaDoorConv
import Derived.Test.YtgbaijmpfdhoeaaDoorPut32
namespace Go.Proofs.YtgbaijmpfdhoeaaDoor
open Go.RowKit

theorem new_wr4 (w : World) (base : Nat) : Wr (w.alloc (.cells #[.slice none 0 0] 45)) base w.heap.size none [] :=
  ⟨none, 0, Blk.new w _ _, OwB.nil _ _, rfl⟩
theorem Wr.extW {w w1 w2 : World} {base p : Nat} {g g2 : Option Nat} {l l2 : List UInt8} (X : Ext Non w w1) (hW : Wr w1 base p g l) (S : WStep w1 base p g w2 g2 l2) (hp : w.heap.size ≤ p) (hb : w.heap.size ≤ base) : Ext Non w w2 :=
  X.trans S.ext (fun i hi h => by
    rcases h with h | h
    · have h : i = p := h
      omega
    · have := (hW.row h).1
      omega)
theorem Blk.extW {w1 w2 : World} {base p b : Nat} {g g2 : Option Nat} {l l2 : List UInt8} {t : TypeId} {cs : Array Value} (B : Blk w1 b t cs) (hW : Wr w1 base p g l) (S : WStep w1 base p g w2 g2 l2) (hp : b ≠ p) (hb : b < base) : Blk w2 b t cs :=
  B.ext S.ext (fun h => by
    rcases h with h | h
    · exact hp h
    · have := (hW.row h).1
      omega)
@[go_sem] theorem store_key (w : World) (k m : List UInt8) : (bigStore 29 (.pointer (some ⟨w.heap.size, 0, none⟩)) (.agg (ba (hm k m)))).run Tryd.prog (w.alloc (.cells (zrow 32) 29)) = .ok () (w.alloc (.cells (ba (hm k m)) 29)) := by
  rw [Blk.big_store (P := Tryd.prog) (Blk.new w 29 (zrow 32)) (by rw [zrow_size, ba_size, hm_len]) (key_info _ (by rw [ba_size, hm_len])) (ba_all _), World.setRow_alloc_new]

set_option maxRecDepth 100000 in
set_option maxHeartbeats 2000000 in
theorem derive_calls {w : World} (G : Glob w) (hw2 : 2 ≤ w.heap.size) (k : List UInt8) (hk : k.length = 32) (label : List UInt8) (hl : label.length ≤ 1000)
    {ps : List Part} {B : Option Addr} (m cap : Nat) (hP : Parts w (· < w.heap.size) B ps) (hpm : ps.length = m) (hcap : m ≤ cap) (hm6 : m ≤ 1000) (hps : ∀ q ∈ ps, q.l.length ≤ 1000) :
    Calls Tryd.prog 19 #[.agg (ba k), .string (str label), .slice B m cap] w fun e w' => e = .returned (.agg (ba (hm k (dmsg label (ps.map Part.l))))) ∧ Ext Non w w' := by
  have n0 := row_ne (n := 31) (a := ba k) (by rw [ba_size, hk])
  have n1 := zrow32_ne
  have K1 := ((Blk.new w 29 (ba k)).alloc (.cells (zrow 32) 29)).alloc (.cells #[.slice none 0 0] 45)
  have B1 := (Blk.new (w.alloc (.cells (ba k) 29)) 29 (zrow 32)).alloc (.cells #[.slice none 0 0] 45)
  have X1 : Ext Non w (((w.alloc (.cells (ba k) 29)).alloc (.cells (zrow 32) 29)).alloc (.cells #[.slice none 0 0] 45)) := (((Ext.refl Non w).alloc _).alloc _).alloc _
  have W1 := new_wr4 ((w.alloc (.cells (ba k) 29)).alloc (.cells (zrow 32) 29)) (w.heap.size + 3)
  have hs1 : (((w.alloc (.cells (ba k) 29)).alloc (.cells (zrow 32) 29)).alloc (.cells #[.slice none 0 0] 45)).heap.size = w.heap.size + 1 + 1 + 1 := by rw [World.size_alloc, World.size_alloc, World.size_alloc]
  rw [World.size_alloc] at B1
  rw [World.size_alloc, World.size_alloc] at W1
  obtain ⟨ll, hll⟩ : ∃ n, label.length = n := ⟨_, rfl⟩
  have hz : (str label).size = ll := by rw [str_size, hll]
  have w1' : IntKind.u32.wrap (ll : Int) = (ll : Int) := by rw [IntKind.wrap_u32]; omega
  have HS1 := Lib.hid hs1
  clear hs1
  go_enter Tryd.func19, Tryd.ntmps19
  go_wp2_with fail
  have ctr := wu32_calls W1 (by rw [HS1.out]; omega) ll (by omega) (by simp)
  with_reducible refine Calls.mono ctr ?_
  clear ctr
  rintro e w2 ⟨rfl, g2, S2⟩
  have X2 := Wr.extW X1 W1 S2 (by omega) (by omega)
  have K2 := K1.extW W1 S2 (by omega) (by omega)
  have B2 := B1.extW W1 S2 (by omega) (by omega)
  have W2 := S2.wr
  have hb2 : w.heap.size + 3 ≤ w2.heap.size := Nat.le_trans (by rw [HS1.out]; exact Nat.le_refl _) S2.ext.size
  obtain ⟨c3, w3, cb, hc3, x3, hs3, r3⟩ := conv_bytes w2 label
  rw [hll] at cb hc3
  have W3 := W2.extN x3
  have X3 := X2.transN x3
  have K3 := K2.extN_ x3
  have B3 := B2.extN_ x3
  have hb3 : w.heap.size + 3 ≤ w3.heap.size := Nat.le_trans hb2 x3.size
  clear K1 B1 X1 W1 S2 X2 K2 B2 W2 hs3 x3 HS1 hb2
  go_wp2_with fail
  have ctr := wbytes_calls W3 hb3 c3 ll r3 hll (by rw [List.length_append, be_length]; simp; omega)
  with_reducible refine Calls.mono ctr ?_
  clear ctr
  rintro e w4 ⟨rfl, g4, S4⟩
  have X4 := Wr.extW X3 W3 S4 (by omega) (by omega)
  have K4 := K3.extW W3 S4 (by omega) (by omega)
  have B4 := B3.extW W3 S4 (by omega) (by omega)
  have W4 := S4.wr
  have hd0 : [] ++ be 4 ll ++ label = dmsg label [] := by unfold dmsg; rw [hll]; simp
  rw [hd0] at W4
  have hb4 : w.heap.size + 3 ≤ w4.heap.size := Nat.le_trans hb3 S4.ext.size
  clear W3 X3 K3 B3 S4 cb r3 hd0 hb3 hz w1'
  go_wp2_with fail
  go_loopw [22] (fun i wr => ∃ (j : Nat) (g : Option Nat), j ≤ m ∧ i = .int .i64 j ∧ Wr wr (w.heap.size + 3) (w.heap.size + 1 + 1) g (dmsg label ((ps.map Part.l).take j)) ∧ Blk wr w.heap.size 29 (ba k) ∧ Blk wr (w.heap.size + 1) 29 (zrow 32) ∧ Ext Non w wr ∧ w.heap.size + 3 ≤ wr.heap.size) (fun i _ => m - (intOf i).toNat)
  case atStart => exact ⟨0, g4, by omega, rfl, W4, K4, B4, X4, hb4⟩
  case round =>
    clear W4 K4 B4 X4 hb4
    obtain ⟨j, g, hj, rfl, W, K, BB, X, hb⟩ := hrel
    have hml : (ps.map Part.l).length = m := by rw [List.length_map, hpm]
    have hlen := dmsg_len label ((ps.map Part.l).take j) 1000 (fun t h => by
      obtain ⟨q, hq, rfl⟩ := List.mem_map.1 (List.mem_of_mem_take h)
      exact hps q hq)
    rw [List.length_take] at hlen
    by_cases hlt : j < m
    · have hP2 := hP.extN X
      obtain ⟨hA, hc2⟩ := hP2.row.ix (k := j) (u := ps[j].val) (by simp [show j < ps.length from by omega])
      obtain ⟨hr2, hcl⟩ := hP2.each ps[j] (List.getElem_mem _)
      have hql := hps ps[j] (List.getElem_mem _)
      have hsn := dmsg_snoc label (ps.map Part.l) j (by omega)
      rw [List.getElem_map] at hsn
      have hv : ps[j].val = .slice ps[j].a ps[j].l.length ps[j].c := rfl
      rw [hv] at hc2
      generalize ps[j] = q at *
      obtain ⟨qa, qc, ql⟩ := q
      dsimp only at *
      obtain ⟨qn, hqn⟩ : ∃ n, ql.length = n := ⟨_, rfl⟩
      rw [hqn] at hc2 hcl hql hsn
      have HSN := Lib.hid hsn
      have hjb : (4 + 1000) * min j (ps.map Part.l).length ≤ 1004 * 1000 := Nat.mul_le_mul_left _ (by omega)
      obtain ⟨L0, hL0⟩ : ∃ l, dmsg label ((ps.map Part.l).take j) = l := ⟨_, rfl⟩
      rw [hL0] at W hlen hsn
      have hL0l : L0.length ≤ 2000000 := by omega
      have HL0 := Lib.hid hL0
      have i0 : (0 : Int) ≤ (j : Int) := by omega
      have i1 : (j : Int) < (m : Int) := by omega
      have wq : IntKind.u32.wrap (qn : Int) = (qn : Int) := by rw [IntKind.wrap_u32]; omega
      clear hsn hL0 hjb hlen hv hP2
      go_wp2_with fail
      have ctr := wu32_calls W hb qn (by omega) (by omega)
      with_reducible refine Calls.mono ctr ?_
      clear ctr
      rintro e w5 ⟨rfl, g5, S5⟩
      have X5 := Wr.extW X W S5 (by omega) (by omega)
      have K5 := K.extW W S5 (by omega) (by omega)
      have B5 := BB.extW W S5 (by omega) (by omega)
      have W5 := S5.wr
      have hb5 : w.heap.size + 3 ≤ w5.heap.size := Nat.le_trans hb S5.ext.size
      have r5 := hr2.ext S5.ext (fun i hi h => by
        rcases h with h | h
        · omega
        · have := (W.row h).1
          omega)
      clear X W K BB S5 hb hr2
      go_wp2_with fail
      have ctr := wbytes_calls W5 hb5 qc qn r5 hqn (by rw [List.length_append, be_length]; omega)
      with_reducible refine Calls.mono ctr ?_
      clear ctr
      rintro e w6 ⟨rfl, g6, S6⟩
      have X6 := Wr.extW X5 W5 S6 (by omega) (by omega)
      have K6 := K5.extW W5 S6 (by omega) (by omega)
      have B6 := B5.extW W5 S6 (by omega) (by omega)
      have W6 := S6.wr
      have hb6 : w.heap.size + 3 ≤ w6.heap.size := Nat.le_trans hb5 S6.ext.size
      have hnx := HSN.out
      rw [HL0.out] at hnx
      rw [← hnx] at W6
      clear X5 W5 K5 B5 S6 hb5 r5 hnx
      go_wp2_with fail
      exact ⟨⟨j + 1, g6, by omega, by go_num, W6, K6, B6, X6, hb6⟩, by simp [intOf]; omega⟩
    · obtain rfl : j = m := by omega
      rw [List.take_of_length_le (by omega)] at W
      obtain ⟨L, hL⟩ : ∃ l, dmsg label (ps.map Part.l) = l := ⟨_, rfl⟩
      have hjb : (4 + 1000) * min j (ps.map Part.l).length ≤ 1004 * 1000 := Nat.mul_le_mul_left _ (by omega)
      rw [List.take_of_length_le (by omega)] at hlen
      rw [hL] at W hlen
      have HL := Lib.hid hL
      have hLl : L.length ≤ 2000000 := by omega
      have sl := fun W g => run_arr_all (P := Tryd.prog) W Tryd.underlying29 s8 g 0 (by decide)
      clear hL hjb hlen
      have KB := K
      clear K
      go_wp2_with fail
      refine wp_region_seq (One (w.heap.size + 1)) ((0, true) :: (1, true) :: (2, false) :: (3, false) :: (4, false) :: (5, false) :: []) (by kernel_rfl) (by kernel_rfl) (by kernel_rfl) ?_
      iterate 2 (refine wpSeq_quiet rfl rfl ?_; apply Exists.intro; refine ⟨?_, ?_⟩; (intro W hW; go_simp; try with_reducible rfl); (intro K hK; simp only [Act.put, List.setIfInBounds_toArray, List.set_cons_zero, List.set_cons_succ]; refine hK _ ?_; clear hK K))
      have Wd : Wr wr.drew (w.heap.size + 3) (w.heap.size + 1 + 1) g L := W.extN (Ext.refl Non wr).drew
      refine wpSeq_call rfl rfl (fun K hK => ?_)
      go_simp
      refine Calls.mono (wdone_calls Wd L.length rfl (by omega)) ?_
      rintro e w5 ⟨A5, c5, rfl, o5, x5⟩
      go_simp
      refine hK _ _ x5.ofN ?_
      clear hK K
      have X5 := X.drew.transN x5
      have K5 := (Blk.drew KB).extN_ x5
      have B5 := (Blk.drew BB).extN_ x5
      have Q5 := parts_new (w := w5) (D := fun k => k < w5.heap.size) 22 [⟨A5, c5, L⟩] (fun k hk => hk) (fun q hq => by
        simp only [List.mem_cons, List.not_mem_nil, or_false] at hq
        subst hq
        exact ⟨o5.rd.imp (fun k hk _ => hk), o5.len.1⟩)
      have V : Hid ((([⟨A5, c5, L⟩] : List Part).map Part.val).toArray = #[.slice A5 L.length c5]) := by
        show _ = _
        simp [Part.val]
      rw [V.out] at Q5
      have Q6 : Parts (w5.alloc (.cells #[.slice A5 L.length c5] 22)) (· < (w5.alloc (.cells #[.slice A5 L.length c5] 22)).heap.size) (some ⟨w5.heap.size, 0, none⟩) [⟨A5, c5, L⟩] := by
        rw [World.size_alloc]
        exact Q5
      have E : Hid (allOf [⟨A5, c5, L⟩] = L) := by show _ = _; simp [allOf]
      have X6 : Ext Non w (w5.alloc (.cells #[.slice A5 L.length c5] 22)) := X5.alloc _
      have K6 := K5.alloc (.cells #[.slice A5 L.length c5] 22)
      have B6 := B5.alloc (.cells #[.slice A5 L.length c5] 22)
      clear W Wd x5 X KB BB X5 K5 B5 Q5 V
      refine wpSeq_call rfl rfl (fun K hK => ?_)
      go_simp
      refine hK _ _ ((Ext.refl (One (w.heap.size + 1)) w5).alloc _) ?_
      clear hK K
      have ctr := mac_calls (G.extN X6) (by have := X6.size; omega) 32 32 ((rd_ba K6).imp (fun k hk _ => hk)) hk (by decide) (by decide) 1 1 Q6 rfl (Nat.le_refl _) (by rw [E.out]; omega) (by decide)
      rw [E.out] at ctr
      refine wpSeq_call rfl rfl (fun K hK => ?_)
      go_simp
      with_reducible refine Calls.mono ctr ?_
      clear ctr
      rintro e w7 ⟨rfl, x7⟩
      go_simp
      refine hK _ _ x7.ofN ?_
      clear hK K
      have X7 := X6.transN x7
      have B7 := B6.extN_ x7
      have st := B7.big_store (P := Tryd.prog) (ty := 29) (cs' := ba (hm k L)) (by rw [zrow_size, ba_size, hm_len]) (key_info _ (by rw [ba_size, hm_len])) (ba_all _)
      have B8 := B7.setRow (ba (hm k L))
      have X8 : Ext Non w (w7.setRow (w.heap.size + 1) (ba (hm k L))) := X7.setRow (.inl (Nat.le_succ _)) _
      refine wpSeq_call rfl rfl (fun K hK => ?_)
      go_simp
      refine hK _ _ ((Ext.refl (One (w.heap.size + 1)) w7).setRow (.inr rfl) _) ?_
      clear hK K
      refine wpSeq_end ?_
      go_wp2_with fail
      refine bodyPost_ret (B8.results Tryd.results19 _ rfl Tryd.underlying29 rfl (key_info _ (by rw [ba_size, hm_len]))) rfl ⟨?_, X8⟩
      rw [HL.out]
end Go.Proofs.YtgbaijmpfdhoeaaDoor
