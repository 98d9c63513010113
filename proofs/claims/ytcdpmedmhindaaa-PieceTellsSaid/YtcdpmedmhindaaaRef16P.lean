/- The document's answer for layer 16: Parse. -/
import Derived.Test.YtcdpmedmhindaaaRef16
import Derived.Test.YtcdpmedmhindaaaSeqT
import Derived.Deep.DeepCutAuto
namespace Go.Proofs.Ytcdpmedmhindaaa
open Go.RowKit

theorem extract_part (l : List UInt8) (a b k : Nat) (hab : a + k = b) (m : List UInt8) (hm : (l.drop a).take k = m) : (str l).extract a b = str m := by
  rw [str_extract, List.drop_take, ← hm]
  congr 2
  omega
theorem take_step (l : List UInt8) (a k b : Nat) (h : a + k = b) : l.take b = l.take a ++ (l.drop a).take k := by
  subst h
  exact List.take_add
theorem be_part (l : List UInt8) (a k : Nat) (h : a + k ≤ l.length) : be k (num ((l.drop a).take k)) = (l.drop a).take k := be_num k _ (by rw [List.length_take, List.length_drop]; omega)
theorem pcb_rdpc {l : List UInt8} (hl : l.length = 256) {n : Nat} (hn : num ((l.drop 11).take 1) = n) (h : n ≤ 244) : pcb (rdpc l) = l ↔ l.drop (12 + n) = zeros (244 - n) := by
  have hb : ((l.drop 12).take n).length = n := by rw [List.length_take, List.length_drop]; omega
  have e : pcb (rdpc l) = l.take (12 + n) ++ zeros (244 - n) := by
    unfold pcb rdpc
    simp only [Int.toNat_natCast]
    rw [hn, if_pos h, hb]
    have h11 : be 1 n = (l.drop 11).take 1 := by rw [← hn]; exact be_part l 11 1 (by omega)
    rw [h11, be_part l 0 1 (by omega), be_part l 1 4 (by omega), be_part l 5 2 (by omega), be_part l 7 2 (by omega), be_part l 9 1 (by omega), be_part l 10 1 (by omega)]
    rw [take_step l 12 n (12 + n) rfl, take_step l 11 1 12 rfl, take_step l 10 1 11 rfl, take_step l 9 1 10 rfl, take_step l 7 2 9 rfl, take_step l 5 2 7 rfl, take_step l 1 4 5 rfl, List.drop_zero]
  rw [e]
  constructor
  · intro h2
    have := congrArg (List.drop (12 + n)) h2
    rw [List.drop_append_of_le_length (by rw [List.length_take]; omega), List.drop_of_length_le (by rw [List.length_take]; omega), List.nil_append] at this
    exact this.symm
  · intro h2
    rw [← h2, List.take_append_drop]
theorem rdpc_of {l : List UInt8} {n : Nat} (hn : num ((l.drop 11).take 1) = n) (h : n ≤ 244) : rdpc l = ⟨num ((l.drop 0).take 1), num ((l.drop 1).take 4), num ((l.drop 5).take 2), num ((l.drop 7).take 2), num ((l.drop 9).take 1), num ((l.drop 10).take 1), (l.drop 12).take n⟩ := by
  unfold rdpc
  rw [hn, if_pos h]
theorem num_at (l : List UInt8) (i : Nat) (h : i < l.length) : num ((l.drop i).take 1) = l[i].toNat := by
  have e : (l.drop i).take 1 = [l[i]] := by
    rw [List.drop_eq_getElem_cons h]
    rfl
  rw [e]
  simp [num]
theorem pgood_big {l : List UInt8} {n : Nat} (hn : num ((l.drop 11).take 1) = n) (h : ¬ n ≤ 244) : pgood l = false := by
  unfold pgood
  rw [hn, decide_eq_false h]
  rfl
theorem pgood_small {l : List UInt8} (hl : l.length = 256) {n : Nat} (hn : num ((l.drop 11).take 1) = n) (h : n ≤ 244) : pgood l = (prt (rdpc l) && (l.drop (12 + n) == zeros (244 - n))) := by
  unfold pgood
  rw [hn, decide_eq_true h, Bool.true_and]
  congr 1
  rw [Bool.eq_iff_iff, decide_eq_true_eq, beq_iff_eq]
  exact pcb_rdpc hl hn h
theorem number_x (w : World) (l : List UInt8) (k : Nat) (hk : l.length = k) (h8 : k ≤ 8) (n : Nat) (hn : num l = n) :
    Calls Try.prog 53 #[.string (str l)] w fun e w' => e = .returned (.int .u64 (n : Int)) ∧ w = w' := by
  subst hn
  exact number_calls w l (by omega)
set_option maxRecDepth 100000 in
set_option maxHeartbeats 4000000 in
theorem rparse_calls (w : World) (l : List UInt8) (hl : l.length = 256) :
    Calls Try.prog 31 #[.string (str l)] w fun e w' => e = .returned (.tuple #[.agg (rpc (pdec l)), .int .i64 (pdece l : Nat)]) ∧ Ext Non w w' := by
  obtain ⟨n, hn⟩ : ∃ n, num ((l.drop 11).take 1) = n := ⟨_, rfl⟩
  have hn11 := num_at l 11 (by omega)
  rw [hn] at hn11
  have q11 : ∀ h, ((str l)[11]'h) = l[11] := fun h => rfl
  have hsz : (str l).size = 256 := by rw [str_size, hl]
  have hn256 := l[11].toNat_lt
  have Z0 := Blk.new w 52 #[.int .i64 0, .int .u32 0, .int .u16 0, .int .u16 0, .int .i64 0, .int .i64 0, .string ⟨#[]⟩]
  have X0 := (Ext.refl Non w).alloc (.cells #[.int .i64 0, .int .u32 0, .int .u16 0, .int .u16 0, .int .i64 0, .int .i64 0, .string ⟨#[]⟩] 52)
  rw [← hn11] at hn256
  go_enter Try.func31, Try.ntmps31
  go_upto_region 1 with (fail)
  generalize w.alloc (.cells #[.int .i64 0, .int .u32 0, .int .u16 0, .int .u16 0, .int .i64 0, .int .i64 0, .string ⟨#[]⟩] 52) = v at *
  have q11' : ∀ h, (((str l)[11]'h).toNat : Int) = (n : Int) := fun h => by rw [hn11]; rfl
  clear hn11 q11
  go_upto_region 2 with (fail)
  by_cases h244 : n ≤ 244
  · have i1 : ¬ 244 < (n : Int) := by omega
    obtain ⟨ki, hki⟩ : ∃ x, num ((l.drop 0).take 1) = x := ⟨_, rfl⟩
    obtain ⟨id, hid⟩ : ∃ x, num ((l.drop 1).take 4) = x := ⟨_, rfl⟩
    obtain ⟨fr, hfr⟩ : ∃ x, num ((l.drop 5).take 2) = x := ⟨_, rfl⟩
    obtain ⟨bx, hbx⟩ : ∃ x, num ((l.drop 7).take 2) = x := ⟨_, rfl⟩
    obtain ⟨pl, hpl⟩ : ∃ x, num ((l.drop 9).take 1) = x := ⟨_, rfl⟩
    obtain ⟨co, hco⟩ : ∃ x, num ((l.drop 10).take 1) = x := ⟨_, rfl⟩
    obtain ⟨b, hb⟩ : ∃ x, (l.drop 12).take n = x := ⟨_, rfl⟩
    have hrd := rdpc_of hn h244
    rw [hki, hid, hfr, hbx, hpl, hco, hb] at hrd
    have hok := rdpc_ok hl
    rw [hrd] at hok
    obtain ⟨k1, k2, k3⟩ := hok
    simp only at k1 k2 k3
    have hbn : b.length = n := by rw [← hb, List.length_take, List.length_drop]; omega
    have hg := pgood_small hl hn h244
    rw [hrd] at hg
    have q0 := num_at l 0 (by omega)
    have q9 := num_at l 9 (by omega)
    have q10 := num_at l 10 (by omega)
    rw [hki] at q0
    rw [hpl] at q9
    rw [hco] at q10
    have q0' : ∀ h, (((str l)[0]'h).toNat : Int) = (ki : Int) := fun h => by rw [q0]; rfl
    have q9' : ∀ h, (((str l)[9]'h).toNat : Int) = (pl : Int) := fun h => by rw [q9]; rfl
    have q10' : ∀ h, (((str l)[10]'h).toNat : Int) = (co : Int) := fun h => by rw [q10]; rfl
    obtain ⟨m1, hm1⟩ : ∃ x, (l.drop 1).take 4 = x := ⟨_, rfl⟩
    obtain ⟨m5, hm5⟩ : ∃ x, (l.drop 5).take 2 = x := ⟨_, rfl⟩
    obtain ⟨m7, hm7⟩ : ∃ x, (l.drop 7).take 2 = x := ⟨_, rfl⟩
    have hl1 : m1.length = 4 := by rw [← hm1, List.length_take, List.length_drop]; omega
    have hl5 : m5.length = 2 := by rw [← hm5, List.length_take, List.length_drop]; omega
    have hl7 : m7.length = 2 := by rw [← hm7, List.length_take, List.length_drop]; omega
    have x1 := extract_part l 1 5 4 rfl m1 hm1
    have x5 := extract_part l 5 7 2 rfl m5 hm5
    have x7 := extract_part l 7 9 2 rfl m7 hm7
    have x12 := extract_part l 12 (12 + n) n rfl b hb
    rw [hm1] at hid
    rw [hm5] at hfr
    rw [hm7] at hbx
    have wv1 : IntKind.u32.wrap (id : Int) = (id : Int) := by rw [IntKind.wrap_u32]; omega
    have wv2 : IntKind.u16.wrap (fr : Int) = (fr : Int) := by rw [IntKind.wrap_u16]; omega
    have wv3 : IntKind.u16.wrap (bx : Int) = (bx : Int) := by rw [IntKind.wrap_u16]; omega
    have wv4 : IntKind.i64.wrap (12 + (n : Int)) = 12 + (n : Int) := by rw [IntKind.wrap_i64]; omega
    have i2 : (0 : Int) ≤ 12 + (n : Int) := by omega
    have i3 : 12 + (n : Int) ≤ 256 := by omega
    have i4 : (12 : Int) ≤ 12 + (n : Int) := by omega
    have i5 : (12 + (n : Int)).toNat = 12 + n := by omega
    have wk1 : IntKind.i64.wrap (ki : Int) = (ki : Int) := by
      have := (l[0]'(by omega)).toNat_lt
      rw [IntKind.wrap_i64]; omega
    have wk2 : IntKind.i64.wrap (pl : Int) = (pl : Int) := by
      have := (l[9]'(by omega)).toNat_lt
      rw [IntKind.wrap_i64]; omega
    have wk3 : IntKind.i64.wrap (co : Int) = (co : Int) := by
      have := (l[10]'(by omega)).toNat_lt
      rw [IntKind.wrap_i64]; omega
    have hg0 := Z0.lt
    clear q0 q9 q10 hki hpl hco hm1 hm5 hm7 hb
    go_upto_region 4 with (fail)
    go_cut [5] (fun s wc => ∃ g, s = .pointer (some ⟨g, 0, none⟩) ∧ Blk wc g 52 #[.int .i64 (ki : Int), .int .u32 (id : Int), .int .u16 (fr : Int), .int .u16 (bx : Int), .int .i64 (pl : Int), .int .i64 (co : Int), .string (str b)] ∧ Ext Non v wc ∧ w.heap.size < g)
    case first =>
      have Yd := (Ext.refl Non v).drew
      have hgd : w.heap.size < v.drew.heap.size := hg0
      refine wp_region_tree (fun k => v.heap.size ≤ k) (.q 0 (.q 1 (.q 2 (.q 3 (.q 4 (.q 7 (.q 8 (.q 11 (.q 12 (.q 15 (.q 16 (.q 17 (.q 18 (.q 19 (.q 20 (.q 21 (.q 22 (.q 23 (.q 24 (.b 5 (.q 6 (.b 9 (.q 10 (.b 13 (.q 14 (.q 25 (.c 26 (.c 27 .stop)))) 26 (.c 13 (.q 14 (.q 25 (.c 27 .stop)))))) 26 (.c 9 (.q 10 (.c 13 (.q 14 (.q 25 (.c 27 .stop)))))))) 26 (.c 5 (.q 6 (.c 9 (.q 10 (.c 13 (.q 14 (.q 25 (.c 27 .stop)))))))))))))))))))))))))))) (by kernel_rfl) (by kernel_rfl) (by kernel_rfl) ?_
      have hvd : v.heap.size = v.drew.heap.size := rfl
      rw [hvd]
      generalize v.drew = v1 at *
      iterate 19 (refine wpTree_quiet rfl rfl ?_; apply Exists.intro; refine ⟨?_, ?_⟩; (intro W hW; go_simp; try with_reducible rfl); (intro K hK; simp only [Act.put, List.setIfInBounds_toArray, List.set_cons_zero, List.set_cons_succ]; refine hK _ ?_; clear hK K))
      have st := (Blk.new v1 52 #[.int .i64 0, .int .u32 0, .int .u16 0, .int .u16 0, .int .i64 0, .int .i64 0, .string ⟨#[]⟩]).big_store (P := Try.prog) (ty := 52) (cs' := #[.int .i64 (ki : Int), .int .u32 (id : Int), .int .u16 (fr : Int), .int .u16 (bx : Int), .int .i64 (pl : Int), .int .i64 (co : Int), .string (str b)]) rfl (by kernel_rfl) (by simp [Value.oneCell'])
      have ZB := (Blk.new v1 52 #[.int .i64 0, .int .u32 0, .int .u16 0, .int .u16 0, .int .i64 0, .int .i64 0, .string ⟨#[]⟩]).setRow #[.int .i64 (ki : Int), .int .u32 (id : Int), .int .u16 (fr : Int), .int .u16 (bx : Int), .int .i64 (pl : Int), .int .i64 (co : Int), .string (str b)]
      have ZX := (Yd.alloc (.cells #[.int .i64 0, .int .u32 0, .int .u16 0, .int .u16 0, .int .i64 0, .int .i64 0, .string ⟨#[]⟩] 52)).setRow (g := v1.heap.size) (.inl (by rw [hvd]; exact Nat.le_refl _)) #[.int .i64 (ki : Int), .int .u32 (id : Int), .int .u16 (fr : Int), .int .u16 (bx : Int), .int .i64 (pl : Int), .int .i64 (co : Int), .string (str b)]
      have AX := (Ext.refl (fun k => v1.heap.size ≤ k) v1).alloc (.cells #[.int .i64 0, .int .u32 0, .int .u16 0, .int .u16 0, .int .i64 0, .int .i64 0, .string ⟨#[]⟩] 52)
      have RX := (Ext.refl (fun k => v1.heap.size ≤ k) (v1.alloc (.cells #[.int .i64 0, .int .u32 0, .int .u16 0, .int .u16 0, .int .i64 0, .int .i64 0, .string ⟨#[]⟩] 52))).setRow (g := v1.heap.size) (.inr (Nat.le_refl _)) #[.int .i64 (ki : Int), .int .u32 (id : Int), .int .u16 (fr : Int), .int .u16 (bx : Int), .int .i64 (pl : Int), .int .i64 (co : Int), .string (str b)]
      refine wpTree_both rfl rfl rfl rfl ?_ ?_
      · intro K hK
        go_simp
        have ctr := number_x v1 m1 4 hl1 (by omega) id hid
        with_reducible refine Calls.mono ctr ?_
        clear ctr
        rintro e u ⟨rfl, rfl⟩
        go_simp
        refine hK _ _ (Ext.refl _ _) ?_
        clear hK K
        iterate 1 (refine wpTree_quiet rfl rfl ?_; apply Exists.intro; refine ⟨?_, ?_⟩; (intro W hW; go_simp; try with_reducible rfl); (intro K hK; simp only [Act.put, List.setIfInBounds_toArray, List.set_cons_zero, List.set_cons_succ]; refine hK _ ?_; clear hK K))
        refine wpTree_both rfl rfl rfl rfl ?_ ?_
        · intro K hK
          go_simp
          have ctr := number_x v1 m5 2 hl5 (by omega) fr hfr
          with_reducible refine Calls.mono ctr ?_
          clear ctr
          rintro e u ⟨rfl, rfl⟩
          go_simp
          refine hK _ _ (Ext.refl _ _) ?_
          clear hK K
          iterate 1 (refine wpTree_quiet rfl rfl ?_; apply Exists.intro; refine ⟨?_, ?_⟩; (intro W hW; go_simp; try with_reducible rfl); (intro K hK; simp only [Act.put, List.setIfInBounds_toArray, List.set_cons_zero, List.set_cons_succ]; refine hK _ ?_; clear hK K))
          refine wpTree_both rfl rfl rfl rfl ?_ ?_
          · intro K hK
            go_simp
            have ctr := number_x v1 m7 2 hl7 (by omega) bx hbx
            with_reducible refine Calls.mono ctr ?_
            clear ctr
            rintro e u ⟨rfl, rfl⟩
            go_simp
            refine hK _ _ (Ext.refl _ _) ?_
            clear hK K
            iterate 2 (refine wpTree_quiet rfl rfl ?_; apply Exists.intro; refine ⟨?_, ?_⟩; (intro W hW; go_simp; try with_reducible rfl); (intro K hK; simp only [Act.put, List.setIfInBounds_toArray, List.set_cons_zero, List.set_cons_succ]; refine hK _ ?_; clear hK K))
            refine wpTree_call rfl rfl (fun K hK => ?_)
            go_simp
            refine hK _ _ AX ?_
            clear hK K
            refine wpTree_call rfl rfl (fun K hK => ?_)
            go_simp
            refine hK _ _ RX ?_
            clear hK K
            refine wpTree_end ?_
            go_wp2_with fail
            go_meet
            case rel => exact ⟨_, rfl, ZB, ZX, hgd⟩
          · intro K hK
            go_simp
            refine hK _ _ AX ?_
            clear hK K
            refine wpTree_call rfl rfl (fun K hK => ?_)
            go_simp
            have ctr := number_x (v1.alloc (.cells #[.int .i64 0, .int .u32 0, .int .u16 0, .int .u16 0, .int .i64 0, .int .i64 0, .string ⟨#[]⟩] 52)) m7 2 hl7 (by omega) bx hbx
            with_reducible refine Calls.mono ctr ?_
            clear ctr
            rintro e u ⟨rfl, rfl⟩
            go_simp
            refine hK _ _ (Ext.refl _ _) ?_
            clear hK K
            iterate 2 (refine wpTree_quiet rfl rfl ?_; apply Exists.intro; refine ⟨?_, ?_⟩; (intro W hW; go_simp; try with_reducible rfl); (intro K hK; simp only [Act.put, List.setIfInBounds_toArray, List.set_cons_zero, List.set_cons_succ]; refine hK _ ?_; clear hK K))
            refine wpTree_call rfl rfl (fun K hK => ?_)
            go_simp
            refine hK _ _ RX ?_
            clear hK K
            refine wpTree_end ?_
            go_wp2_with fail
            go_meet
            case rel => exact ⟨_, rfl, ZB, ZX, hgd⟩
        · intro K hK
          go_simp
          refine hK _ _ AX ?_
          clear hK K
          refine wpTree_call rfl rfl (fun K hK => ?_)
          go_simp
          have ctr := number_x (v1.alloc (.cells #[.int .i64 0, .int .u32 0, .int .u16 0, .int .u16 0, .int .i64 0, .int .i64 0, .string ⟨#[]⟩] 52)) m5 2 hl5 (by omega) fr hfr
          with_reducible refine Calls.mono ctr ?_
          clear ctr
          rintro e u ⟨rfl, rfl⟩
          go_simp
          refine hK _ _ (Ext.refl _ _) ?_
          clear hK K
          iterate 1 (refine wpTree_quiet rfl rfl ?_; apply Exists.intro; refine ⟨?_, ?_⟩; (intro W hW; go_simp; try with_reducible rfl); (intro K hK; simp only [Act.put, List.setIfInBounds_toArray, List.set_cons_zero, List.set_cons_succ]; refine hK _ ?_; clear hK K))
          refine wpTree_call rfl rfl (fun K hK => ?_)
          go_simp
          have ctr := number_x (v1.alloc (.cells #[.int .i64 0, .int .u32 0, .int .u16 0, .int .u16 0, .int .i64 0, .int .i64 0, .string ⟨#[]⟩] 52)) m7 2 hl7 (by omega) bx hbx
          with_reducible refine Calls.mono ctr ?_
          clear ctr
          rintro e u ⟨rfl, rfl⟩
          go_simp
          refine hK _ _ (Ext.refl _ _) ?_
          clear hK K
          iterate 2 (refine wpTree_quiet rfl rfl ?_; apply Exists.intro; refine ⟨?_, ?_⟩; (intro W hW; go_simp; try with_reducible rfl); (intro K hK; simp only [Act.put, List.setIfInBounds_toArray, List.set_cons_zero, List.set_cons_succ]; refine hK _ ?_; clear hK K))
          refine wpTree_call rfl rfl (fun K hK => ?_)
          go_simp
          refine hK _ _ RX ?_
          clear hK K
          refine wpTree_end ?_
          go_wp2_with fail
          go_meet
          case rel => exact ⟨_, rfl, ZB, ZX, hgd⟩
      · intro K hK
        go_simp
        refine hK _ _ AX ?_
        clear hK K
        refine wpTree_call rfl rfl (fun K hK => ?_)
        go_simp
        have ctr := number_x (v1.alloc (.cells #[.int .i64 0, .int .u32 0, .int .u16 0, .int .u16 0, .int .i64 0, .int .i64 0, .string ⟨#[]⟩] 52)) m1 4 hl1 (by omega) id hid
        with_reducible refine Calls.mono ctr ?_
        clear ctr
        rintro e u ⟨rfl, rfl⟩
        go_simp
        refine hK _ _ (Ext.refl _ _) ?_
        clear hK K
        iterate 1 (refine wpTree_quiet rfl rfl ?_; apply Exists.intro; refine ⟨?_, ?_⟩; (intro W hW; go_simp; try with_reducible rfl); (intro K hK; simp only [Act.put, List.setIfInBounds_toArray, List.set_cons_zero, List.set_cons_succ]; refine hK _ ?_; clear hK K))
        refine wpTree_call rfl rfl (fun K hK => ?_)
        go_simp
        have ctr := number_x (v1.alloc (.cells #[.int .i64 0, .int .u32 0, .int .u16 0, .int .u16 0, .int .i64 0, .int .i64 0, .string ⟨#[]⟩] 52)) m5 2 hl5 (by omega) fr hfr
        with_reducible refine Calls.mono ctr ?_
        clear ctr
        rintro e u ⟨rfl, rfl⟩
        go_simp
        refine hK _ _ (Ext.refl _ _) ?_
        clear hK K
        iterate 1 (refine wpTree_quiet rfl rfl ?_; apply Exists.intro; refine ⟨?_, ?_⟩; (intro W hW; go_simp; try with_reducible rfl); (intro K hK; simp only [Act.put, List.setIfInBounds_toArray, List.set_cons_zero, List.set_cons_succ]; refine hK _ ?_; clear hK K))
        refine wpTree_call rfl rfl (fun K hK => ?_)
        go_simp
        have ctr := number_x (v1.alloc (.cells #[.int .i64 0, .int .u32 0, .int .u16 0, .int .u16 0, .int .i64 0, .int .i64 0, .string ⟨#[]⟩] 52)) m7 2 hl7 (by omega) bx hbx
        with_reducible refine Calls.mono ctr ?_
        clear ctr
        rintro e u ⟨rfl, rfl⟩
        go_simp
        refine hK _ _ (Ext.refl _ _) ?_
        clear hK K
        iterate 2 (refine wpTree_quiet rfl rfl ?_; apply Exists.intro; refine ⟨?_, ?_⟩; (intro W hW; go_simp; try with_reducible rfl); (intro K hK; simp only [Act.put, List.setIfInBounds_toArray, List.set_cons_zero, List.set_cons_succ]; refine hK _ ?_; clear hK K))
        refine wpTree_call rfl rfl (fun K hK => ?_)
        go_simp
        refine hK _ _ RX ?_
        clear hK K
        refine wpTree_end ?_
        go_wp2_with fail
        go_meet
        case rel => exact ⟨_, rfl, ZB, ZX, hgd⟩
    case rest =>
      obtain ⟨g, rfl, B, Y, hgw⟩ := hcut
      generalize wc = v2 at *
      have Z2 := Z0.extN_ Y
      have X2 := X0.transN Y
      clear Z0 X0 Y x1 x5 x7 x12 wv1 wv2 wv3 hid hfr hbx hl1 hl5 hl7 wk1 wk2 wk3
      have cr := rright_calls v2 ⟨ki, id, fr, bx, pl, co, b⟩ (by show b.length ≤ _; simp only [maxLen]; omega)
      unfold rpc at cr
      have b0 : v2.cell? ⟨g, 0, none⟩ = some (.int .i64 (ki : Int)) := B.cell 0
      have b1 : v2.cell? ⟨g, 1, none⟩ = some (.int .u32 (id : Int)) := B.cell 1
      have b2 : v2.cell? ⟨g, 2, none⟩ = some (.int .u16 (fr : Int)) := B.cell 2
      have b3 : v2.cell? ⟨g, 3, none⟩ = some (.int .u16 (bx : Int)) := B.cell 3
      have b4 : v2.cell? ⟨g, 4, none⟩ = some (.int .i64 (pl : Int)) := B.cell 4
      have b5 : v2.cell? ⟨g, 5, none⟩ = some (.int .i64 (co : Int)) := B.cell 5
      have b6 : v2.cell? ⟨g, 6, none⟩ = some (.string (str b)) := B.cell 6
      go_wp2_with fail
      clear b0 b1 b2 b3 b4 b5 b6
      with_reducible refine Calls.mono cr ?_
      clear cr
      rintro e v3 ⟨rfl, x3⟩
      have B3 := B.extN_ x3
      have Z3 := Z2.extN_ x3
      have X3 := X2.transN x3
      clear B Z2 X2 x3
      go_upto_region 6 with (fail)
      generalize prt ⟨ki, id, fr, bx, pl, co, b⟩ = rp at *
      obtain ⟨tl, htl⟩ : ∃ x, l.drop (12 + n) = x := ⟨_, rfl⟩
      rw [htl] at hg
      have xt : (str l).extract (12 + n) 256 = str tl := by rw [str_extract, List.take_of_length_le (by omega), htl]
      have wv5 : IntKind.i64.wrap ((244 - n : Nat) : Int) = ((244 - n : Nat) : Int) := by rw [IntKind.wrap_i64]; omega
      have en : (244 : Int) - (n : Int) = ((244 - n : Nat) : Int) := by omega
      go_cut [52] (fun s wc => s = .bool (!pgood l) ∧ Ext Non v3 wc)
      case first =>
        cases rp
        · rw [Bool.false_and] at hg
          refine wp_region_seq Non ((0, true) :: (1, true) :: (2, true) :: (3, true) :: (4, true) :: (5, true) :: (6, true) :: (7, true) :: (8, true) :: (9, false) :: (10, true) :: (11, true) :: []) (by kernel_rfl) (by kernel_rfl) (by kernel_rfl) ?_
          iterate 3 (refine wpSeq_quiet rfl rfl ?_; apply Exists.intro; refine ⟨?_, ?_⟩; (intro W hW; go_simp; try with_reducible rfl); (intro K hK; simp only [Act.put, List.setIfInBounds_toArray, List.set_cons_zero, List.set_cons_succ]; refine hK _ ?_; clear hK K))
          iterate 6 (refine wpSeq_skip rfl rfl (fun K hK => ?_); simp only [Act.put, List.setIfInBounds_toArray, List.set_cons_zero, List.set_cons_succ]; refine hK _ ?_; clear hK K)
          iterate 1 (refine wpSeq_pass rfl rfl (fun K hK => ?_); simp only [Act.put, List.setIfInBounds_toArray, List.set_cons_zero, List.set_cons_succ]; refine hK _ ?_; clear hK K)
          iterate 1 (refine wpSeq_skip rfl rfl (fun K hK => ?_); simp only [Act.put, List.setIfInBounds_toArray, List.set_cons_zero, List.set_cons_succ]; refine hK _ ?_; clear hK K)
          iterate 1 (refine wpSeq_quiet rfl rfl ?_; apply Exists.intro; refine ⟨?_, ?_⟩; (intro W hW; go_simp; try with_reducible rfl); (intro K hK; simp only [Act.put, List.setIfInBounds_toArray, List.set_cons_zero, List.set_cons_succ]; refine hK _ ?_; clear hK K))
          refine wpSeq_end ?_
          go_wp2_with fail
          go_meet
          case rel => exact ⟨by rw [hg]; rfl, (Ext.refl Non v3).drew⟩
        · rw [Bool.true_and] at hg
          have hg' := hg.symm
          clear hg
          refine wp_region_seq Non ((0, true) :: (1, true) :: (2, true) :: (3, true) :: (4, true) :: (5, true) :: (6, true) :: (7, true) :: (8, true) :: (9, false) :: (10, true) :: (11, true) :: []) (by kernel_rfl) (by kernel_rfl) (by kernel_rfl) ?_
          iterate 9 (refine wpSeq_quiet rfl rfl ?_; apply Exists.intro; refine ⟨?_, ?_⟩; (intro W hW; go_simp; try with_reducible rfl); (intro K hK; simp only [Act.put, List.setIfInBounds_toArray, List.set_cons_zero, List.set_cons_succ]; refine hK _ ?_; clear hK K))
          refine wpSeq_call rfl rfl (fun K hK => ?_)
          go_simp
          have ctr := rzeros_calls v3.drew ((244 - n : Nat) : Int) (by omega)
          with_reducible refine Calls.mono ctr ?_
          clear ctr
          rintro e v4 ⟨rfl, rfl⟩
          go_simp
          refine hK _ _ (Ext.refl _ _) ?_
          clear hK K
          iterate 2 (refine wpSeq_quiet rfl rfl ?_; apply Exists.intro; refine ⟨?_, ?_⟩; (intro W hW; go_simp; try with_reducible rfl); (intro K hK; simp only [Act.put, List.setIfInBounds_toArray, List.set_cons_zero, List.set_cons_succ]; refine hK _ ?_; clear hK K))
          refine wpSeq_end ?_
          go_wp2_with fail
          go_meet
          case rel => exact ⟨rfl, (Ext.refl Non v3).drew⟩
      case rest =>
        obtain ⟨rfl, Y⟩ := hcut
        generalize wc = v5 at *
        have B5 := B3.extN_ Y
        have Z5 := Z3.extN_ Y
        have X5 := X3.transN Y
        clear B3 Z3 X3 Y hg
        cases hpg : pgood l
        · have e1 : pdec l = pc0 := by unfold pdec; rw [hpg]; rfl
          have e2 : pdece l = 3 := by unfold pdece; rw [hpg]; rfl
          have st := Z5.big_store (P := Try.prog) (ty := 52) (cs' := #[.int .i64 0, .int .u32 0, .int .u16 0, .int .u16 0, .int .i64 0, .int .i64 0, .string ⟨#[]⟩]) rfl (by kernel_rfl) (by simp [Value.oneCell'])
          have Z6 := Z5.setRow #[.int .i64 0, .int .u32 0, .int .u16 0, .int .u16 0, .int .i64 0, .int .i64 0, .string ⟨#[]⟩]
          have X6 := X5.setRow (g := w.heap.size) (.inl (Nat.le_refl _)) #[.int .i64 0, .int .u32 0, .int .u16 0, .int .u16 0, .int .i64 0, .int .i64 0, .string ⟨#[]⟩]
          clear Z5 X5 B5
          go_wp2_with fail
          exact bodyPost_ret (Z6.results2 Try.results31 _ _ rfl rfl Try.underlying52 rfl (by kernel_rfl)) rfl ⟨by rw [e1, e2]; rfl, X6⟩
        · have e1 : pdec l = rdpc l := by unfold pdec; rw [hpg]; rfl
          have e2 : pdece l = 0 := by unfold pdece; rw [hpg]; rfl
          have st := Z5.big_store (P := Try.prog) (ty := 52) (cs' := #[.int .i64 (ki : Int), .int .u32 (id : Int), .int .u16 (fr : Int), .int .u16 (bx : Int), .int .i64 (pl : Int), .int .i64 (co : Int), .string (str b)]) rfl (by kernel_rfl) (by simp [Value.oneCell'])
          have Z6 := Z5.setRow #[.int .i64 (ki : Int), .int .u32 (id : Int), .int .u16 (fr : Int), .int .u16 (bx : Int), .int .i64 (pl : Int), .int .i64 (co : Int), .string (str b)]
          have X6 := X5.setRow (g := w.heap.size) (.inl (Nat.le_refl _)) #[.int .i64 (ki : Int), .int .u32 (id : Int), .int .u16 (fr : Int), .int .u16 (bx : Int), .int .i64 (pl : Int), .int .i64 (co : Int), .string (str b)]
          have b0 : v5.cell? ⟨g, 0, none⟩ = some (.int .i64 (ki : Int)) := B5.cell 0
          have b1 : v5.cell? ⟨g, 1, none⟩ = some (.int .u32 (id : Int)) := B5.cell 1
          have b2 : v5.cell? ⟨g, 2, none⟩ = some (.int .u16 (fr : Int)) := B5.cell 2
          have b3 : v5.cell? ⟨g, 3, none⟩ = some (.int .u16 (bx : Int)) := B5.cell 3
          have b4 : v5.cell? ⟨g, 4, none⟩ = some (.int .i64 (pl : Int)) := B5.cell 4
          have b5 : v5.cell? ⟨g, 5, none⟩ = some (.int .i64 (co : Int)) := B5.cell 5
          have b6 : v5.cell? ⟨g, 6, none⟩ = some (.string (str b)) := B5.cell 6
          have HRD := Lib.hid hrd
          clear Z5 X5 B5 hrd
          go_wp2_with fail
          exact bodyPost_ret (Z6.results2 Try.results31 _ _ rfl rfl Try.underlying52 rfl (by kernel_rfl)) rfl ⟨by rw [e1, e2, HRD.out]; rfl, X6⟩
  · have i1 : 244 < (n : Int) := by omega
    have st := Z0.big_store (P := Try.prog) (ty := 52) (cs' := #[.int .i64 0, .int .u32 0, .int .u16 0, .int .u16 0, .int .i64 0, .int .i64 0, .string ⟨#[]⟩]) rfl (by kernel_rfl) (by simp [Value.oneCell'])
    have Z1 := Z0.setRow #[.int .i64 0, .int .u32 0, .int .u16 0, .int .u16 0, .int .i64 0, .int .i64 0, .string ⟨#[]⟩]
    have X1 := X0.setRow (g := w.heap.size) (.inl (Nat.le_refl _)) #[.int .i64 0, .int .u32 0, .int .u16 0, .int .u16 0, .int .i64 0, .int .i64 0, .string ⟨#[]⟩]
    have e1 : pdec l = pc0 := by unfold pdec; rw [pgood_big hn h244]; rfl
    have e2 : pdece l = 3 := by unfold pdece; rw [pgood_big hn h244]; rfl
    clear Z0 X0
    go_wp2_with fail
    exact bodyPost_ret (Z1.results2 Try.results31 _ _ rfl rfl Try.underlying52 rfl (by kernel_rfl)) rfl ⟨by rw [e1, e2]; rfl, X1⟩
end Go.Proofs.Ytcdpmedmhindaaa
