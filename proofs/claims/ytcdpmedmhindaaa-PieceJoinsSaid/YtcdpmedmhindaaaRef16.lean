/- The document's answer for layer 16: Right, Text. -/
import Derived.Test.YtcdpmedmhindaaaRz
import Derived.Test.YtcdpmedmhindaaaPieF
namespace Go.Proofs.Ytcdpmedmhindaaa
open Go.RowKit

theorem prt_iff (p : Pc) : prt p = true ↔ (p.kind = 1 ∧ 1 ≤ p.count ∧ p.count ≤ 17 ∧ 0 ≤ p.place ∧ p.place < p.count ∧ ((p.place = p.count - 1 ∧ p.b.length ≤ 244 ∧ (0 < p.b.length ∨ p.count = 1) ∧ 244 * p.place + p.b.length ≤ 4096) ∨ (p.place ≠ p.count - 1 ∧ p.b.length = 244))) ∨
    (p.kind ≠ 1 ∧ p.place = 0 ∧ p.count = 0 ∧ p.b.length = 0 ∧ (p.kind = 2 ∨ (p.kind = 3 ∧ p.fr = 0 ∧ p.bx = 0))) := by
  unfold prt pfl
  by_cases h1 : p.kind = 1
  · rw [if_pos h1]
    by_cases h2 : p.place = p.count - 1
    · rw [if_pos h2]
      simp only [Bool.and_eq_true, Bool.or_eq_true, decide_eq_true_eq]
      omega
    · rw [if_neg h2]
      simp only [Bool.and_eq_true, decide_eq_true_eq]
      omega
  · rw [if_neg h1]
    simp only [Bool.and_eq_true, Bool.or_eq_true, decide_eq_true_eq]
    omega
set_option maxRecDepth 100000 in
set_option maxHeartbeats 2000000 in
theorem rright_calls (w : World) (p : Pc) (hl : p.b.length ≤ maxLen) :
    Calls Try.prog 28 #[.agg (rpc p)] w fun e w' => e = .returned (.bool (prt p)) ∧ Ext Non w w' := by
  have hpf := prt_iff p
  unfold rpc
  simp only [maxLen] at hl
  have hs : (str p.b).size = p.b.length := str_size _
  have h0 : (str p.b).toList = p.b := str_toList _
  have hz : ∀ W, (binOp .eql 9 (.string (str p.b)) (.string (str []))).run Try.prog W = .ok (.bool (decide (p.b.length = 0))) W := fun W => by
    rw [string_eql]
    show Result.ok _ W = _
    congr 2
    rw [Bool.eq_iff_iff, beq_iff_eq, decide_eq_true_eq, List.length_eq_zero_iff]
  have hse : (str p.b).toList = [] ↔ p.b.length = 0 := by rw [h0, List.length_eq_zero_iff]
  have HSE := Lib.hid hse
  clear h0 hse
  have HP := Lib.hid hpf
  clear hpf
  generalize prt p = r at *
  generalize p.b.length = n at *
  generalize str p.b = sb at *
  generalize p.place = pl at *
  generalize p.count = co at *
  generalize p.kind = ki at *
  generalize p.id = id at *
  generalize p.fr = fr at *
  generalize p.bx = bx at *
  go_enter Try.func28, Try.ntmps28
  go_wp2_with fail
  all_goals go_ret
  all_goals refine ⟨?_, (Ext.refl _ _).alloc _⟩
  all_goals refine congrArg (fun b => Ending.returned (Value.bool b)) ?_
  all_goals rw [Bool.eq_iff_iff, HP.out]
  all_goals have hse := HSE.out
  all_goals try simp only [hse, beq_iff_eq, beq_eq_false_iff_ne, ne_eq, decide_eq_true_eq, Bool.or_eq_true, Bool.and_eq_true, Bool.false_eq_true, false_iff, true_iff] at *
  all_goals try omega
theorem text_x (w : World) (n : Nat) (hn : (n : Int) ≤ 18446744073709551615) (k : Nat) (hk : k ≤ 8) {x y : Int} (hx : x = n) (hy : y = k) :
    Calls Try.prog 51 #[.int .u64 x, .int .i64 y] w fun e w' => e = .returned (.string (str (be k n))) ∧ Ext Non w w' := by
  subst hx hy
  exact text_calls w n hn k hk
set_option maxRecDepth 100000 in
set_option maxHeartbeats 2000000 in
theorem rtext_calls (w : World) (p : Pc) (hp : p.ok) (hr : prt p = true) :
    Calls Try.prog 30 #[.agg (rpc p)] w fun e w' => e = .returned (.string (str (pcb p))) ∧ Ext Non w w' := by
  obtain ⟨⟨k1, k2⟩, ⟨p1, p2⟩, ⟨c1, c2⟩, hb⟩ := prt_facts hr
  obtain ⟨h1, h2, h3⟩ := hp
  clear hr
  obtain ⟨ki, id, fr, bx, pl, co, b⟩ := p
  simp only at k1 k2 p1 p2 c1 c2 hb h1 h2 h3
  obtain ⟨Kd, rfl⟩ : ∃ K : Nat, ki = K := ⟨ki.toNat, by omega⟩
  obtain ⟨L, rfl⟩ : ∃ K : Nat, pl = K := ⟨pl.toNat, by omega⟩
  obtain ⟨C, rfl⟩ : ∃ K : Nat, co = K := ⟨co.toNat, by omega⟩
  obtain ⟨n, hn⟩ : ∃ n, b.length = n := ⟨_, rfl⟩
  rw [hn] at hb
  have hs : (str b).size = n := by rw [str_size, hn]
  obtain ⟨L1, g1⟩ : ∃ l, be 1 Kd ++ be 4 id = l := ⟨_, rfl⟩
  obtain ⟨L2, g2⟩ : ∃ l, L1 ++ be 2 fr = l := ⟨_, rfl⟩
  obtain ⟨L3, g3⟩ : ∃ l, L2 ++ be 2 bx = l := ⟨_, rfl⟩
  obtain ⟨L4, g4⟩ : ∃ l, L3 ++ be 1 L = l := ⟨_, rfl⟩
  obtain ⟨L5, g5⟩ : ∃ l, L4 ++ be 1 C = l := ⟨_, rfl⟩
  obtain ⟨L6, g6⟩ : ∃ l, L5 ++ be 1 n = l := ⟨_, rfl⟩
  obtain ⟨L7, g7⟩ : ∃ l, L6 ++ b = l := ⟨_, rfl⟩
  obtain ⟨L8, g8⟩ : ∃ l, L7 ++ zeros (244 - n) = l := ⟨_, rfl⟩
  have hfin : pcb ⟨Kd, id, fr, bx, L, C, b⟩ = L8 := by rw [← g8, ← g7, ← g6, ← g5, ← g4, ← g3, ← g2, ← g1, ← hn]; rfl
  have n1 : L1.length = 5 := by rw [← g1]; simp [be_length]
  have n2 : L2.length = 7 := by rw [← g2]; simp [n1, be_length]
  have n3 : L3.length = 9 := by rw [← g3]; simp [n2, be_length]
  have n4 : L4.length = 10 := by rw [← g4]; simp [n3, be_length]
  have n5 : L5.length = 11 := by rw [← g5]; simp [n4, be_length]
  have n6 : L6.length = 12 := by rw [← g6]; simp [n5, be_length]
  have n7 : L7.length = 12 + n := by rw [← g7]; simp [n6, hn]
  obtain ⟨a1, a2, a3, a4, a5⟩ := sum_facts g1 1 4 (be_length _ _) (be_length _ _) (by omega)
  obtain ⟨b1, b2, b3, b4, b5⟩ := sum_facts g2 5 2 n1 (be_length _ _) (by omega)
  obtain ⟨d1, d2, d3, d4, d5⟩ := sum_facts g3 7 2 n2 (be_length _ _) (by omega)
  obtain ⟨e1, e2, e3, e4, e5⟩ := sum_facts g4 9 1 n3 (be_length _ _) (by omega)
  obtain ⟨f1, f2, f3, f4, f5⟩ := sum_facts g5 10 1 n4 (be_length _ _) (by omega)
  obtain ⟨i1, i2, i3, i4, i5⟩ := sum_facts g6 11 1 n5 (be_length _ _) (by omega)
  obtain ⟨j1, j2, j3, j4, j5⟩ := sum_facts g7 12 n n6 hn (by omega)
  obtain ⟨l1, l2, l3, l4, l5⟩ := sum_facts g8 (12 + n) (244 - n) n7 (zeros_length _) (by omega)
  have wv1 : IntKind.u64.wrap (Kd : Int) = (Kd : Int) := by rw [IntKind.wrap_u64]; omega
  have wv2 : IntKind.u64.wrap (id : Int) = (id : Int) := by rw [IntKind.wrap_u64]; omega
  have wv3 : IntKind.u64.wrap (fr : Int) = (fr : Int) := by rw [IntKind.wrap_u64]; omega
  have wv4 : IntKind.u64.wrap (bx : Int) = (bx : Int) := by rw [IntKind.wrap_u64]; omega
  have wv5 : IntKind.u64.wrap (L : Int) = (L : Int) := by rw [IntKind.wrap_u64]; omega
  have wv6 : IntKind.u64.wrap (C : Int) = (C : Int) := by rw [IntKind.wrap_u64]; omega
  have wv7 : IntKind.u64.wrap (n : Int) = (n : Int) := by rw [IntKind.wrap_u64]; omega
  have HF := Lib.hid hfin
  clear g1 g2 g3 g4 g5 g6 g7 g8 n1 n2 n3 n4 n5 n6 hfin
  unfold rpc
  simp only
  have B0 := Blk.new w 52 #[.int .i64 Kd, .int .u32 id, .int .u16 fr, .int .u16 bx, .int .i64 L, .int .i64 C, .string (str b)]
  have X0 : Ext Non w (w.alloc (.cells #[.int .i64 Kd, .int .u32 id, .int .u16 fr, .int .u16 bx, .int .i64 L, .int .i64 C, .string (str b)] 52)) := (Ext.refl Non w).alloc _
  go_enter Try.func30, Try.ntmps30
  go_upto_region 1 with (fail)
  generalize w.alloc (.cells #[.int .i64 Kd, .int .u32 id, .int .u16 fr, .int .u16 bx, .int .i64 L, .int .i64 C, .string (str b)] 52) = v at *
  have c0 : ∀ W, Ext Non v W → W.cell? ⟨w.heap.size, 0, none⟩ = some (.int .i64 Kd) := fun W x => (B0.extN_ x).cell 0
  have c1 : ∀ W, Ext Non v W → W.cell? ⟨w.heap.size, 1, none⟩ = some (.int .u32 id) := fun W x => (B0.extN_ x).cell 1
  have c2 : ∀ W, Ext Non v W → W.cell? ⟨w.heap.size, 2, none⟩ = some (.int .u16 fr) := fun W x => (B0.extN_ x).cell 2
  have c3 : ∀ W, Ext Non v W → W.cell? ⟨w.heap.size, 3, none⟩ = some (.int .u16 bx) := fun W x => (B0.extN_ x).cell 3
  have c4 : ∀ W, Ext Non v W → W.cell? ⟨w.heap.size, 4, none⟩ = some (.int .i64 L) := fun W x => (B0.extN_ x).cell 4
  have c5 : ∀ W, Ext Non v W → W.cell? ⟨w.heap.size, 5, none⟩ = some (.int .i64 C) := fun W x => (B0.extN_ x).cell 5
  have c6 : ∀ W, Ext Non v W → W.cell? ⟨w.heap.size, 6, none⟩ = some (.string (str b)) := fun W x => (B0.extN_ x).cell 6
  refine wp_region_seq Non ((0, true) :: (1, true) :: (2, true) :: (4, true) :: (5, true) :: (6, true) :: (9, true) :: (10, true) :: (11, true) :: (14, true) :: (15, true) :: (16, true) :: (3, false) :: (7, false) :: (8, true) :: (12, false) :: (13, true) :: (17, false) :: (18, true) :: (19, true) :: []) (by kernel_rfl) (by kernel_rfl) (by kernel_rfl) ?_
  iterate 12 (refine wpSeq_quiet rfl rfl ?_; apply Exists.intro; refine ⟨?_, ?_⟩; (intro W hW; have u0 := c0 W hW.drewL; have u1 := c1 W hW.drewL; have u2 := c2 W hW.drewL; have u3 := c3 W hW.drewL; go_simp; try with_reducible rfl); (intro K hK; simp only [Act.put, List.setIfInBounds_toArray, List.set_cons_zero, List.set_cons_succ]; refine hK _ ?_; clear hK K))
  refine wpSeq_call rfl rfl (fun K hK => ?_)
  go_simp
  have ctr := text_x v.drew Kd (by omega) 1 (by omega) rfl rfl
  with_reducible refine Calls.mono ctr ?_
  clear ctr
  rintro e w1 ⟨rfl, x1⟩
  go_simp
  refine hK _ _ x1 ?_
  clear hK K
  refine wpSeq_call rfl rfl (fun K hK => ?_)
  go_simp
  have ctr := text_x w1 id (by omega) 4 (by omega) rfl rfl
  with_reducible refine Calls.mono ctr ?_
  clear ctr
  rintro e w2 ⟨rfl, x2⟩
  go_simp
  refine hK _ _ x2 ?_
  clear hK K
  iterate 1 (refine wpSeq_quiet rfl rfl ?_; apply Exists.intro; refine ⟨?_, ?_⟩; (intro W hW; go_simp; try with_reducible rfl); (intro K hK; simp only [Act.put, List.setIfInBounds_toArray, List.set_cons_zero, List.set_cons_succ]; refine hK _ ?_; clear hK K))
  refine wpSeq_call rfl rfl (fun K hK => ?_)
  go_simp
  have ctr := text_x w2 fr (by omega) 2 (by omega) rfl rfl
  with_reducible refine Calls.mono ctr ?_
  clear ctr
  rintro e w3 ⟨rfl, x3⟩
  go_simp
  refine hK _ _ x3 ?_
  clear hK K
  iterate 1 (refine wpSeq_quiet rfl rfl ?_; apply Exists.intro; refine ⟨?_, ?_⟩; (intro W hW; go_simp; try with_reducible rfl); (intro K hK; simp only [Act.put, List.setIfInBounds_toArray, List.set_cons_zero, List.set_cons_succ]; refine hK _ ?_; clear hK K))
  refine wpSeq_call rfl rfl (fun K hK => ?_)
  go_simp
  have ctr := text_x w3 bx (by omega) 2 (by omega) rfl rfl
  with_reducible refine Calls.mono ctr ?_
  clear ctr
  rintro e w4 ⟨rfl, x4⟩
  go_simp
  refine hK _ _ x4 ?_
  clear hK K
  iterate 2 (refine wpSeq_quiet rfl rfl ?_; apply Exists.intro; refine ⟨?_, ?_⟩; (intro W hW; go_simp; try with_reducible rfl); (intro K hK; simp only [Act.put, List.setIfInBounds_toArray, List.set_cons_zero, List.set_cons_succ]; refine hK _ ?_; clear hK K))
  refine wpSeq_end ?_
  have Y := (((Ext.refl Non v).drew.transN x1).transN x2).transN (x3.transN x4)
  clear x1 x2 x3 x4
  go_upto_region 2 with (fail)
  refine wp_region_seq Non ((0, true) :: (1, true) :: (2, true) :: (3, true) :: (6, true) :: (7, true) :: (8, true) :: (11, true) :: (12, true) :: (13, true) :: (14, true) :: (17, true) :: (18, true) :: (4, false) :: (5, true) :: (9, false) :: (10, true) :: (15, false) :: (16, true) :: (19, true) :: (20, true) :: []) (by kernel_rfl) (by kernel_rfl) (by kernel_rfl) ?_
  iterate 13 (refine wpSeq_quiet rfl rfl ?_; apply Exists.intro; refine ⟨?_, ?_⟩; (intro W hW; have u4 := c4 W (Y.transN hW.drewL); have u5 := c5 W (Y.transN hW.drewL); have u6 := c6 W (Y.transN hW.drewL); go_simp; try with_reducible rfl); (intro K hK; simp only [Act.put, List.setIfInBounds_toArray, List.set_cons_zero, List.set_cons_succ]; refine hK _ ?_; clear hK K))
  refine wpSeq_call rfl rfl (fun K hK => ?_)
  go_simp
  have ctr := text_x w4.drew L (by omega) 1 (by omega) rfl rfl
  with_reducible refine Calls.mono ctr ?_
  clear ctr
  rintro e w5 ⟨rfl, x5⟩
  go_simp
  refine hK _ _ x5 ?_
  clear hK K
  iterate 1 (refine wpSeq_quiet rfl rfl ?_; apply Exists.intro; refine ⟨?_, ?_⟩; (intro W hW; go_simp; try with_reducible rfl); (intro K hK; simp only [Act.put, List.setIfInBounds_toArray, List.set_cons_zero, List.set_cons_succ]; refine hK _ ?_; clear hK K))
  refine wpSeq_call rfl rfl (fun K hK => ?_)
  go_simp
  have ctr := text_x w5 C (by omega) 1 (by omega) rfl rfl
  with_reducible refine Calls.mono ctr ?_
  clear ctr
  rintro e w6 ⟨rfl, x6⟩
  go_simp
  refine hK _ _ x6 ?_
  clear hK K
  iterate 1 (refine wpSeq_quiet rfl rfl ?_; apply Exists.intro; refine ⟨?_, ?_⟩; (intro W hW; go_simp; try with_reducible rfl); (intro K hK; simp only [Act.put, List.setIfInBounds_toArray, List.set_cons_zero, List.set_cons_succ]; refine hK _ ?_; clear hK K))
  refine wpSeq_call rfl rfl (fun K hK => ?_)
  go_simp
  have ctr := text_x w6 n (by omega) 1 (by omega) rfl rfl
  with_reducible refine Calls.mono ctr ?_
  clear ctr
  rintro e w7 ⟨rfl, x7⟩
  go_simp
  refine hK _ _ x7 ?_
  clear hK K
  iterate 3 (refine wpSeq_quiet rfl rfl ?_; apply Exists.intro; refine ⟨?_, ?_⟩; (intro W hW; go_simp; try with_reducible rfl); (intro K hK; simp only [Act.put, List.setIfInBounds_toArray, List.set_cons_zero, List.set_cons_succ]; refine hK _ ?_; clear hK K))
  refine wpSeq_end ?_
  have X7 := X0.transN (((Y.drew.transN x5).transN x6).transN x7)
  clear Y x5 x6 x7 c0 c1 c2 c3 c4 c5 c6 B0 X0
  go_upto_region 3 with (fail)
  have hs7 : (str L7).size = 12 + n := by rw [str_size, n7]
  have en : (256 : Int) - (12 + (n : Int)) = ((244 - n : Nat) : Int) := by omega
  go_wp2_with fail
  have ctr := rzeros_calls w7 ((244 - n : Nat) : Int) (by omega)
  with_reducible refine Calls.mono ctr ?_
  clear ctr
  rintro e w8 ⟨rfl, rfl⟩
  rw [Int.toNat_natCast]
  go_wp2_with fail
  go_ret
  exact ⟨by rw [HF.out]; rfl, X7⟩
end Go.Proofs.Ytcdpmedmhindaaa
