/- Layer 6: the laws' walks, for any numbers. -/
import Derived.Test.YthdahfogjdpefaaDelay2
import Derived.Test.YthdahfogjdpefaaSeq
import Derived.Test.YthdahfogjdpefaaBit
namespace Go.Proofs.Ythdahfogjdpefaa
open Go.RowKit

theorem and255 (n : Nat) (h : n < 18446744073709551616) : bits .and .u64 (n : Int) 255 = ((n % 256 : Nat) : Int) := by
  have e : n &&& 255 = n % 256 := Nat.and_two_pow_sub_one_eq_mod n 8
  have := bits_and_nat .u64 wrapn_u64 n 255 (lt64 h) (by decide)
  rw [e] at this
  exact this
theorem and31b (n : Nat) (h : n < 4294967296) : bits .and .u32 (n : Int) 2147483647 = ((n % 2147483648 : Nat) : Int) := by
  have e : n &&& 2147483647 = n % 2147483648 := Nat.and_two_pow_sub_one_eq_mod n 31
  have := bits_and_nat .u32 wrapn_u32 n 2147483647 (lt32 h) (by decide)
  rw [e] at this
  exact this
theorem and30b (n : Nat) (h : n < 4294967296) : bits .and .u32 (n : Int) 1073741823 = ((n % 1073741824 : Nat) : Int) := by
  have e : n &&& 1073741823 = n % 1073741824 := Nat.and_two_pow_sub_one_eq_mod n 30
  have := bits_and_nat .u32 wrapn_u32 n 1073741823 (lt32 h) (by decide)
  rw [e] at this
  exact this
theorem and31c (n : Nat) (h : n < 256) : bits .and .u8 (n : Int) 31 = ((n % 32 : Nat) : Int) := by
  have e : n &&& 31 = n % 32 := Nat.and_two_pow_sub_one_eq_mod n 5
  have := bits_and_nat .u8 wrapn_u8 n 31 (lt8 h) (by decide)
  rw [e] at this
  exact this

set_option maxRecDepth 10000 in
set_option maxHeartbeats 1000000 in
theorem tells_walk (n word mean most : Nat) (h0 : n < 4294967296) (h1 : word < 18446744073709551616) (h2 : mean < 4294967296) (h3 : most < 4294967296) (w : World) :
    Calls Try.prog 3 #[.int .u32 n, .int .u64 word, .int .u32 mean, .int .u32 most] w fun e w' => e = .returned (.bool true) ∧ Below w.heap.size w w' := by
  have a1 := and255 word h1
  obtain ⟨i, hi⟩ : ∃ i, word % 256 = i := ⟨_, rfl⟩
  have hi' : i ≤ 255 := by omega
  rw [hi] at a1
  clear hi
  have hi2 : (i : Int) < 256 := by omega
  have hn0 := row_ne (tabk_size 0)
  go_enter Try.func3, Try.ntmps3
  go_wp2_with fail
  have ctr := shown_calls w
  with_reducible refine Calls.mono ctr ?_
  clear ctr
  rintro e w1 ⟨rfl, x1⟩
  go_wp2_with fail
  have ctr := table_calls w1
  with_reducible refine Calls.mono ctr ?_
  clear ctr
  rintro e w2 ⟨rfl, x2⟩
  have b2 := Blk.new w2 25 tab
  have y2 : Ext Non w (w2.alloc (.cells tab 25)) := (x1.transN x2).alloc _
  go_wp2_with fail
  refine wp_region_seq Non [(0, true), (1, true), (2, true), (4, true), (3, false), (5, false), (6, true), (7, true), (8, true), (9, true), (10, true), (11, true), (12, true), (13, false), (14, true), (15, true), (16, true), (17, true), (18, true), (19, true), (21, true), (22, true), (23, true), (20, false), (24, false), (25, true), (26, true), (27, true)] (by kernel_rfl) (by kernel_rfl) (by kernel_rfl) ?_
  iterate 4 (refine wpSeq_quiet rfl rfl ?_; apply Exists.intro; refine ⟨?_, ?_⟩; (intro W hW; go_simp; try with_reducible rfl); (intro K hK; simp only [Act.put, List.setIfInBounds_toArray, List.set_cons_zero, List.set_cons_succ]; refine hK _ ?_; clear hK K))
  refine wpSeq_call rfl rfl (fun K hK => ?_)
  go_simp
  have ctr := log2_calls (w2.alloc (.cells tab 25)).drew n h0
  with_reducible refine Calls.mono ctr ?_
  clear ctr
  rintro e w3 ⟨rfl, x3⟩
  go_simp
  refine hK _ _ x3 ?_
  clear hK K
  refine wpSeq_call rfl rfl (fun K hK => ?_)
  go_simp
  have ctr := rlog2_calls w3 n h0
  with_reducible refine Calls.mono ctr ?_
  clear ctr
  rintro e w4 ⟨rfl, rfl⟩
  go_simp
  refine hK _ _ (Ext.refl _ _) ?_
  clear hK K
  have c3 : ∀ W, Ext Non w3 W → W.cell? ⟨w2.heap.size, i, none⟩ = some (.int .u32 (atv i : Nat)) := fun W hW => tab_at ((b2.drew.extN_ x3).extN_ hW) (by omega) rfl
  iterate 7 (refine wpSeq_quiet rfl rfl ?_; apply Exists.intro; refine ⟨?_, ?_⟩; (intro W hW; have cc := c3 W hW; go_simp; try with_reducible rfl); (intro K hK; simp only [Act.put, List.setIfInBounds_toArray, List.set_cons_zero, List.set_cons_succ]; refine hK _ ?_; clear hK K))
  refine wpSeq_call rfl rfl (fun K hK => ?_)
  go_simp
  have ctr := rat_calls w3 i hi'
  with_reducible refine Calls.mono ctr ?_
  clear ctr
  rintro e w4 ⟨rfl, rfl⟩
  go_simp
  refine hK _ _ (Ext.refl _ _) ?_
  clear hK K
  iterate 9 (refine wpSeq_quiet rfl rfl ?_; apply Exists.intro; refine ⟨?_, ?_⟩; (intro W hW; go_simp; try with_reducible rfl); (intro K hK; simp only [Act.put, List.setIfInBounds_toArray, List.set_cons_zero, List.set_cons_succ]; refine hK _ ?_; clear hK K))
  refine wpSeq_call rfl rfl (fun K hK => ?_)
  go_simp
  have ctr := draw_calls w3 word mean most h1 h2 h3
  with_reducible refine Calls.mono ctr ?_
  clear ctr
  rintro e w5 ⟨rfl, x5⟩
  go_simp
  refine hK _ _ x5 ?_
  clear hK K
  refine wpSeq_call rfl rfl (fun K hK => ?_)
  go_simp
  have ctr := rdraw_calls w5 word mean most h1 h2 h3
  with_reducible refine Calls.mono ctr ?_
  clear ctr
  rintro e w6 ⟨rfl, rfl⟩
  go_simp
  refine hK _ _ (Ext.refl _ _) ?_
  clear hK K
  iterate 3 (refine wpSeq_quiet rfl rfl ?_; apply Exists.intro; refine ⟨?_, ?_⟩; (intro W hW; go_simp; try with_reducible rfl); (intro K hK; simp only [Act.put, List.setIfInBounds_toArray, List.set_cons_zero, List.set_cons_succ]; refine hK _ ?_; clear hK K))
  refine wpSeq_end ?_
  go_wp2
  go_ret
  exact ⟨rfl, ((y2.drew.transN x3).transN x5).belowN⟩

end Go.Proofs.Ythdahfogjdpefaa
