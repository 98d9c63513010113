/- Layer 6: the laws' walks, for any numbers. -/
import Derived.Test.YthdahfogjdpefaaDelay2
import Derived.Test.YthdahfogjdpefaaSeq
import Derived.Test.YthdahfogjdpefaaBit
import Derived.Test.YthdahfogjdpefaaDelayA
namespace Go.Proofs.Ythdahfogjdpefaa
open Go.RowKit

/-! ### Word -/
theorem or_low (i c : Nat) (h : c < 72057594037927936) : i * 72057594037927936 ||| c = i * 72057594037927936 + c := or_add i c 56 h
theorem drawv_top (a b m p : Nat) (h : a / 72057594037927936 = b / 72057594037927936) : drawv a m p = drawv b m p := by unfold drawv; rw [h]
theorem drawv_one (a : Nat) : drawv a 65536 4294967295 = atv (a / 72057594037927936) := by
  have := atv_le (a / 72057594037927936)
  unfold drawv
  omega
theorem drawv_mean0 (a p : Nat) : drawv a 0 p = 0 := by unfold drawv; simp
theorem drawv_most0 (a m : Nat) : drawv a m 0 = 0 := by unfold drawv; simp

set_option maxRecDepth 100000 in
set_option maxHeartbeats 1000000 in
theorem word_walk (word other mean most : Nat) (h0 : word < 18446744073709551616) (h1 : other < 18446744073709551616) (h2 : mean < 4294967296) (h3 : most < 4294967296) (w : World) :
    Calls Try.prog 6 #[.int .u64 word, .int .u64 other, .int .u32 mean, .int .u32 most] w fun e w' => e = .returned (.bool true) ∧ Below w.heap.size w w' := by
  have hn0 := row_ne (tabk_size 0)
  have D1 := drawv_one word
  obtain ⟨i, hi⟩ : ∃ i, word / 72057594037927936 = i := ⟨_, rfl⟩
  have hi' : i ≤ 255 := by omega
  have hi2 : (i : Int) < 256 := by omega
  have e1 : (word : Int) / 72057594037927936 = (i : Int) := by omega
  obtain ⟨u, hu⟩ : ∃ u, i * 72057594037927936 = u := ⟨_, rfl⟩
  have e2 : (i : Int) * 72057594037927936 = (u : Int) := by omega
  have hu' : u < 18446744073709551616 := by omega
  obtain ⟨c0, hc0⟩ : ∃ c, other * 256 % 18446744073709551616 = c := ⟨_, rfl⟩
  have e3 : IntKind.u64.wrap ((other : Int) * 256) = (c0 : Int) := by rw [IntKind.wrap_u64]; omega
  obtain ⟨c, hc⟩ : ∃ c, c0 / 256 = c := ⟨_, rfl⟩
  have e4 : (c0 : Int) / 256 = (c : Int) := by omega
  have hc' : c < 72057594037927936 := by omega
  obtain ⟨s, hs⟩ : ∃ s, u + c = s := ⟨_, rfl⟩
  have hs' : s < 18446744073709551616 := by omega
  have e5 : bits .or .u64 (u : Int) (c : Int) = (s : Int) := by
    have e := or_low i c hc'
    rw [hu, hs] at e
    rw [bits_or_nat .u64 wrapn_u64 u c (lt64 hu') (lt64 (by omega)), e]
  have hsi : s / 72057594037927936 = word / 72057594037927936 := by omega
  have D2 := drawv_top s word mean most hsi
  have D3 := drawv_mean0 word most
  have D4 := drawv_most0 word mean
  rw [hi] at D1
  have HD1 := Lib.hid D1
  have HD2 := Lib.hid D2
  have HD3 := Lib.hid D3
  have HD4 := Lib.hid D4
  clear D1 D2 D3 D4 hi hu hc0 hc hs hsi hc' hu'
  go_enter Try.func6, Try.ntmps6
  go_wp2_with fail
  have ctr := shown_calls w
  with_reducible refine Calls.mono ctr ?_
  clear ctr
  rintro e w1 ⟨rfl, x1⟩
  go_wp2_with fail
  have ctr := table_calls w1
  with_reducible refine Calls.mono ctr ?_
  clear ctr
  rintro e w2 ⟨rfl, x2⟩
  have b2 := Blk.new w2 25 tab
  have y2 : Ext Non w (w2.alloc (.cells tab 25)) := (x1.transN x2).alloc _
  go_wp2_with fail
  refine wp_region_seq Non [(0, true), (1, true), (2, true), (3, true), (4, true), (6, true), (7, true), (8, true), (5, false), (9, false), (10, true), (11, true), (12, true), (13, true), (15, true), (16, true), (17, true), (18, true), (14, false), (19, true), (20, true), (21, true), (22, true), (23, true), (24, false), (25, true), (26, true), (27, true), (28, true), (29, true), (30, false), (31, true), (32, true), (33, true)] (by kernel_rfl) (by kernel_rfl) (by kernel_rfl) ?_
  iterate 8 (refine wpSeq_quiet rfl rfl ?_; apply Exists.intro; refine ⟨?_, ?_⟩; (intro W hW; go_simp; try with_reducible rfl); (intro K hK; simp only [Act.put, List.setIfInBounds_toArray, List.set_cons_zero, List.set_cons_succ]; refine hK _ ?_; clear hK K))
  refine wpSeq_call rfl rfl (fun K hK => ?_)
  go_simp
  have ctr := draw_calls (w2.alloc (.cells tab 25)).drew word mean most h0 h2 h3
  with_reducible refine Calls.mono ctr ?_
  clear ctr
  rintro e w3 ⟨rfl, x3⟩
  go_simp
  refine hK _ _ x3 ?_
  clear hK K
  refine wpSeq_call rfl rfl (fun K hK => ?_)
  go_simp
  have ctr := draw_at w3 (s : Int) (mean : Int) (most : Int) s mean most rfl rfl rfl hs' h2 h3 _ HD2.out
  with_reducible refine Calls.mono ctr ?_
  clear ctr
  rintro e w4 ⟨rfl, x4⟩
  go_simp
  refine hK _ _ x4 ?_
  clear hK K
  have c4 : ∀ W, Ext Non w4 W → W.cell? ⟨w2.heap.size, i, none⟩ = some (.int .u32 (atv i : Nat)) := fun W hW => tab_at (((b2.drew.extN_ x3).extN_ x4).extN_ hW) (by omega) rfl
  iterate 8 (refine wpSeq_quiet rfl rfl ?_; apply Exists.intro; refine ⟨?_, ?_⟩; (intro W hW; have cc := c4 W hW; go_simp; try with_reducible rfl); (intro K hK; simp only [Act.put, List.setIfInBounds_toArray, List.set_cons_zero, List.set_cons_succ]; refine hK _ ?_; clear hK K))
  refine wpSeq_call rfl rfl (fun K hK => ?_)
  go_simp
  have ctr := draw_at w4 (word : Int) 65536 4294967295 word 65536 4294967295 rfl rfl rfl h0 (by decide) (by decide) _ HD1.out
  with_reducible refine Calls.mono ctr ?_
  clear ctr
  rintro e w5 ⟨rfl, x5⟩
  go_simp
  refine hK _ _ x5 ?_
  clear hK K
  iterate 5 (refine wpSeq_quiet rfl rfl ?_; apply Exists.intro; refine ⟨?_, ?_⟩; (intro W hW; go_simp; try with_reducible rfl); (intro K hK; simp only [Act.put, List.setIfInBounds_toArray, List.set_cons_zero, List.set_cons_succ]; refine hK _ ?_; clear hK K))
  refine wpSeq_call rfl rfl (fun K hK => ?_)
  go_simp
  have ctr := draw_at w5 (word : Int) 0 (most : Int) word 0 most rfl rfl rfl h0 (by decide) h3 0 HD3.out
  with_reducible refine Calls.mono ctr ?_
  clear ctr
  rintro e w6 ⟨rfl, x6⟩
  go_simp
  refine hK _ _ x6 ?_
  clear hK K
  iterate 5 (refine wpSeq_quiet rfl rfl ?_; apply Exists.intro; refine ⟨?_, ?_⟩; (intro W hW; go_simp; try with_reducible rfl); (intro K hK; simp only [Act.put, List.setIfInBounds_toArray, List.set_cons_zero, List.set_cons_succ]; refine hK _ ?_; clear hK K))
  refine wpSeq_call rfl rfl (fun K hK => ?_)
  go_simp
  have ctr := draw_at w6 (word : Int) (mean : Int) 0 word mean 0 rfl rfl rfl h0 h2 (by decide) 0 HD4.out
  with_reducible refine Calls.mono ctr ?_
  clear ctr
  rintro e w7 ⟨rfl, x7⟩
  go_simp
  refine hK _ _ x7 ?_
  clear hK K
  iterate 3 (refine wpSeq_quiet rfl rfl ?_; apply Exists.intro; refine ⟨?_, ?_⟩; (intro W hW; go_simp; try with_reducible rfl); (intro K hK; simp only [Act.put, List.setIfInBounds_toArray, List.set_cons_zero, List.set_cons_succ]; refine hK _ ?_; clear hK K))
  refine wpSeq_end ?_
  go_wp2
  go_ret
  exact ⟨rfl, (((((y2.drew.transN x3).transN x4).transN x5).transN x6).transN x7).belowN⟩
end Go.Proofs.Ythdahfogjdpefaa
