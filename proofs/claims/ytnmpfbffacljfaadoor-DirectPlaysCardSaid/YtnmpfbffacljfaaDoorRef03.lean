/- The document's answer for the sum: its small functions. -/
import Derived.Test.YtnmpfbffacljfaaDoorShaG
import Derived.Test.YtnmpfbffacljfaaDoorSeq
namespace Go.Proofs.YtnmpfbffacljfaaDoor
open Go.RowKit

theorem rotr_sum (x : UInt32) (k : Nat) (h1 : 1 ≤ k) (h2 : k ≤ 31) : un (rotr x k) = un x / 2 ^ k + un x % 2 ^ k * 2 ^ (32 - k) := by
  have hx := un_lt x
  have e3 : un (x <<< UInt32.ofNat (32 - k)) = un x % 2 ^ k * 2 ^ (32 - k) := by
    unfold un
    rw [UInt32.toNat_shiftLeft, Nat.shiftLeft_eq]
    have : (UInt32.ofNat (32 - k)).toNat % 32 = 32 - k := by rw [UInt32.toNat_ofNat']; omega
    rw [this]
    have : 2 ^ 32 = 2 ^ k * 2 ^ (32 - k) := by rw [← Nat.pow_add]; congr 1; omega
    rw [this, Nat.mul_mod_mul_right]
  have e4 : un (x >>> UInt32.ofNat k) = un x / 2 ^ k := by
    unfold un
    rw [UInt32.toNat_shiftRight, Nat.shiftRight_eq_div_pow]
    have : (UInt32.ofNat k).toNat % 32 = k := by rw [UInt32.toNat_ofNat']; omega
    rw [this]
  have hlt : un x / 2 ^ k < 2 ^ (32 - k) := by
    rw [Nat.div_lt_iff_lt_mul (Nat.two_pow_pos k), ← Nat.pow_add, show 32 - k + k = 32 from by omega]
    exact hx
  have := or_add (un x % 2 ^ k) (un x / 2 ^ k) (32 - k) hlt
  unfold rotr
  show (x <<< UInt32.ofNat (32 - k) ||| x >>> UInt32.ofNat k).toNat = _
  rw [UInt32.toNat_or]
  show un (x <<< UInt32.ofNat (32 - k)) ||| un (x >>> UInt32.ofNat k) = _
  rw [e3, e4, this, Nat.add_comm]
theorem turn2_calls (w : World) (x : UInt32) :
    Calls Tryd.prog 62 #[.int .u32 (un x : Int), .int .i64 2] w fun e w' => e = .returned (.int .u32 (un (rotr x 2) : Int)) ∧ Ext Non w w' := by
  have hx := un_lt x
  have hr : un (rotr x 2) = un x / 4 + un x % 4 * 1073741824 := rotr_sum x 2 (by decide) (by decide)
  have hR := un_lt (rotr x 2)
  have HR := Lib.hid hr
  clear hr
  go_enter Tryd.func62, Tryd.ntmps62
  go_wp2_with fail
  refine wp_region_seq Non ((0, true) :: (1, true) :: (2, true) :: (3, true) :: (4, true) :: (5, true) :: (6, true) :: (7, true) :: (8, true) :: (9, true) :: (10, true) :: []) (by kernel_rfl) (by kernel_rfl) (by kernel_rfl) ?_
  have hr := HR.out
  have q0 : IntKind.u32.wrap 4 = 4 := by decide
  have q1 : IntKind.u32.wrap 1073741824 = 1073741824 := by decide
  have q3 : IntKind.i64.wrap 30 = 30 := by decide
  have q2 : IntKind.u32.wrap ((un x : Int) / 4) = (un x : Int) / 4 := by rw [IntKind.wrap_u32]; omega
  have e1 : IntKind.u32.wrap ((un x : Int) % 4 * 1073741824) = (un x : Int) % 4 * 1073741824 := by rw [IntKind.wrap_u32]; omega
  have e2 : IntKind.u32.wrap ((un x : Int) / 4 + (un x : Int) % 4 * 1073741824) = (un (rotr x 2) : Int) := by rw [IntKind.wrap_u32]; omega
  clear hr hR
  iterate 11 (refine wpSeq_quiet rfl rfl ?_; apply Exists.intro; refine ⟨?_, ?_⟩; (intro W hW; go_simp; try with_reducible rfl); (intro K hK; simp only [Act.put, List.setIfInBounds_toArray, List.set_cons_zero, List.set_cons_succ]; refine hK _ ?_; clear hK K))
  refine wpSeq_end ?_
  go_wp2
  go_ret
  exact ⟨rfl, (Ext.refl _ _).drew⟩
theorem turn6_calls (w : World) (x : UInt32) :
    Calls Tryd.prog 62 #[.int .u32 (un x : Int), .int .i64 6] w fun e w' => e = .returned (.int .u32 (un (rotr x 6) : Int)) ∧ Ext Non w w' := by
  have hx := un_lt x
  have hr : un (rotr x 6) = un x / 64 + un x % 64 * 67108864 := rotr_sum x 6 (by decide) (by decide)
  have hR := un_lt (rotr x 6)
  have HR := Lib.hid hr
  clear hr
  go_enter Tryd.func62, Tryd.ntmps62
  go_wp2_with fail
  refine wp_region_seq Non ((0, true) :: (1, true) :: (2, true) :: (3, true) :: (4, true) :: (5, true) :: (6, true) :: (7, true) :: (8, true) :: (9, true) :: (10, true) :: []) (by kernel_rfl) (by kernel_rfl) (by kernel_rfl) ?_
  have hr := HR.out
  have q0 : IntKind.u32.wrap 64 = 64 := by decide
  have q1 : IntKind.u32.wrap 67108864 = 67108864 := by decide
  have q3 : IntKind.i64.wrap 26 = 26 := by decide
  have q2 : IntKind.u32.wrap ((un x : Int) / 64) = (un x : Int) / 64 := by rw [IntKind.wrap_u32]; omega
  have e1 : IntKind.u32.wrap ((un x : Int) % 64 * 67108864) = (un x : Int) % 64 * 67108864 := by rw [IntKind.wrap_u32]; omega
  have e2 : IntKind.u32.wrap ((un x : Int) / 64 + (un x : Int) % 64 * 67108864) = (un (rotr x 6) : Int) := by rw [IntKind.wrap_u32]; omega
  clear hr hR
  iterate 11 (refine wpSeq_quiet rfl rfl ?_; apply Exists.intro; refine ⟨?_, ?_⟩; (intro W hW; go_simp; try with_reducible rfl); (intro K hK; simp only [Act.put, List.setIfInBounds_toArray, List.set_cons_zero, List.set_cons_succ]; refine hK _ ?_; clear hK K))
  refine wpSeq_end ?_
  go_wp2
  go_ret
  exact ⟨rfl, (Ext.refl _ _).drew⟩
theorem turn7_calls (w : World) (x : UInt32) :
    Calls Tryd.prog 62 #[.int .u32 (un x : Int), .int .i64 7] w fun e w' => e = .returned (.int .u32 (un (rotr x 7) : Int)) ∧ Ext Non w w' := by
  have hx := un_lt x
  have hr : un (rotr x 7) = un x / 128 + un x % 128 * 33554432 := rotr_sum x 7 (by decide) (by decide)
  have hR := un_lt (rotr x 7)
  have HR := Lib.hid hr
  clear hr
  go_enter Tryd.func62, Tryd.ntmps62
  go_wp2_with fail
  refine wp_region_seq Non ((0, true) :: (1, true) :: (2, true) :: (3, true) :: (4, true) :: (5, true) :: (6, true) :: (7, true) :: (8, true) :: (9, true) :: (10, true) :: []) (by kernel_rfl) (by kernel_rfl) (by kernel_rfl) ?_
  have hr := HR.out
  have q0 : IntKind.u32.wrap 128 = 128 := by decide
  have q1 : IntKind.u32.wrap 33554432 = 33554432 := by decide
  have q3 : IntKind.i64.wrap 25 = 25 := by decide
  have q2 : IntKind.u32.wrap ((un x : Int) / 128) = (un x : Int) / 128 := by rw [IntKind.wrap_u32]; omega
  have e1 : IntKind.u32.wrap ((un x : Int) % 128 * 33554432) = (un x : Int) % 128 * 33554432 := by rw [IntKind.wrap_u32]; omega
  have e2 : IntKind.u32.wrap ((un x : Int) / 128 + (un x : Int) % 128 * 33554432) = (un (rotr x 7) : Int) := by rw [IntKind.wrap_u32]; omega
  clear hr hR
  iterate 11 (refine wpSeq_quiet rfl rfl ?_; apply Exists.intro; refine ⟨?_, ?_⟩; (intro W hW; go_simp; try with_reducible rfl); (intro K hK; simp only [Act.put, List.setIfInBounds_toArray, List.set_cons_zero, List.set_cons_succ]; refine hK _ ?_; clear hK K))
  refine wpSeq_end ?_
  go_wp2
  go_ret
  exact ⟨rfl, (Ext.refl _ _).drew⟩
theorem turn11_calls (w : World) (x : UInt32) :
    Calls Tryd.prog 62 #[.int .u32 (un x : Int), .int .i64 11] w fun e w' => e = .returned (.int .u32 (un (rotr x 11) : Int)) ∧ Ext Non w w' := by
  have hx := un_lt x
  have hr : un (rotr x 11) = un x / 2048 + un x % 2048 * 2097152 := rotr_sum x 11 (by decide) (by decide)
  have hR := un_lt (rotr x 11)
  have HR := Lib.hid hr
  clear hr
  go_enter Tryd.func62, Tryd.ntmps62
  go_wp2_with fail
  refine wp_region_seq Non ((0, true) :: (1, true) :: (2, true) :: (3, true) :: (4, true) :: (5, true) :: (6, true) :: (7, true) :: (8, true) :: (9, true) :: (10, true) :: []) (by kernel_rfl) (by kernel_rfl) (by kernel_rfl) ?_
  have hr := HR.out
  have q0 : IntKind.u32.wrap 2048 = 2048 := by decide
  have q1 : IntKind.u32.wrap 2097152 = 2097152 := by decide
  have q3 : IntKind.i64.wrap 21 = 21 := by decide
  have q2 : IntKind.u32.wrap ((un x : Int) / 2048) = (un x : Int) / 2048 := by rw [IntKind.wrap_u32]; omega
  have e1 : IntKind.u32.wrap ((un x : Int) % 2048 * 2097152) = (un x : Int) % 2048 * 2097152 := by rw [IntKind.wrap_u32]; omega
  have e2 : IntKind.u32.wrap ((un x : Int) / 2048 + (un x : Int) % 2048 * 2097152) = (un (rotr x 11) : Int) := by rw [IntKind.wrap_u32]; omega
  clear hr hR
  iterate 11 (refine wpSeq_quiet rfl rfl ?_; apply Exists.intro; refine ⟨?_, ?_⟩; (intro W hW; go_simp; try with_reducible rfl); (intro K hK; simp only [Act.put, List.setIfInBounds_toArray, List.set_cons_zero, List.set_cons_succ]; refine hK _ ?_; clear hK K))
  refine wpSeq_end ?_
  go_wp2
  go_ret
  exact ⟨rfl, (Ext.refl _ _).drew⟩
theorem turn13_calls (w : World) (x : UInt32) :
    Calls Tryd.prog 62 #[.int .u32 (un x : Int), .int .i64 13] w fun e w' => e = .returned (.int .u32 (un (rotr x 13) : Int)) ∧ Ext Non w w' := by
  have hx := un_lt x
  have hr : un (rotr x 13) = un x / 8192 + un x % 8192 * 524288 := rotr_sum x 13 (by decide) (by decide)
  have hR := un_lt (rotr x 13)
  have HR := Lib.hid hr
  clear hr
  go_enter Tryd.func62, Tryd.ntmps62
  go_wp2_with fail
  refine wp_region_seq Non ((0, true) :: (1, true) :: (2, true) :: (3, true) :: (4, true) :: (5, true) :: (6, true) :: (7, true) :: (8, true) :: (9, true) :: (10, true) :: []) (by kernel_rfl) (by kernel_rfl) (by kernel_rfl) ?_
  have hr := HR.out
  have q0 : IntKind.u32.wrap 8192 = 8192 := by decide
  have q1 : IntKind.u32.wrap 524288 = 524288 := by decide
  have q3 : IntKind.i64.wrap 19 = 19 := by decide
  have q2 : IntKind.u32.wrap ((un x : Int) / 8192) = (un x : Int) / 8192 := by rw [IntKind.wrap_u32]; omega
  have e1 : IntKind.u32.wrap ((un x : Int) % 8192 * 524288) = (un x : Int) % 8192 * 524288 := by rw [IntKind.wrap_u32]; omega
  have e2 : IntKind.u32.wrap ((un x : Int) / 8192 + (un x : Int) % 8192 * 524288) = (un (rotr x 13) : Int) := by rw [IntKind.wrap_u32]; omega
  clear hr hR
  iterate 11 (refine wpSeq_quiet rfl rfl ?_; apply Exists.intro; refine ⟨?_, ?_⟩; (intro W hW; go_simp; try with_reducible rfl); (intro K hK; simp only [Act.put, List.setIfInBounds_toArray, List.set_cons_zero, List.set_cons_succ]; refine hK _ ?_; clear hK K))
  refine wpSeq_end ?_
  go_wp2
  go_ret
  exact ⟨rfl, (Ext.refl _ _).drew⟩
theorem turn17_calls (w : World) (x : UInt32) :
    Calls Tryd.prog 62 #[.int .u32 (un x : Int), .int .i64 17] w fun e w' => e = .returned (.int .u32 (un (rotr x 17) : Int)) ∧ Ext Non w w' := by
  have hx := un_lt x
  have hr : un (rotr x 17) = un x / 131072 + un x % 131072 * 32768 := rotr_sum x 17 (by decide) (by decide)
  have hR := un_lt (rotr x 17)
  have HR := Lib.hid hr
  clear hr
  go_enter Tryd.func62, Tryd.ntmps62
  go_wp2_with fail
  refine wp_region_seq Non ((0, true) :: (1, true) :: (2, true) :: (3, true) :: (4, true) :: (5, true) :: (6, true) :: (7, true) :: (8, true) :: (9, true) :: (10, true) :: []) (by kernel_rfl) (by kernel_rfl) (by kernel_rfl) ?_
  have hr := HR.out
  have q0 : IntKind.u32.wrap 131072 = 131072 := by decide
  have q1 : IntKind.u32.wrap 32768 = 32768 := by decide
  have q3 : IntKind.i64.wrap 15 = 15 := by decide
  have q2 : IntKind.u32.wrap ((un x : Int) / 131072) = (un x : Int) / 131072 := by rw [IntKind.wrap_u32]; omega
  have e1 : IntKind.u32.wrap ((un x : Int) % 131072 * 32768) = (un x : Int) % 131072 * 32768 := by rw [IntKind.wrap_u32]; omega
  have e2 : IntKind.u32.wrap ((un x : Int) / 131072 + (un x : Int) % 131072 * 32768) = (un (rotr x 17) : Int) := by rw [IntKind.wrap_u32]; omega
  clear hr hR
  iterate 11 (refine wpSeq_quiet rfl rfl ?_; apply Exists.intro; refine ⟨?_, ?_⟩; (intro W hW; go_simp; try with_reducible rfl); (intro K hK; simp only [Act.put, List.setIfInBounds_toArray, List.set_cons_zero, List.set_cons_succ]; refine hK _ ?_; clear hK K))
  refine wpSeq_end ?_
  go_wp2
  go_ret
  exact ⟨rfl, (Ext.refl _ _).drew⟩
theorem turn18_calls (w : World) (x : UInt32) :
    Calls Tryd.prog 62 #[.int .u32 (un x : Int), .int .i64 18] w fun e w' => e = .returned (.int .u32 (un (rotr x 18) : Int)) ∧ Ext Non w w' := by
  have hx := un_lt x
  have hr : un (rotr x 18) = un x / 262144 + un x % 262144 * 16384 := rotr_sum x 18 (by decide) (by decide)
  have hR := un_lt (rotr x 18)
  have HR := Lib.hid hr
  clear hr
  go_enter Tryd.func62, Tryd.ntmps62
  go_wp2_with fail
  refine wp_region_seq Non ((0, true) :: (1, true) :: (2, true) :: (3, true) :: (4, true) :: (5, true) :: (6, true) :: (7, true) :: (8, true) :: (9, true) :: (10, true) :: []) (by kernel_rfl) (by kernel_rfl) (by kernel_rfl) ?_
  have hr := HR.out
  have q0 : IntKind.u32.wrap 262144 = 262144 := by decide
  have q1 : IntKind.u32.wrap 16384 = 16384 := by decide
  have q3 : IntKind.i64.wrap 14 = 14 := by decide
  have q2 : IntKind.u32.wrap ((un x : Int) / 262144) = (un x : Int) / 262144 := by rw [IntKind.wrap_u32]; omega
  have e1 : IntKind.u32.wrap ((un x : Int) % 262144 * 16384) = (un x : Int) % 262144 * 16384 := by rw [IntKind.wrap_u32]; omega
  have e2 : IntKind.u32.wrap ((un x : Int) / 262144 + (un x : Int) % 262144 * 16384) = (un (rotr x 18) : Int) := by rw [IntKind.wrap_u32]; omega
  clear hr hR
  iterate 11 (refine wpSeq_quiet rfl rfl ?_; apply Exists.intro; refine ⟨?_, ?_⟩; (intro W hW; go_simp; try with_reducible rfl); (intro K hK; simp only [Act.put, List.setIfInBounds_toArray, List.set_cons_zero, List.set_cons_succ]; refine hK _ ?_; clear hK K))
  refine wpSeq_end ?_
  go_wp2
  go_ret
  exact ⟨rfl, (Ext.refl _ _).drew⟩
theorem turn19_calls (w : World) (x : UInt32) :
    Calls Tryd.prog 62 #[.int .u32 (un x : Int), .int .i64 19] w fun e w' => e = .returned (.int .u32 (un (rotr x 19) : Int)) ∧ Ext Non w w' := by
  have hx := un_lt x
  have hr : un (rotr x 19) = un x / 524288 + un x % 524288 * 8192 := rotr_sum x 19 (by decide) (by decide)
  have hR := un_lt (rotr x 19)
  have HR := Lib.hid hr
  clear hr
  go_enter Tryd.func62, Tryd.ntmps62
  go_wp2_with fail
  refine wp_region_seq Non ((0, true) :: (1, true) :: (2, true) :: (3, true) :: (4, true) :: (5, true) :: (6, true) :: (7, true) :: (8, true) :: (9, true) :: (10, true) :: []) (by kernel_rfl) (by kernel_rfl) (by kernel_rfl) ?_
  have hr := HR.out
  have q0 : IntKind.u32.wrap 524288 = 524288 := by decide
  have q1 : IntKind.u32.wrap 8192 = 8192 := by decide
  have q3 : IntKind.i64.wrap 13 = 13 := by decide
  have q2 : IntKind.u32.wrap ((un x : Int) / 524288) = (un x : Int) / 524288 := by rw [IntKind.wrap_u32]; omega
  have e1 : IntKind.u32.wrap ((un x : Int) % 524288 * 8192) = (un x : Int) % 524288 * 8192 := by rw [IntKind.wrap_u32]; omega
  have e2 : IntKind.u32.wrap ((un x : Int) / 524288 + (un x : Int) % 524288 * 8192) = (un (rotr x 19) : Int) := by rw [IntKind.wrap_u32]; omega
  clear hr hR
  iterate 11 (refine wpSeq_quiet rfl rfl ?_; apply Exists.intro; refine ⟨?_, ?_⟩; (intro W hW; go_simp; try with_reducible rfl); (intro K hK; simp only [Act.put, List.setIfInBounds_toArray, List.set_cons_zero, List.set_cons_succ]; refine hK _ ?_; clear hK K))
  refine wpSeq_end ?_
  go_wp2
  go_ret
  exact ⟨rfl, (Ext.refl _ _).drew⟩
theorem turn22_calls (w : World) (x : UInt32) :
    Calls Tryd.prog 62 #[.int .u32 (un x : Int), .int .i64 22] w fun e w' => e = .returned (.int .u32 (un (rotr x 22) : Int)) ∧ Ext Non w w' := by
  have hx := un_lt x
  have hr : un (rotr x 22) = un x / 4194304 + un x % 4194304 * 1024 := rotr_sum x 22 (by decide) (by decide)
  have hR := un_lt (rotr x 22)
  have HR := Lib.hid hr
  clear hr
  go_enter Tryd.func62, Tryd.ntmps62
  go_wp2_with fail
  refine wp_region_seq Non ((0, true) :: (1, true) :: (2, true) :: (3, true) :: (4, true) :: (5, true) :: (6, true) :: (7, true) :: (8, true) :: (9, true) :: (10, true) :: []) (by kernel_rfl) (by kernel_rfl) (by kernel_rfl) ?_
  have hr := HR.out
  have q0 : IntKind.u32.wrap 4194304 = 4194304 := by decide
  have q1 : IntKind.u32.wrap 1024 = 1024 := by decide
  have q3 : IntKind.i64.wrap 10 = 10 := by decide
  have q2 : IntKind.u32.wrap ((un x : Int) / 4194304) = (un x : Int) / 4194304 := by rw [IntKind.wrap_u32]; omega
  have e1 : IntKind.u32.wrap ((un x : Int) % 4194304 * 1024) = (un x : Int) % 4194304 * 1024 := by rw [IntKind.wrap_u32]; omega
  have e2 : IntKind.u32.wrap ((un x : Int) / 4194304 + (un x : Int) % 4194304 * 1024) = (un (rotr x 22) : Int) := by rw [IntKind.wrap_u32]; omega
  clear hr hR
  iterate 11 (refine wpSeq_quiet rfl rfl ?_; apply Exists.intro; refine ⟨?_, ?_⟩; (intro W hW; go_simp; try with_reducible rfl); (intro K hK; simp only [Act.put, List.setIfInBounds_toArray, List.set_cons_zero, List.set_cons_succ]; refine hK _ ?_; clear hK K))
  refine wpSeq_end ?_
  go_wp2
  go_ret
  exact ⟨rfl, (Ext.refl _ _).drew⟩
theorem turn25_calls (w : World) (x : UInt32) :
    Calls Tryd.prog 62 #[.int .u32 (un x : Int), .int .i64 25] w fun e w' => e = .returned (.int .u32 (un (rotr x 25) : Int)) ∧ Ext Non w w' := by
  have hx := un_lt x
  have hr : un (rotr x 25) = un x / 33554432 + un x % 33554432 * 128 := rotr_sum x 25 (by decide) (by decide)
  have hR := un_lt (rotr x 25)
  have HR := Lib.hid hr
  clear hr
  go_enter Tryd.func62, Tryd.ntmps62
  go_wp2_with fail
  refine wp_region_seq Non ((0, true) :: (1, true) :: (2, true) :: (3, true) :: (4, true) :: (5, true) :: (6, true) :: (7, true) :: (8, true) :: (9, true) :: (10, true) :: []) (by kernel_rfl) (by kernel_rfl) (by kernel_rfl) ?_
  have hr := HR.out
  have q0 : IntKind.u32.wrap 33554432 = 33554432 := by decide
  have q1 : IntKind.u32.wrap 128 = 128 := by decide
  have q3 : IntKind.i64.wrap 7 = 7 := by decide
  have q2 : IntKind.u32.wrap ((un x : Int) / 33554432) = (un x : Int) / 33554432 := by rw [IntKind.wrap_u32]; omega
  have e1 : IntKind.u32.wrap ((un x : Int) % 33554432 * 128) = (un x : Int) % 33554432 * 128 := by rw [IntKind.wrap_u32]; omega
  have e2 : IntKind.u32.wrap ((un x : Int) / 33554432 + (un x : Int) % 33554432 * 128) = (un (rotr x 25) : Int) := by rw [IntKind.wrap_u32]; omega
  clear hr hR
  iterate 11 (refine wpSeq_quiet rfl rfl ?_; apply Exists.intro; refine ⟨?_, ?_⟩; (intro W hW; go_simp; try with_reducible rfl); (intro K hK; simp only [Act.put, List.setIfInBounds_toArray, List.set_cons_zero, List.set_cons_succ]; refine hK _ ?_; clear hK K))
  refine wpSeq_end ?_
  go_wp2
  go_ret
  exact ⟨rfl, (Ext.refl _ _).drew⟩

theorem refH_arr : u32a H0 = #[.int .u32 1779033703, .int .u32 3144134277, .int .u32 1013904242, .int .u32 2773480762, .int .u32 1359893119, .int .u32 2600822924, .int .u32 528734635, .int .u32 1541459225] := by kernel_rfl
theorem refH_calls (w : World) (i : Nat) (hi : i < 8) :
    Calls Tryd.prog 61 #[.int .i64 (i : Int)] w fun e w' => e = .returned (.int .u32 (un (H0.getD i 0) : Int)) ∧ Ext Non w w' := by
  have c : (w.alloc (.cells #[.int .u32 1779033703, .int .u32 3144134277, .int .u32 1013904242, .int .u32 2773480762, .int .u32 1359893119, .int .u32 2600822924, .int .u32 528734635, .int .u32 1541459225] 35)).cell? ⟨w.heap.size, i, none⟩ = some (.int .u32 (un (H0.getD i 0) : Int)) := by
    rw [← refH_arr, (Blk.new w 35 (u32a H0)).cell, u32a_get H0 i (by show i < 8; exact hi)]
  have i1 : (i : Int) < 8 := by omega
  generalize H0.getD i 0 = v at *
  go_enter Tryd.func61, Tryd.ntmps61
  go_wp2_with fail
  go_ret
  exact ⟨rfl, (Ext.refl _ _).alloc _⟩

theorem refK_arr : u32a KT = #[.int .u32 1116352408, .int .u32 1899447441, .int .u32 3049323471, .int .u32 3921009573, .int .u32 961987163, .int .u32 1508970993, .int .u32 2453635748, .int .u32 2870763221, .int .u32 3624381080, .int .u32 310598401, .int .u32 607225278, .int .u32 1426881987, .int .u32 1925078388, .int .u32 2162078206, .int .u32 2614888103, .int .u32 3248222580, .int .u32 3835390401, .int .u32 4022224774, .int .u32 264347078, .int .u32 604807628, .int .u32 770255983, .int .u32 1249150122, .int .u32 1555081692, .int .u32 1996064986, .int .u32 2554220882, .int .u32 2821834349, .int .u32 2952996808, .int .u32 3210313671, .int .u32 3336571891, .int .u32 3584528711, .int .u32 113926993, .int .u32 338241895, .int .u32 666307205, .int .u32 773529912, .int .u32 1294757372, .int .u32 1396182291, .int .u32 1695183700, .int .u32 1986661051, .int .u32 2177026350, .int .u32 2456956037, .int .u32 2730485921, .int .u32 2820302411, .int .u32 3259730800, .int .u32 3345764771, .int .u32 3516065817, .int .u32 3600352804, .int .u32 4094571909, .int .u32 275423344, .int .u32 430227734, .int .u32 506948616, .int .u32 659060556, .int .u32 883997877, .int .u32 958139571, .int .u32 1322822218, .int .u32 1537002063, .int .u32 1747873779, .int .u32 1955562222, .int .u32 2024104815, .int .u32 2227730452, .int .u32 2361852424, .int .u32 2428436474, .int .u32 2756734187, .int .u32 3204031479, .int .u32 3329325298] := by kernel_rfl
theorem refK_calls (w : World) (i : Nat) (hi : i < 64) :
    Calls Tryd.prog 63 #[.int .i64 (i : Int)] w fun e w' => e = .returned (.int .u32 (un (KT.getD i 0) : Int)) ∧ Ext Non w w' := by
  have c : (w.alloc (.cells #[.int .u32 1116352408, .int .u32 1899447441, .int .u32 3049323471, .int .u32 3921009573, .int .u32 961987163, .int .u32 1508970993, .int .u32 2453635748, .int .u32 2870763221, .int .u32 3624381080, .int .u32 310598401, .int .u32 607225278, .int .u32 1426881987, .int .u32 1925078388, .int .u32 2162078206, .int .u32 2614888103, .int .u32 3248222580, .int .u32 3835390401, .int .u32 4022224774, .int .u32 264347078, .int .u32 604807628, .int .u32 770255983, .int .u32 1249150122, .int .u32 1555081692, .int .u32 1996064986, .int .u32 2554220882, .int .u32 2821834349, .int .u32 2952996808, .int .u32 3210313671, .int .u32 3336571891, .int .u32 3584528711, .int .u32 113926993, .int .u32 338241895, .int .u32 666307205, .int .u32 773529912, .int .u32 1294757372, .int .u32 1396182291, .int .u32 1695183700, .int .u32 1986661051, .int .u32 2177026350, .int .u32 2456956037, .int .u32 2730485921, .int .u32 2820302411, .int .u32 3259730800, .int .u32 3345764771, .int .u32 3516065817, .int .u32 3600352804, .int .u32 4094571909, .int .u32 275423344, .int .u32 430227734, .int .u32 506948616, .int .u32 659060556, .int .u32 883997877, .int .u32 958139571, .int .u32 1322822218, .int .u32 1537002063, .int .u32 1747873779, .int .u32 1955562222, .int .u32 2024104815, .int .u32 2227730452, .int .u32 2361852424, .int .u32 2428436474, .int .u32 2756734187, .int .u32 3204031479, .int .u32 3329325298] 35)).cell? ⟨w.heap.size, i, none⟩ = some (.int .u32 (un (KT.getD i 0) : Int)) := by
    rw [← refK_arr, (Blk.new w 35 (u32a KT)).cell, u32a_get KT i (by show i < 64; exact hi)]
  have i1 : (i : Int) < 64 := by omega
  generalize KT.getD i 0 = v at *
  go_enter Tryd.func63, Tryd.ntmps63
  go_wp2_with fail
  go_ret
  exact ⟨rfl, (Ext.refl _ _).alloc _⟩
end Go.Proofs.YtnmpfbffacljfaaDoor
