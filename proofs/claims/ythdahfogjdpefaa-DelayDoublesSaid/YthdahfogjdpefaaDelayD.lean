/- Layer 6: the laws' walks, for any numbers. -/
import Derived.Test.YthdahfogjdpefaaDelay2
import Derived.Test.YthdahfogjdpefaaSeq
import Derived.Test.YthdahfogjdpefaaBit
import Derived.Test.YthdahfogjdpefaaDelayA
namespace Go.Proofs.Ythdahfogjdpefaa
open Go.RowKit

/-! ### Doubles -/
theorem lg_bound (n : Nat) (hn : n < 4294967296) : lg n < 2097152 := by
  rcases Nat.eq_zero_or_pos n with h | h
  · subst h; decide
  · obtain ⟨p, hp1, hp2⟩ := place_of n h
    obtain ⟨h31, hx1, hx2, hlg⟩ := lg_parts n p hn hp1 hp2
    have := lgk_lt 0 hx1 hx2 16
    omega
theorem lg_twice (n : Nat) (h0 : 0 < n) (hn : n < 2147483648) : lg (2 * n) = lg n + 65536 := by
  obtain ⟨p, hp1, hp2⟩ := place_of n h0
  obtain ⟨h31, hx1, hx2, hlg⟩ := lg_parts n p (by omega) hp1 hp2
  have hp30 : p ≤ 30 := by
    rcases Nat.lt_or_ge 30 p with h | h
    · have : 2 ^ 31 ≤ 2 ^ p := Nat.pow_le_pow_right (by omega) h
      omega
    · exact h
  obtain ⟨_, _, _, hlg2⟩ := lg_parts (2 * n) (p + 1) (by omega) (by rw [Nat.pow_succ]; omega) (by rw [Nat.pow_succ]; omega)
  rw [hlg2, hlg]
  have e : 2 * n * 2 ^ (31 - (p + 1)) = n * 2 ^ (31 - p) := by
    rw [show 31 - p = 31 - (p + 1) + 1 from by omega, Nat.pow_succ, Nat.mul_comm 2 n, Nat.mul_assoc, Nat.mul_comm 2]
  rw [e]
  omega
theorem lg_two : ∀ k : Fin 32, lg (2 ^ k.val) = k.val * 65536 := by decide +kernel
theorem lg_place (n : Nat) (h0 : 0 < n) (hn : n < 4294967296) : n / 2 ^ (lg n / 65536) = 1 := by
  obtain ⟨p, hp1, hp2⟩ := place_of n h0
  obtain ⟨h31, hx1, hx2, hlg⟩ := lg_parts n p hn hp1 hp2
  have := lgk_lt 0 hx1 hx2 16
  have e : lg n / 65536 = p := by omega
  rw [e]
  have h1 : n / 2 ^ p < 2 := by rw [Nat.div_lt_iff_lt_mul (Nat.two_pow_pos p), Nat.mul_comm, ← Nat.pow_succ]; exact hp2
  have h2 : 1 ≤ n / 2 ^ p := by rw [Nat.le_div_iff_mul_le (Nat.two_pow_pos p)]; omega
  omega

set_option maxRecDepth 10000 in
set_option maxHeartbeats 1000000 in
theorem doubles_walk (n k : Nat) (h0 : n < 4294967296) (h1 : k < 256) (w : World) :
    Calls Try.prog 4 #[.int .u32 n, .int .u8 k] w fun e w' => e = .returned (.bool true) ∧ Below w.heap.size w w' := by
  have a1 := and31b n h0
  have a2 := and31c k h1
  have hmx : ∀ (x : Nat) (P : Program) (w : World) (ts : Array TypeId) (t : TypeId), (Builtin.max_ ts t #[.int .u32 (x : Int), .int .u32 1]).run P w = .ok (.int .u32 ((max x 1 : Nat) : Int)) w := fun x P w ts t => run_max_nat w ts t .u32 .u32 x 1
  obtain ⟨m0, hm0⟩ : ∃ m, n % 2147483648 = m := ⟨_, rfl⟩
  rw [hm0] at a1
  replace hmx := hmx m0
  obtain ⟨m, hm⟩ : ∃ x, max m0 1 = x := ⟨_, rfl⟩
  rw [hm] at hmx
  have hm1 : 1 ≤ m := by omega
  have hm2 : m < 2147483648 := by omega
  obtain ⟨j, hj⟩ : ∃ j, k % 32 = j := ⟨_, rfl⟩
  rw [hj] at a2
  have hj31 : j ≤ 31 := by omega
  clear hm0 hm hj
  have l1 := lg_twice m hm1 hm2
  have l2 := lg_two ⟨j, by omega⟩
  dsimp only at l2
  have l3 := lg_place m hm1 (by omega)
  have l4 := lg_bound m (by omega)
  obtain ⟨t, ht⟩ : ∃ t, 2 * m = t := ⟨_, rfl⟩
  have e1 : (2 : Int) * (m : Int) = (t : Int) := by omega
  have ht4 : t < 4294967296 := by omega
  rw [ht] at l1
  clear ht
  have L1 := Lib.hid l1
  obtain ⟨z, hz⟩ : ∃ z, 2 ^ j = z := ⟨_, rfl⟩
  have hz4 : z < 4294967296 := by
    have : 2 ^ j ≤ 2 ^ 31 := Nat.pow_le_pow_right (by omega) hj31
    omega
  have e2 : (2 : Int) ^ j = (z : Int) := by rw [← hz]; simp
  rw [hz] at l2
  have L2 := Lib.hid l2
  obtain ⟨q, hq⟩ : ∃ q, lg m / 65536 = q := ⟨_, rfl⟩
  rw [hq] at l3
  have e3 : (lg m : Int) / 65536 = (q : Int) := by omega
  have e4 : (m : Int) / 2 ^ q = 1 := by
    have : ((m / 2 ^ q : Nat) : Int) = 1 := by rw [l3]; rfl
    simpa using this
  have hq31 : q < 32 := by omega
  clear l1 l2 hz hq l3
  go_enter Try.func4, Try.ntmps4
  go_wp2_with fail
  have ctr := shown_calls w
  with_reducible refine Calls.mono ctr ?_
  clear ctr
  rintro e w1 ⟨rfl, x1⟩
  go_wp2_with fail
  have ctr := log2_calls w1 m (by omega)
  with_reducible refine Calls.mono ctr ?_
  clear ctr
  rintro e w2 ⟨rfl, x2⟩
  go_wp2_with fail
  have ctr := log2_at w2 (t : Int) t rfl ht4 _ L1.out
  with_reducible refine Calls.mono ctr ?_
  clear ctr
  rintro e w3 ⟨rfl, x3⟩
  go_wp2_with fail
  have ctr := log2_calls w3 m (by omega)
  with_reducible refine Calls.mono ctr ?_
  clear ctr
  rintro e w4 ⟨rfl, x4⟩
  go_wp2_with fail
  have ctr := log2_at w4 (z : Int) z rfl hz4 _ L2.out
  with_reducible refine Calls.mono ctr ?_
  clear ctr
  rintro e w5 ⟨rfl, x5⟩
  go_wp2_with fail
  go_ret
  exact ⟨rfl, ((((x1.transN x2).transN x3).transN x4).transN x5).belowN⟩

end Go.Proofs.Ythdahfogjdpefaa
