/- LeadingZeros32, of Go's library: by the place of the highest bit. -/
import Derived.Lib.BitFns
import Derived.Test.YthdahfogjdpefaaSeq
import Derived.Test.YthdahfogjdpefaaProg
namespace Go.Proofs.Ythdahfogjdpefaa
open Go.RowKit Go.Lib

/-- The highest bit's place. -/
theorem bitLen_bounds : ∀ (k n : Nat), k ≤ 32 → Lib.bitLen n = k → 0 < n → n < 4294967296 → 1 ≤ k ∧ 2 ^ (k - 1) ≤ n ∧ n < 2 ^ k
  | 0, n, _, h, h0, hn => by
    rw [bitLen_half n (by omega) (by omega)] at h
    omega
  | k + 1, n, hk, h, h0, hn => by
    rw [bitLen_half n (by omega) (by omega)] at h
    by_cases h2 : n / 2 = 0
    · rw [h2] at h
      have : Lib.bitLen 0 = 0 := by decide
      have hk0 : k = 0 := by omega
      subst hk0
      exact ⟨by omega, by simp; omega, by simp; omega⟩
    · obtain ⟨a, b, c⟩ := bitLen_bounds k (n / 2) (by omega) (by omega) (by omega) (by omega)
      refine ⟨by omega, ?_, ?_⟩
      · have : 2 ^ (k + 1 - 1) = 2 ^ (k - 1) * 2 := by rw [← Nat.pow_succ]; congr 1; omega
        omega
      · rw [Nat.pow_succ]; omega

set_option maxRecDepth 100000 in
set_option maxHeartbeats 1000000 in
theorem len32_calls (w : World) (n : Nat) (hn : n < 4294967296) :
    Calls Try.prog 19 #[.int .u32 n] w fun e w' => e = .returned (.int .i64 (Lib.bitLen n : Nat)) ∧ w = w' := by
  have key : ∀ m : Nat, m < 256 → len8 (m : Int) = (Lib.bitLen m : Int) := fun m hm => by
    have := len8_of (m : Int) (by omega) (by omega)
    simpa using this
  have kle : ∀ m : Nat, m < 256 → Lib.bitLen m ≤ 8 := fun m hm => bitLen_le m 8 (by omega) (by omega)
  by_cases h16 : 65536 ≤ n
  · have e16 := bitLen_shift16 n h16 (by omega)
    obtain ⟨m, hm⟩ : ∃ m, n / 65536 = m := ⟨_, rfl⟩
    have d16 : (n : Int) / 65536 = (m : Int) := by omega
    have hm16 : m < 65536 := by omega
    have c16 : (65536 : Int) ≤ (n : Int) := by omega
    rw [hm] at e16
    clear hm
    by_cases h8 : 256 ≤ m
    · have e8 := bitLen_shift8 m h8 (by omega)
      obtain ⟨q, hq⟩ : ∃ q, m / 256 = q := ⟨_, rfl⟩
      have d8 : (m : Int) / 256 = (q : Int) := by omega
      have hq8 : q < 256 := by omega
      have c8 : (256 : Int) ≤ (m : Int) := by omega
      have f8 := key q hq8
      have l255 : (q : Int) ≤ 255 := by omega
      have g8 := kle q hq8
      rw [hq] at e8
      rw [e16, e8]
      clear hq key kle e16 e8
      generalize Lib.bitLen q = b at *
      go_enter Try.func19, Try.ntmps19
      go_wp2_with fail
      go_ret
      exact ⟨by rw [← Nat.add_assoc]; simp, rfl⟩
    · have c8 : ¬ (256 : Int) ≤ (m : Int) := by omega
      have f8 := key m (by omega)
      have l255 : (m : Int) ≤ 255 := by omega
      have g8 := kle m (by omega)
      have hm8 : m < 256 := by omega
      rw [e16]
      clear key kle e16
      generalize Lib.bitLen m = b at *
      go_enter Try.func19, Try.ntmps19
      go_wp2_with fail
      go_ret
      exact ⟨by simp, rfl⟩
  · have c16 : ¬ (65536 : Int) ≤ (n : Int) := by omega
    by_cases h8 : 256 ≤ n
    · have e8 := bitLen_shift8 n h8 (by omega)
      obtain ⟨q, hq⟩ : ∃ q, n / 256 = q := ⟨_, rfl⟩
      have d8 : (n : Int) / 256 = (q : Int) := by omega
      have hq8 : q < 256 := by omega
      have c8 : (256 : Int) ≤ (n : Int) := by omega
      have f8 := key q hq8
      have l255 : (q : Int) ≤ 255 := by omega
      have g8 := kle q hq8
      rw [hq] at e8
      rw [e8]
      clear hq key kle e8
      generalize Lib.bitLen q = b at *
      go_enter Try.func19, Try.ntmps19
      go_wp2_with fail
      go_ret
      exact ⟨by simp, rfl⟩
    · have c8 : ¬ (256 : Int) ≤ (n : Int) := by omega
      have f8 := key n (by omega)
      have l255 : (n : Int) ≤ 255 := by omega
      have g8 := kle n (by omega)
      have hm8 : n < 256 := by omega
      clear key kle
      generalize Lib.bitLen n = b at *
      go_enter Try.func19, Try.ntmps19
      go_wp2_with fail
      go_ret
      exact ⟨by simp, rfl⟩

theorem lz32_calls (w : World) (n : Nat) (hn : n < 4294967296) :
    Calls Try.prog 17 #[.int .u32 n] w fun e w' => e = .returned (.int .i64 ((32 - Lib.bitLen n : Nat) : Int)) ∧ w = w' := by
  have hb := bitLen_le n 32 (by omega) (by omega)
  go_enter Try.func17, Try.ntmps17
  go_wp2_with fail
  have ctr := len32_calls w n hn
  with_reducible refine Calls.mono ctr ?_
  clear ctr
  rintro e w1 ⟨rfl, rfl⟩
  obtain ⟨c, hc⟩ : ∃ c, 32 - Lib.bitLen n = c := ⟨_, rfl⟩
  have e : (32 : Int) - (Lib.bitLen n : Int) = (c : Int) := by omega
  have HC := Lib.hid hc
  clear hc
  generalize Lib.bitLen n = b at hb e ⊢
  go_wp2_with fail
  go_ret
  exact ⟨by rw [HC.out]; rfl, rfl⟩
end Go.Proofs.Ythdahfogjdpefaa
