/- Layer 6: the laws' walks, for any numbers. -/
import Derived.Test.YthdahfogjdpefaaDelay2
import Derived.Test.YthdahfogjdpefaaSeq
import Derived.Test.YthdahfogjdpefaaBit
import Derived.Test.YthdahfogjdpefaaDelayA
namespace Go.Proofs.Ythdahfogjdpefaa
open Go.RowKit

theorem drawv_mono {a b m n p q : Nat} (hb : b < 18446744073709551616) (h1 : a ≤ b) (h2 : m ≤ n) (h3 : p ≤ q) : drawv a m p ≤ drawv b n q := by
  have hi : a / 72057594037927936 ≤ b / 72057594037927936 := Nat.div_le_div_right h1
  have hat : ∀ i j : Nat, i ≤ j → j < 256 → atv i ≤ atv j := by
    intro i j hij hj
    have hs : ∀ k : Fin 255, atv k.val ≤ atv (k.val + 1) := by decide +kernel
    induction j with
    | zero => obtain rfl : i = 0 := by omega
              exact Nat.le_refl _
    | succ j ih =>
      rcases Nat.lt_or_ge i (j + 1) with h | h
      · exact Nat.le_trans (ih (by omega) (by omega)) (hs ⟨j, by omega⟩)
      · obtain rfl : i = j + 1 := by omega
        exact Nat.le_refl _
  have h4 := hat _ _ hi (by omega)
  have h5 := Nat.div_le_div_right (c := 65536) (Nat.mul_le_mul h4 h2)
  unfold drawv
  omega
theorem drawv_le (a m p : Nat) : drawv a m p ≤ p := by unfold drawv; omega
theorem atv_rises : ∀ k : Fin 255, atv k.val < atv (k.val + 1) := by decide +kernel
set_option maxRecDepth 100000 in
set_option maxHeartbeats 1000000 in
theorem rises_walk (a b m n p q : Nat) (h0 : a < 18446744073709551616) (h1 : b < 18446744073709551616) (h2 : m < 4294967296) (h3 : n < 4294967296) (h4 : p < 4294967296) (h5 : q < 4294967296) (w : World) :
    Calls Try.prog 5 #[.int .u64 a, .int .u64 b, .int .u32 m, .int .u32 n, .int .u32 p, .int .u32 q] w fun e w' => e = .returned (.bool true) ∧ Below w.heap.size w w' := by
  have hn0 := row_ne (tabk_size 0)
  go_enter Try.func5, Try.ntmps5
  go_wp2_with fail
  have ctr := shown_calls w
  with_reducible refine Calls.mono ctr ?_
  clear ctr
  rintro e w1 ⟨rfl, x1⟩
  go_wp2_with fail
  have ctr := table_calls w1
  with_reducible refine Calls.mono ctr ?_
  clear ctr
  rintro e w2 ⟨rfl, x2⟩
  have b2 := Blk.new w2 25 tab
  have y2 : Ext Non w (w2.alloc (.cells tab 25)) := (x1.transN x2).alloc _
  go_wp2_with fail
  go_loopw [15] (fun i wr => ∃ k : Nat, 1 ≤ k ∧ k ≤ 256 ∧ i = .int .i64 k ∧ Ext Non w wr ∧ Blk wr w2.heap.size 25 tab) (fun i _ => 256 - (intOf i).toNat)
  case atStart => exact ⟨1, by omega, by omega, rfl, y2, b2⟩
  case round =>
    obtain ⟨k, hk1, hk, rfl, hx, hb⟩ := hrel
    by_cases hlt : k < 256
    · obtain ⟨j, rfl⟩ : ∃ j, k = j + 1 := ⟨k - 1, by omega⟩
      have e1 : ((j + 1 : Nat) : Int) - 1 = (j : Int) := by omega
      have c1 := tab_at hb (i := j + 1) (by omega) rfl
      have c2 := tab_at hb (i := j) (by omega) rfl
      have hr := atv_rises ⟨j, by omega⟩
      dsimp only at hr
      generalize atv (j + 1) = u at *
      generalize atv j = v at *
      obtain ⟨k, hk0⟩ : ∃ k, j + 1 = k := ⟨_, rfl⟩
      have e2 : (k : Int) - 1 = (j : Int) := by omega
      rw [hk0] at c1 hlt ⊢
      clear hk0 e1
      have hj : j < 256 := by omega
      go_wp2_with fail
      go_quiet (fail)
      go_wp2
      exact ⟨⟨k + 1, by omega, by omega, by go_num, hx.drewN nq, hb.drewN nq⟩, by simp [intOf]; omega⟩
    · clear hb
      have hlow := drawv_mono (a := min a b) (b := max a b) (m := min m n) (n := max m n) (p := min p q) (q := max p q) (by omega) (by omega) (by omega) (by omega)
      have hlp := drawv_le (min a b) (min m n) (min p q)
      have g1 : min a b < 18446744073709551616 := by omega
      have g2 : min m n < 4294967296 := by omega
      have g3 : min p q < 4294967296 := by omega
      have g4 : max a b < 18446744073709551616 := by omega
      have g5 : max m n < 4294967296 := by omega
      have g6 : max p q < 4294967296 := by omega
      obtain ⟨a1, q1⟩ : ∃ x, min a b = x := ⟨_, rfl⟩
      obtain ⟨a2, q2⟩ : ∃ x, min m n = x := ⟨_, rfl⟩
      obtain ⟨a3, q3⟩ : ∃ x, min p q = x := ⟨_, rfl⟩
      obtain ⟨b1, q4⟩ : ∃ x, max a b = x := ⟨_, rfl⟩
      obtain ⟨b2, q5⟩ : ∃ x, max m n = x := ⟨_, rfl⟩
      obtain ⟨b3, q6⟩ : ∃ x, max p q = x := ⟨_, rfl⟩
      rw [q1, q2, q3, q4, q5, q6] at hlow
      rw [q1, q2, q3] at hlp
      rw [q1] at g1
      rw [q2] at g2
      rw [q3] at g3
      rw [q4] at g4
      rw [q5] at g5
      rw [q6] at g6
      have HLOW := Lib.hid hlow
      have HLP := Lib.hid hlp
      clear hlow hlp
      obtain rfl : k = 256 := by omega
      clear hk1 hk hlt
      go_wp2_with fail
      have ctr := draw_calls wr a1 a2 a3 g1 g2 g3
      with_reducible refine Calls.mono ctr ?_
      clear ctr
      rintro e w5 ⟨rfl, x5⟩
      go_wp2_with fail
      have ctr := draw_calls w5 b1 b2 b3 g4 g5 g6
      with_reducible refine Calls.mono ctr ?_
      clear ctr
      rintro e w6 ⟨rfl, x6⟩
      have hlow := HLOW.out
      have hlp := HLP.out
      generalize drawv a1 a2 a3 = d1 at *
      generalize drawv b1 b2 b3 = d2 at *
      go_wp2_with fail
      go_ret
      exact ⟨rfl, ((hx.transN x5).transN x6).belowN⟩

end Go.Proofs.Ythdahfogjdpefaa
