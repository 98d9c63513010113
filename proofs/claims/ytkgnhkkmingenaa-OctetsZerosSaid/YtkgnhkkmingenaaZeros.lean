/- The law OctetsZeros: noughts are bytes, as many as are asked for; for any bytes and any number: the Go text returns true. -/
import Derived.Test.YtkgnhkkmingenaaShown01
namespace Go.Proofs.Ytkgnhkkmingenaa
open Go.RowKit

theorem bvs_take (l : List UInt8) (n : Nat) : bvs (l.take n) = (bvs l).take n := by simp [bvs]
theorem bvs_drop (l : List UInt8) (n : Nat) : bvs (l.drop n) = (bvs l).drop n := by simp [bvs]

set_option maxRecDepth 100000 in
set_option maxHeartbeats 2000000 in
theorem zeros_walk (A0 : Option Addr) (n0 c0 : Nat) (l0 : List UInt8) (n : Int) (A2 : Option Addr) (n2 c2 : Nat) (l2 : List UInt8) (w : World)
    (hn0 : l0.length = n0) (hc0 : n0 ≤ c0) (r0 : Rd w (· < w.heap.size) A0 (bvs l0)) (hn2 : l2.length = n2) (hc2 : n2 ≤ c2) (r2 : Rd w (· < w.heap.size) A2 (bvs l2)) :
    Calls Try.prog 3 #[.slice A0 n0 c0, .int .i64 n, .slice A2 n2 c2] w fun e w' => e = .returned (.bool true) ∧ Below w.heap.size w w' := by
  obtain ⟨k0, hk0, hk0a, hk0b, _⟩ := min_at n0 50 (by omega)
  obtain ⟨k2, hk2, hk2a, hk2b, _⟩ := min_at n2 50 (by omega)
  obtain ⟨n1, hn1, hn1a, hn1b, _⟩ := min_atI n 100
  obtain ⟨m, hm⟩ : ∃ m, m = n1.toNat := ⟨_, rfl⟩
  have hmx := max0_at n1
  rw [← hm] at hmx
  have hm100 : m ≤ 100 := by omega
  have HM := Lib.hid hm
  clear hm
  go_enter Try.func3, Try.ntmps3
  go_wp2_with fail
  refine (shown_calls w).mono ?_
  rintro e w1 ⟨rfl, x1⟩
  have W1 := new_wr w1 w.heap.size
  have X1 : Ext Non w (w1.alloc (.cells #[.slice none 0 0] 26)) := x1.alloc _
  go_wp2_with fail
  refine (wbytes_calls W1 X1.size (m := l0.take k0) c0 k0 (bvs_take l0 k0 ▸ (r0.extN X1).take k0) (by simp; omega) (by simp; omega)).mono ?_
  rintro e w2 ⟨rfl, g2, S2⟩
  go_wp2_with fail
  refine (wzeros_calls S2.wr (Nat.le_trans X1.size S2.ext.size) n1 (by simp; omega)).mono ?_
  rintro e w3 ⟨rfl, g3, S3⟩
  have S23 := S2.trans S3
  have X3 := X1.trans S23.ext (S := fun _ => False) (by rintro i hi (h | h); have := x1.size; omega; cases h)
  go_wp2_with fail
  refine (wbytes_calls S23.wr (Nat.le_trans X1.size S23.ext.size) (m := l2.take k2) c2 k2 (bvs_take l2 k2 ▸ (r2.extN X3).take k2) (by simp; omega) (by simp [zeros]; omega)).mono ?_
  rintro e w4 ⟨rfl, g4, S4⟩
  have S24 := S23.trans S4
  rw [List.nil_append, ← HM.out] at S24
  obtain ⟨L, hL⟩ : ∃ L, L = l0.take k0 ++ zeros m ++ l2.take k2 := ⟨_, rfl⟩
  rw [← hL] at S24
  have hLlen : L.length = k0 + m + k2 := by rw [hL]; simp [zeros]; omega
  go_wp2_with fail
  refine (wdone_calls S24.wr (k0 + m + k2) hLlen (by omega)).mono ?_
  rintro e w5 ⟨A5, c5, rfl, o5, x5⟩
  have hc5 : k0 + m + k2 ≤ c5 := hLlen ▸ o5.len.1
  have e1 : L.take k0 = l0.take k0 := by rw [hL, List.append_assoc, List.take_left' (by simp; omega)]
  have e2 : L.drop (k0 + m) = l2.take k2 := by rw [hL, List.drop_left' (by simp [zeros]; omega)]
  have hLz : ∀ i (h : i < m), (bvs L)[k0 + i]? = some (.int .u8 0) := by
    intro i h
    rw [hL, bvs_append, bvs_append, List.append_assoc, List.getElem?_append_right (by simp [bvs]; omega)]
    simp [bvs, zeros, bv]
    rw [List.getElem?_append_left (by simp; omega)]
    simp [List.getElem?_replicate]
    omega
  have HL := Lib.hid hL
  clear hL
  have hr5 := o5.rd
  have X5 : Ext Non w w5 := (X3.trans S4.ext (by rintro i hi (h | h); have := x1.size; omega; have := (S23.wr.row h).1; omega)).transN x5
  have cv1 : ∀ nq, (convert 22 9 (.slice A5 k0 c5)).run Try.prog (w5.drewN nq) = .ok (.string (str (l0.take k0))) (w5.drewN nq) := fun nq =>
    run_convert_rd (w5.drewN nq) _ _ _ Try.underlying22 Try.underlying9 Try.underlying5 (D := fun k => ob A5 = some k) (by rw [← e1, bvs_take]; exact hr5.take k0) k0 c5 (by simp; omega)
  have cv2 : ∀ nq, (convert 22 9 (.slice (cut A5 (k0 + m) c5) k2 (c5 - (k0 + m)))).run Try.prog (w5.drewN nq) = .ok (.string (str (l2.take k2))) (w5.drewN nq) := fun nq =>
    run_convert_rd (w5.drewN nq) _ _ _ Try.underlying22 Try.underlying9 Try.underlying5 (D := fun k => ob A5 = some k) (by rw [← e2, bvs_drop]; exact hr5.cut (k := k0 + m) (by rw [bvs_length]; omega)) k2 _ (by simp; omega)
  have cv0 : ∀ nq, (convert 22 9 (.slice A0 k0 c0)).run Try.prog (w5.drewN nq) = .ok (.string (str (l0.take k0))) (w5.drewN nq) := fun nq =>
    run_convert_rd (w5.drewN nq) _ _ _ Try.underlying22 Try.underlying9 Try.underlying5 (D := (· < w.heap.size)) (by rw [bvs_take]; exact (r0.extN X5).take k0) k0 c0 (by simp; omega)
  have cv3 : ∀ nq, (convert 22 9 (.slice A2 k2 c2)).run Try.prog (w5.drewN nq) = .ok (.string (str (l2.take k2))) (w5.drewN nq) := fun nq =>
    run_convert_rd (w5.drewN nq) _ _ _ Try.underlying22 Try.underlying9 Try.underlying5 (D := (· < w.heap.size)) (by rw [bvs_take]; exact (r2.extN X5).take k2) k2 c2 (by simp; omega)
  clear e1 e2
  go_wp2_with fail
  go_quiet (fail)
  go_wp2_with fail
  go_loop [10] (fun i => ∃ j : Nat, j ≤ m ∧ i = .int .i64 j) (fun i => m - (intOf i).toNat)
  case atStart => exact ⟨0, Nat.zero_le _, rfl⟩
  case round =>
    obtain ⟨j, hj, rfl⟩ := hrel
    by_cases hlt : j < m
    · obtain ⟨hA, hc⟩ := hr5.ix (hLz j hlt)
      have i0 : (0 : Int) ≤ (k0 : Int) + (j : Int) := by omega
      have i1 : (k0 : Int) + (j : Int) < (k0 : Int) + (m : Int) + (k2 : Int) := by omega
      have i2 : ((k0 : Int) + (j : Int)).toNat = k0 + j := by omega
      go_wp2
      exact ⟨⟨j + 1, by omega, by go_num⟩, by simp [intOf]; omega⟩
    · go_wp2
      go_ret
      exact ⟨rfl, (X5.drewN nq).belowN⟩

end Go.Proofs.Ytkgnhkkmingenaa
