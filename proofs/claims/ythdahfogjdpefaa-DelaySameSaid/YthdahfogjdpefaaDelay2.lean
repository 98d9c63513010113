/- Layer 6: the document's answers, what must be in any case. -/
import Derived.Test.YthdahfogjdpefaaDelay
namespace Go.Proofs.Ythdahfogjdpefaa
open Go.RowKit

set_option maxRecDepth 10000 in
theorem rat_calls (w : World) (i : Nat) (hi : i ≤ 255) :
    Calls Try.prog 13 #[.int .i64 i] w fun e w' => e = .returned (.int .u32 (atv i : Nat)) ∧ w = w' := by
  obtain ⟨m, hm⟩ : ∃ m, 256 - i = m := ⟨_, rfl⟩
  have e1 : (256 : Int) - (i : Int) = (m : Int) := by omega
  have hle : lg m ≤ 524288 := lg_le ⟨m, by omega⟩
  have hav : atv i = (524288 - lg m) * 45426 / 65536 := by unfold atv; rw [hm]
  have HAV := Lib.hid hav
  have hm4 : m < 4294967296 := by omega
  clear hav hm
  go_enter Try.func13, Try.ntmps13
  go_wp2_with fail
  have ctr := rlog2_calls w m hm4
  with_reducible refine Calls.mono ctr ?_
  clear ctr
  rintro e w1 ⟨rfl, rfl⟩
  obtain ⟨q, hq⟩ : ∃ q, 524288 - lg m = q := ⟨_, rfl⟩
  have e2 : (524288 : Int) - (lg m : Int) = (q : Int) := by omega
  have hq' : q ≤ 524288 := by omega
  rw [← hq] at hq'
  have HQ := Lib.hid hq
  rw [hq] at hq'
  clear hq
  generalize lg m = l at e2 hle ⊢
  obtain ⟨r, hr⟩ : ∃ r, q * 45426 / 65536 = r := ⟨_, rfl⟩
  have e3 : (q : Int) * 45426 / 65536 = (r : Int) := by omega
  have hr' : r ≤ 363408 := by omega
  have HR := Lib.hid hr
  clear hr
  go_wp2_with fail
  go_ret
  exact ⟨by rw [HAV.out, HQ.out, HR.out] <;> rfl, rfl⟩

set_option maxRecDepth 10000 in
theorem rdraw_calls (w : World) (word mean most : Nat) (h1 : word < 18446744073709551616) (h2 : mean < 4294967296) (h3 : most < 4294967296) :
    Calls Try.prog 15 #[.int .u64 word, .int .u32 mean, .int .u32 most] w fun e w' => e = .returned (.int .u32 (drawv word mean most : Nat)) ∧ w = w' := by
  obtain ⟨i, hi⟩ : ∃ i, word / 72057594037927936 = i := ⟨_, rfl⟩
  have e1 : (word : Int) / 72057594037927936 = (i : Int) := by omega
  have hi' : i ≤ 255 := by omega
  have hd : drawv word mean most = min (atv i * mean / 65536) most := by unfold drawv; rw [hi]
  have HD := Lib.hid hd
  clear hd hi
  go_enter Try.func15, Try.ntmps15
  go_wp2_with fail
  have ctr := rat_calls w i hi'
  with_reducible refine Calls.mono ctr ?_
  clear ctr
  rintro e w1 ⟨rfl, rfl⟩
  have ha := atv_le i
  generalize atv i = a at *
  have hp : a * mean ≤ 363408 * 4294967295 := Nat.mul_le_mul ha (by omega)
  have m0 : (a : Int) * (mean : Int) = ((a * mean : Nat) : Int) := by simp
  have m1 : IntKind.u64.wrap ((a : Int) * (mean : Int)) = ((a * mean : Nat) : Int) := by rw [m0, IntKind.wrap_u64]; omega
  obtain ⟨q, hq⟩ : ∃ q, a * mean / 65536 = q := ⟨_, rfl⟩
  have m2 : ((a * mean : Nat) : Int) / 65536 = (q : Int) := by omega
  rw [hq] at HD
  have hq' : q ≤ 18446744073709551615 := by omega
  clear m0 hp hq
  generalize a * mean = z at *
  obtain ⟨r, hr⟩ : ∃ r, min q most = r := ⟨_, rfl⟩
  rw [hr] at HD
  by_cases hlt : (most : Int) < (q : Int)
  · obtain rfl : r = most := by omega
    clear hr
    go_wp2_with fail
    go_ret
    exact ⟨by rw [HD.out] <;> rfl, rfl⟩
  · obtain rfl : r = q := by omega
    clear hr
    have hq3 : r ≤ 4294967295 := by omega
    go_wp2_with fail
    go_ret
    exact ⟨by rw [HD.out] <;> rfl, rfl⟩

theorem log2_at (w : World) (z : Int) (n : Nat) (h : z = n) (hn : n < 4294967296) (v : Nat) (hv : lg n = v) :
    Calls Try.prog 11 #[.int .u32 z] w fun e w' => e = .returned (.int .u32 v) ∧ Ext Non w w' := by
  subst h hv
  exact log2_calls w n hn
theorem draw_at (w : World) (z1 z2 z3 : Int) (word mean most : Nat) (e1 : z1 = word) (e2 : z2 = mean) (e3 : z3 = most) (h1 : word < 18446744073709551616) (h2 : mean < 4294967296) (h3 : most < 4294967296) (v : Nat) (hv : drawv word mean most = v) :
    Calls Try.prog 14 #[.int .u64 z1, .int .u32 z2, .int .u32 z3] w fun e w' => e = .returned (.int .u32 v) ∧ Ext Non w w' := by
  subst e1 e2 e3 hv
  exact draw_calls w word mean most h1 h2 h3
theorem tab_at {w : World} {g : Nat} (h : Blk w g 25 tab) {i v : Nat} (hi : i < 256) (hv : atv i = v) : w.cell? ⟨g, i, none⟩ = some (.int .u32 (v : Int)) := by
  rw [h.cell, tab_get hi, hv]

set_option maxRecDepth 10000 in
set_option maxHeartbeats 1000000 in
theorem shown_calls (w : World) : Calls Try.prog 9 #[] w fun e w' => e = .returned (.bool true) ∧ Ext Non w w' := by
  go_enter Try.func9, Try.ntmps9
  go_wp2_with fail
  have ctr := table_calls w
  with_reducible refine Calls.mono ctr ?_
  clear ctr
  rintro e w1 ⟨rfl, x1⟩
  have hn0 := row_ne (tabk_size 0)
  have b1 := Blk.new w1 25 tab
  have y1 : Ext Non w (w1.alloc (.cells tab 25)) := x1.alloc _
  go_wp2_with fail
  have ctr := log2_at (w1.alloc (.cells tab 25)) 1 1 rfl (by decide) 0 (by decide +kernel)
  with_reducible refine Calls.mono ctr ?_
  clear ctr
  rintro e w2 ⟨rfl, x2⟩
  go_wp2_with fail
  have ctr := log2_at w2 2 2 rfl (by decide) 65536 (by decide +kernel)
  with_reducible refine Calls.mono ctr ?_
  clear ctr
  rintro e w3 ⟨rfl, x3⟩
  go_wp2_with fail
  have ctr := log2_at w3 256 256 rfl (by decide) 524288 (by decide +kernel)
  with_reducible refine Calls.mono ctr ?_
  clear ctr
  rintro e w4 ⟨rfl, x4⟩
  have b4 := ((b1.extN_ x2).extN_ x3).extN_ x4
  have c0 := tab_at b4 (i := 0) (v := 0) (by decide) (by decide +kernel)
  have c1 := tab_at b4 (i := 128) (v := 45426) (by decide) (by decide +kernel)
  have c2 := tab_at b4 (i := 255) (v := 363408) (by decide) (by decide +kernel)
  go_wp2_with fail
  have ctr := draw_at w4 9223372036854775808 100 1000 9223372036854775808 100 1000 rfl rfl rfl (by decide) (by decide) (by decide) 69 (by decide +kernel)
  with_reducible refine Calls.mono ctr ?_
  clear ctr
  rintro e w5 ⟨rfl, x5⟩
  go_wp2_with fail
  have ctr := draw_at w5 18446744073709551615 100 500 18446744073709551615 100 500 rfl rfl rfl (by decide) (by decide) (by decide) 500 (by decide +kernel)
  with_reducible refine Calls.mono ctr ?_
  clear ctr
  rintro e w6 ⟨rfl, x6⟩
  go_wp2_with fail
  go_ret
  exact ⟨rfl, ((((y1.transN x2).transN x3).transN x4).transN x5).transN x6⟩
end Go.Proofs.Ythdahfogjdpefaa
