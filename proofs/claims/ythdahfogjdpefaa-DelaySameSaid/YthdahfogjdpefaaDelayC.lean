/- Layer 6: the laws' walks, for any numbers: DelayScales, DelaySame. -/
import Derived.Test.YthdahfogjdpefaaDelay2
import Derived.Test.YthdahfogjdpefaaSeq
import Derived.Test.YthdahfogjdpefaaBit
import Derived.Test.YthdahfogjdpefaaDelayA
import Derived.Test.YthdahfogjdpefaaDelayR
import Derived.Test.YthdahfogjdpefaaDelayW
namespace Go.Proofs.Ythdahfogjdpefaa
open Go.RowKit

/-- What the means' delays are to each other. -/
theorem scales_law (t a b E : Nat) : ∀ x y z v : Nat, min (t * a / 65536) E = x → min (t * b / 65536) E = y → min (t * (a + b) / 65536) E = z → min (t * (2 * a) / 65536) E = v →
    x ≤ v ∧ y ≤ z ∧ (v ≠ E → z ≠ E → (v = 2 * x ∨ v = 2 * x + 1) ∧ (z = x + y ∨ z = x + y + 1)) := by
  intro x y z v hx hy hz hv
  rw [Nat.mul_add] at hz
  rw [Nat.mul_left_comm] at hv
  generalize t * a = p at *
  generalize t * b = q at *
  subst hx hy hz hv
  refine ⟨by omega, by omega, fun h1 h2 => ⟨?_, ?_⟩⟩
  · omega
  · omega

set_option maxRecDepth 100000 in
set_option maxHeartbeats 1000000 in
theorem scales_walk (word a b : Nat) (h0 : word < 18446744073709551616) (h1 : a < 4294967296) (h2 : b < 4294967296) (w : World) :
    Calls Try.prog 7 #[.int .u64 word, .int .u32 a, .int .u32 b] w fun e w' => e = .returned (.bool true) ∧ Below w.heap.size w w' := by
  have a1 := and30b a h1
  have a2 := and30b b h2
  obtain ⟨p, hp⟩ : ∃ p, a % 1073741824 = p := ⟨_, rfl⟩
  obtain ⟨q, hq⟩ : ∃ q, b % 1073741824 = q := ⟨_, rfl⟩
  rw [hp] at a1
  rw [hq] at a2
  have hp' : p < 1073741824 := by omega
  have hq' : q < 1073741824 := by omega
  clear hp hq
  obtain ⟨s, hs⟩ : ∃ s, p + q = s := ⟨_, rfl⟩
  obtain ⟨d, hd⟩ : ∃ d, 2 * p = d := ⟨_, rfl⟩
  have e1 : (p : Int) + (q : Int) = (s : Int) := by omega
  have e2 : (2 : Int) * (p : Int) = (d : Int) := by omega
  have hs' : s < 4294967296 := by omega
  have hd' : d < 4294967296 := by omega
  have hl := scales_law (atv (word / 72057594037927936)) p q 4294967295 (drawv word p 4294967295) (drawv word q 4294967295) (drawv word s 4294967295) (drawv word d 4294967295) rfl rfl (by rw [hs]; rfl) (by rw [hd]; rfl)
  have l1 := drawv_le word p 4294967295
  have l2 := drawv_le word q 4294967295
  have l3 := drawv_le word s 4294967295
  have l4 := drawv_le word d 4294967295
  obtain ⟨x, hx⟩ : ∃ x, drawv word p 4294967295 = x := ⟨_, rfl⟩
  obtain ⟨y, hy⟩ : ∃ x, drawv word q 4294967295 = x := ⟨_, rfl⟩
  obtain ⟨z, hz⟩ : ∃ x, drawv word s 4294967295 = x := ⟨_, rfl⟩
  obtain ⟨v, hv⟩ : ∃ x, drawv word d 4294967295 = x := ⟨_, rfl⟩
  rw [hx, hy, hz, hv] at hl
  rw [hx] at l1
  rw [hy] at l2
  rw [hz] at l3
  rw [hv] at l4
  have HX := Lib.hid hx
  have HY := Lib.hid hy
  have HZ := Lib.hid hz
  have HV := Lib.hid hv
  clear hx hy hz hv hs hd
  obtain ⟨g1, g2, g3⟩ := hl
  have G3 := Lib.hid g3
  clear g3
  have b1 : x < 4294967296 := by omega
  have b2 : y < 4294967296 := by omega
  have b3 : z < 4294967296 := by omega
  have b4 : v < 4294967296 := by omega
  go_enter Try.func7, Try.ntmps7
  go_wp2_with fail
  have ctr := shown_calls w
  with_reducible refine Calls.mono ctr ?_
  clear ctr
  rintro e w1 ⟨rfl, x1⟩
  go_wp2_with fail
  have ctr := draw_at w1 (word : Int) (p : Int) 4294967295 word p 4294967295 rfl rfl rfl h0 (by omega) (by decide) x HX.out
  with_reducible refine Calls.mono ctr ?_
  clear ctr
  rintro e w2 ⟨rfl, x2⟩
  go_wp2_with fail
  have ctr := draw_at w2 (word : Int) (q : Int) 4294967295 word q 4294967295 rfl rfl rfl h0 (by omega) (by decide) y HY.out
  with_reducible refine Calls.mono ctr ?_
  clear ctr
  rintro e w3 ⟨rfl, x3⟩
  go_wp2_with fail
  have ctr := draw_at w3 (word : Int) (s : Int) 4294967295 word s 4294967295 rfl rfl rfl h0 (by omega) (by decide) z HZ.out
  with_reducible refine Calls.mono ctr ?_
  clear ctr
  rintro e w4 ⟨rfl, x4⟩
  go_wp2_with fail
  have ctr := draw_at w4 (word : Int) (d : Int) 4294967295 word d 4294967295 rfl rfl rfl h0 (by omega) (by decide) v HV.out
  with_reducible refine Calls.mono ctr ?_
  clear ctr
  rintro e w5 ⟨rfl, x5⟩
  have X : Below w.heap.size w w5 := ((((x1.transN x2).transN x3).transN x4).transN x5).belowN
  by_cases c1 : (v : Int) = 4294967295
  · have t1 : ((v : Int) == 4294967295) = true := beq_iff_eq.2 c1
    clear c1 G3
    go_wp2_with fail
    go_ret
    exact ⟨rfl, X⟩
  · have t1 : ((v : Int) == 4294967295) = false := beq_eq_false_iff_ne.2 c1
    by_cases c2 : (z : Int) = 4294967295
    · have t2 : ((z : Int) == 4294967295) = true := beq_iff_eq.2 c2
      clear c1 c2 G3
      go_wp2_with fail
      go_ret
      exact ⟨rfl, X⟩
    · have t2 : ((z : Int) == 4294967295) = false := beq_eq_false_iff_ne.2 c2
      obtain ⟨g4, g5⟩ := G3.out (by omega) (by omega)
      have d1 : ((v : Int) == 2 * (x : Int)) = true ∨ ((v : Int) == 2 * (x : Int)) = false ∧ ((v : Int) == 2 * (x : Int) + 1) = true := by
        rcases g4 with h | h
        · exact .inl (beq_iff_eq.2 (by omega))
        · exact .inr ⟨beq_eq_false_iff_ne.2 (by omega), beq_iff_eq.2 (by omega)⟩
      have d2 : ((z : Int) == (x : Int) + (y : Int)) = true ∨ ((z : Int) == (x : Int) + (y : Int)) = false ∧ ((z : Int) == (x : Int) + (y : Int) + 1) = true := by
        rcases g5 with h | h
        · exact .inl (beq_iff_eq.2 (by omega))
        · exact .inr ⟨beq_eq_false_iff_ne.2 (by omega), beq_iff_eq.2 (by omega)⟩
      clear c1 c2 g4 g5 G3
      rcases d1 with d1 | ⟨d1, d3⟩ <;> rcases d2 with d2 | ⟨d2, d4⟩
      all_goals
        go_wp2_with fail
        go_ret
        exact ⟨rfl, X⟩

set_option maxRecDepth 100000 in
set_option maxHeartbeats 1000000 in
theorem same_walk (i mean low : Nat) (h0 : i < 256) (h1 : mean < 4294967296) (h2 : low < 18446744073709551616) (w : World) :
    Calls Try.prog 8 #[.int .u8 i, .int .u32 mean, .int .u64 low] w fun e w' => e = .returned (.bool true) ∧ Below w.heap.size w w' := by
  have a1 := and31b mean h1
  obtain ⟨m, hm⟩ : ∃ m, mean % 2147483648 = m := ⟨_, rfl⟩
  rw [hm] at a1
  have hm' : m < 2147483648 := by omega
  clear hm
  have hn0 := row_ne (tabk_size 0)
  have hi2 : (i : Int) < 256 := by omega
  obtain ⟨k, hk⟩ : ∃ k, 256 - i = k := ⟨_, rfl⟩
  have f1 : (256 : Int) - (i : Int) = (k : Int) := by omega
  have hk4 : k < 4294967296 := by omega
  have hle : lg k ≤ 524288 := lg_le ⟨k, by omega⟩
  obtain ⟨r, hr⟩ : ∃ r, 524288 - lg k = r := ⟨_, rfl⟩
  have f2 : (524288 : Int) - (lg k : Int) = (r : Int) := by omega
  have hr' : r ≤ 524288 := by omega
  have hat : r * 45426 / 65536 = atv i := by unfold atv; rw [hk, hr]
  have ha := atv_le i
  obtain ⟨t, ht⟩ : ∃ t, atv i = t := ⟨_, rfl⟩
  rw [ht] at hat ha
  have f3 : (r : Int) * 45426 / 65536 = (t : Int) := by omega
  have HT := Lib.hid ht
  clear hk hr hat
  obtain ⟨u, hu⟩ : ∃ u, i * 72057594037927936 = u := ⟨_, rfl⟩
  have e2 : (i : Int) * 72057594037927936 = (u : Int) := by omega
  have hu' : u < 18446744073709551616 := by omega
  obtain ⟨c0, hc0⟩ : ∃ c, low * 256 % 18446744073709551616 = c := ⟨_, rfl⟩
  have e3 : IntKind.u64.wrap ((low : Int) * 256) = (c0 : Int) := by rw [IntKind.wrap_u64]; omega
  obtain ⟨c, hc⟩ : ∃ c, c0 / 256 = c := ⟨_, rfl⟩
  have e4 : (c0 : Int) / 256 = (c : Int) := by omega
  have hc' : c < 72057594037927936 := by omega
  obtain ⟨s, hs⟩ : ∃ s, u + c = s := ⟨_, rfl⟩
  have hs' : s < 18446744073709551616 := by omega
  have e5 : bits .or .u64 (u : Int) (c : Int) = (s : Int) := by
    have e := or_low i c hc'
    rw [hu, hs] at e
    rw [bits_or_nat .u64 wrapn_u64 u c (lt64 hu') (lt64 (by omega)), e]
  have hsi : s / 72057594037927936 = i := by omega
  have htm : t * m ≤ 363408 * 2147483648 := Nat.mul_le_mul ha (by omega)
  have m0 : (t : Int) * (m : Int) = ((t * m : Nat) : Int) := by simp
  have hd : drawv s m 4294967295 = min (t * m / 65536) 4294967295 := by unfold drawv; rw [hsi, ht]
  generalize t * m = z at m0 htm hd
  obtain ⟨v, hv⟩ : ∃ v, z / 65536 = v := ⟨_, rfl⟩
  have f4 : (z : Int) / 65536 = (v : Int) := by omega
  rw [hv] at hd
  have hmn : ∀ (P : Program) (w : World) (ts : Array TypeId) (t : TypeId), (Builtin.min_ ts t #[.int .u64 (v : Int), .int .u64 4294967295]).run P w = .ok (.int .u64 ((min v 4294967295 : Nat) : Int)) w := fun P w ts t => run_min_nat w ts t .u64 .u64 v 4294967295
  obtain ⟨d, hdd⟩ : ∃ d, min v 4294967295 = d := ⟨_, rfl⟩
  rw [hdd] at hmn hd
  have hd4 : d < 4294967296 := by omega
  have HD := Lib.hid hd
  clear hd hdd hv hu hc0 hc hs hsi hc' hu' ht
  go_enter Try.func8, Try.ntmps8
  go_wp2_with fail
  have ctr := shown_calls w
  with_reducible refine Calls.mono ctr ?_
  clear ctr
  rintro e w1 ⟨rfl, x1⟩
  go_wp2_with fail
  have ctr := table_calls w1
  with_reducible refine Calls.mono ctr ?_
  clear ctr
  rintro e w2 ⟨rfl, x2⟩
  have b2 := Blk.new w2 25 tab
  have y2 : Ext Non w (w2.alloc (.cells tab 25)) := (x1.transN x2).alloc _
  go_wp2_with fail
  have ctr := log2_calls (w2.alloc (.cells tab 25)) k hk4
  with_reducible refine Calls.mono ctr ?_
  clear ctr
  rintro e w3 ⟨rfl, x3⟩
  have b3 := b2.extN_ x3
  have c3 := tab_at b3 h0 HT.out
  go_wp2_with fail
  have ctr := draw_at w3 (s : Int) (m : Int) 4294967295 s m 4294967295 rfl rfl rfl hs' (by omega) (by decide) d HD.out
  with_reducible refine Calls.mono ctr ?_
  clear ctr
  rintro e w4 ⟨rfl, x4⟩
  go_wp2_with fail
  go_ret
  exact ⟨rfl, ((y2.transN x3).transN x4).belowN⟩
end Go.Proofs.Ythdahfogjdpefaa
