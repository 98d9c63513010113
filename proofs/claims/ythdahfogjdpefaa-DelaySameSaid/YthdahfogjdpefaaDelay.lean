/- Package delay (layer 6): what its functions hand back. -/
import Derived.Test.YthdahfogjdpefaaRow
import Derived.Test.YthdahfogjdpefaaLog
namespace Go.Proofs.Ythdahfogjdpefaa
open Go.RowKit

/-- A place of the table. -/
def atv (i : Nat) : Nat := (524288 - lg (256 - i)) * 45426 / 65536
theorem lg_le : ∀ m : Fin 257, lg m.val ≤ 524288 := by decide +kernel
theorem atv_le (i : Nat) : atv i ≤ 363408 := by unfold atv; omega
/-- What is drawn. -/
def drawv (word mean most : Nat) : Nat := min (atv (word / 72057594037927936) * mean / 65536) most

set_option maxRecDepth 10000 in
theorem at_calls (w : World) (i : Nat) (hi : i ≤ 255) :
    Calls Try.prog 16 #[.int .u32 i] w fun e w' => e = .returned (.int .u32 (atv i : Nat)) ∧ Ext Non w w' := by
  obtain ⟨m, hm⟩ : ∃ m, 256 - i = m := ⟨_, rfl⟩
  have e1 : (256 : Int) - (i : Int) = (m : Int) := by omega
  have hle : lg m ≤ 524288 := lg_le ⟨m, by omega⟩
  have hav : atv i = (524288 - lg m) * 45426 / 65536 := by unfold atv; rw [hm]
  have HAV := Lib.hid hav
  have hm4 : m < 4294967296 := by omega
  clear hav hm
  go_enter Try.func16, Try.ntmps16
  go_wp2_with fail
  have ctr := log2_calls w m hm4
  with_reducible refine Calls.mono ctr ?_
  clear ctr
  rintro e w1 ⟨rfl, x1⟩
  obtain ⟨q, hq⟩ : ∃ q, 524288 - lg m = q := ⟨_, rfl⟩
  have e2 : (524288 : Int) - (lg m : Int) = (q : Int) := by omega
  have hq' : q ≤ 524288 := by omega
  rw [← hq] at hq'
  have HQ := Lib.hid hq
  rw [hq] at hq'
  clear hq
  generalize lg m = l at e2 hle ⊢
  obtain ⟨r, hr⟩ : ∃ r, q * 45426 / 65536 = r := ⟨_, rfl⟩
  have e3 : (q : Int) * 45426 / 65536 = (r : Int) := by omega
  have hr' : r ≤ 363408 := by omega
  have HR := Lib.hid hr
  clear hr
  go_wp2_with fail
  go_ret
  exact ⟨by rw [HAV.out, HQ.out, HR.out]; rfl, x1⟩

set_option maxRecDepth 10000 in
theorem draw_calls (w : World) (word mean most : Nat) (h1 : word < 18446744073709551616) (h2 : mean < 4294967296) (h3 : most < 4294967296) :
    Calls Try.prog 14 #[.int .u64 word, .int .u32 mean, .int .u32 most] w fun e w' => e = .returned (.int .u32 (drawv word mean most : Nat)) ∧ Ext Non w w' := by
  obtain ⟨i, hi⟩ : ∃ i, word / 72057594037927936 = i := ⟨_, rfl⟩
  have e1 : (word : Int) / 72057594037927936 = (i : Int) := by omega
  have hi' : i ≤ 255 := by omega
  have hd : drawv word mean most = min (atv i * mean / 65536) most := by unfold drawv; rw [hi]
  have HD := Lib.hid hd
  clear hd hi
  go_enter Try.func14, Try.ntmps14
  go_wp2_with fail
  have ctr := at_calls w i hi'
  with_reducible refine Calls.mono ctr ?_
  clear ctr
  rintro e w1 ⟨rfl, x1⟩
  have ha := atv_le i
  generalize atv i = a at *
  have hp : a * mean ≤ 363408 * 4294967295 := Nat.mul_le_mul ha (by omega)
  have m0 : (a : Int) * (mean : Int) = ((a * mean : Nat) : Int) := by simp
  have m1 : IntKind.u64.wrap ((a : Int) * (mean : Int)) = ((a * mean : Nat) : Int) := by rw [m0, IntKind.wrap_u64]; omega
  obtain ⟨q, hq⟩ : ∃ q, a * mean / 65536 = q := ⟨_, rfl⟩
  have m2 : ((a * mean : Nat) : Int) / 65536 = (q : Int) := by omega
  rw [hq] at HD
  have hq' : q ≤ 18446744073709551615 := by omega
  clear m0 hp hq
  generalize a * mean = z at *
  go_wp2_with fail
  go_ret
  exact ⟨by rw [HD.out] <;> rfl, x1⟩

/-! ### The table -/
def u32v (n : Nat) : Value := .int .u32 (n : Int)
def tab : Array Value := rowf 256 fun i => u32v (atv i)
def tabk (k : Nat) : Array Value := rowf 256 fun i => if i < k then u32v (atv i) else .int .u32 0
theorem tabk_zero : tabk 0 = Array.replicate 256 (.int .u32 0) := by
  have : tabk 0 = rowf 256 fun _ => .int .u32 0 := rowf_ext fun i _ => if_neg (by omega)
  rw [this, rowf_const]
@[go_sem] theorem zero_tab (w : World) : (zeroValue 25).run Try.prog w = .ok (.agg (tabk 0)) w := by
  rw [tabk_zero]
  exact (zero_of_info (P := Try.prog) (t := 25) (n := 256) (by kernel_rfl)).1 w
@[go_sem ↓] theorem big_load_tab (x : Value) : Instr.loadAt 25 x = bigLoad 25 x := rfl
@[go_sem ↓] theorem big_store_tab (x v : Value) : Instr.storeAt 25 x v = bigStore 25 x v := rfl
theorem tab_info (cs : Array Value) (h : cs.size = 256) : (Try.prog.info? 25).map (·.size) = some cs.size := by rw [h]; kernel_rfl
theorem tabk_last : tabk 256 = tab := rowf_ext fun _ hi => if_pos hi
theorem tabk_step {k : Nat} : (tabk k).setIfInBounds k (.int .u32 (atv k : Nat)) = tabk (k + 1) := by
  unfold tabk
  rw [rowf_set]
  refine rowf_ext fun i _ => ?_
  by_cases h : i = k
  · subst h; rw [if_pos rfl, if_pos (by omega)]; rfl
  · rw [if_neg h]
    by_cases h2 : i < k
    · rw [if_pos h2, if_pos (by omega)]
    · rw [if_neg h2, if_neg (by omega)]
theorem tab_get {i : Nat} (h : i < 256) : tab[i]? = some (.int .u32 (atv i : Nat)) := rowf_get h
theorem tabk_get {k i : Nat} (h : i < 256) : ∃ v, (tabk k)[i]? = some v := ⟨_, rowf_get h⟩
theorem tab_size : tab.size = 256 := rowf_size _ _
theorem tabk_size (k : Nat) : (tabk k).size = 256 := rowf_size _ _
theorem tab_all : tab.all (·.oneCell') = true := rowf_all fun _ => rfl
theorem tab_ne : tab ≠ #[] := row_ne tab_size

set_option maxRecDepth 100000 in
theorem table_calls (w : World) :
    Calls Try.prog 10 #[] w fun e w' => e = .returned (.agg tab) ∧ Ext Non w w' := by
  have hn0 := row_ne (tabk_size 0)
  go_enter Try.func10, Try.ntmps10
  go_wp2_with fail
  go_loopw [2] (fun i wr => ∃ k : Nat, k ≤ 256 ∧ i = .int .i64 k ∧ Blk wr w.heap.size 25 (tabk k) ∧ Ext Non w wr) (fun i _ => 256 - (intOf i).toNat)
  case atStart => exact ⟨0, by omega, rfl, Blk.new _ _ _, (Ext.refl _ _).alloc _⟩
  case round =>
    clear hn0
    obtain ⟨k, hk, rfl, hb, hx⟩ := hrel
    by_cases hlt : k < 256
    · go_wp2_with fail
      have ctr := at_calls wr k (by omega)
      with_reducible refine Calls.mono ctr ?_
      clear ctr
      rintro e w1 ⟨rfl, x1⟩
      have hb1 := hb.extN_ x1
      have hc1 := hb1.cell k
      have hf1 := hb1.frozen k
      obtain ⟨v, hv⟩ := tabk_get (k := k) hlt
      rw [hv] at hc1
      clear hv
      have hb2 := hb1.set_ k (.int .u32 (atv k : Nat))
      rw [tabk_step] at hb2
      have x2 : Ext Non w (w1.setCell ⟨w.heap.size, k, none⟩ (.int .u32 (atv k : Nat))) := (hx.transN x1).setCell (.inl (Nat.le_refl _)) _
      go_wp2
      exact ⟨⟨k + 1, by omega, by go_num, hb2, x2⟩, by simp [intOf]; omega⟩
    · obtain rfl : k = 256 := by omega
      rw [tabk_last] at hb
      have hl := hb.big_load Try.underlying25 rfl (tab_info _ tab_size)
      have hs := hb.big_store rfl (tab_info _ tab_size) tab_all
      have hb2 := hb.setRow tab
      have x2 : Ext Non w (wr.setRow w.heap.size tab) := hx.setRow (.inl (Nat.le_refl _)) tab
      go_wp2
      exact bodyPost_ret (hb2.results Try.results10 _ rfl Try.underlying25 rfl (tab_info _ tab_size)) rfl ⟨rfl, x2⟩

/-- The table in a variable of its own. -/
@[go_sem] theorem store_tab (w : World) : (bigStore 25 (.pointer (some ⟨w.heap.size, 0, none⟩)) (.agg tab)).run Try.prog (w.alloc (.cells (tabk 0) 25)) = .ok () (w.alloc (.cells tab 25)) := by
  rw [Blk.big_store (P := Try.prog) (Blk.new w 25 (tabk 0)) (by rw [tab_size, tabk_size]) (tab_info _ tab_size) tab_all, World.setRow_alloc_new]

/-! ### The document's answer -/
theorem lgk_lin (p x : Nat) : ∀ k, lgk p x k = p * 2 ^ k + lgk 0 x k
  | 0 => by simp [lgk]
  | k + 1 => by
    have ih := lgk_lin p x k
    show 2 * lgk p x k + ybit (xs x k) = p * 2 ^ (k + 1) + (2 * lgk 0 x k + ybit (xs x k))
    rw [ih, Nat.pow_succ, ← Nat.mul_assoc]
    omega
theorem lg_parts (n p : Nat) (hn : n < 4294967296) (h1 : 2 ^ p ≤ n) (h2 : n < 2 ^ (p + 1)) : p ≤ 31 ∧ 2147483648 ≤ n * 2 ^ (31 - p) ∧ n * 2 ^ (31 - p) < 4294967296 ∧ lg n = p * 65536 + lgk 0 (n * 2 ^ (31 - p)) 16 := by
  have hp : 0 < 2 ^ p := Nat.two_pow_pos p
  have hb := bitLen_bounds _ n (Lib.bitLen_le n 32 (by omega) (by omega)) rfl (by omega) hn
  have hb2 := Lib.bitLen_le n 32 (by omega) (by omega)
  have hbp : Lib.bitLen n = p + 1 := by
    rcases Nat.lt_trichotomy (Lib.bitLen n) (p + 1) with h | h | h
    · have : 2 ^ Lib.bitLen n ≤ 2 ^ p := Nat.pow_le_pow_right (by omega) (by omega)
      omega
    · exact h
    · have : 2 ^ (p + 1) ≤ 2 ^ (Lib.bitLen n - 1) := Nat.pow_le_pow_right (by omega) (by omega)
      omega
  have hp31 : p ≤ 31 := by omega
  refine ⟨hp31, ?_, ?_, ?_⟩
  · have e : (2147483648 : Nat) = 2 ^ p * 2 ^ (31 - p) := by rw [← Nat.pow_add, show p + (31 - p) = 31 from by omega]
    rw [e]
    exact Nat.mul_le_mul_right _ h1
  · have e : (4294967296 : Nat) = 2 ^ (p + 1) * 2 ^ (31 - p) := by rw [← Nat.pow_add, show p + 1 + (31 - p) = 32 from by omega]
    rw [e]
    exact Nat.mul_lt_mul_of_pos_right h2 (Nat.two_pow_pos _)
  · unfold lg
    rw [if_neg (by omega), hbp, show 32 - (p + 1) = 31 - p from by omega, show p + 1 - 1 = p from rfl, lgk_lin]
theorem place_of (n : Nat) (h : 0 < n) : ∃ p, 2 ^ p ≤ n ∧ n < 2 ^ (p + 1) := ⟨Nat.log2 n, Nat.log2_self_le (by omega), Nat.lt_log2_self⟩

set_option maxRecDepth 100000 in
set_option maxHeartbeats 1000000 in
theorem rlog2_calls (w : World) (n : Nat) (hn : n < 4294967296) :
    Calls Try.prog 12 #[.int .u32 n] w fun e w' => e = .returned (.int .u32 (lg n : Nat)) ∧ w = w' := by
  by_cases h0 : n = 0
  · subst h0
    go_enter Try.func12, Try.ntmps12
    go_wp2
    go_ret
    exact ⟨rfl, rfl⟩
  obtain ⟨p, hp1, hp2⟩ := place_of n (by omega)
  obtain ⟨hp31, hx1, hx2, hlg⟩ := lg_parts n p hn hp1 hp2
  have HLG := Lib.hid hlg
  clear hlg
  have h0' : ((n : Int) == 0) = false := beq_eq_false_iff_ne.2 (by omega)
  go_enter Try.func12, Try.ntmps12
  go_wp2_with fail
  go_loop [3, 4] (fun a m => ∃ j : Nat, j ≤ p ∧ a = .int .u32 j ∧ m = .int .u32 (n / 2 ^ j : Nat)) (fun a _ => p - (intOf a).toNat)
  case atStart => exact ⟨0, by omega, rfl, by simp⟩
  case round =>
    obtain ⟨j, hj, rfl, rfl⟩ := hrel
    by_cases hlt : j < p
    · have hge : 2 ≤ n / 2 ^ j := by
        rw [Nat.le_div_iff_mul_le (Nat.two_pow_pos j)]
        refine Nat.le_trans ?_ hp1
        rw [Nat.mul_comm, ← Nat.pow_succ]
        exact Nat.pow_le_pow_right (by omega) (by omega)
      have hle : n / 2 ^ j ≤ n := Nat.div_le_self _ _
      have hd : n / 2 ^ (j + 1) = n / 2 ^ j / 2 := by rw [Nat.div_div_eq_div_mul, Nat.pow_succ]
      have HD := Lib.hid hd
      clear hd
      generalize n / 2 ^ j = m at hge hle HD ⊢
      obtain ⟨m2, hm2⟩ : ∃ m2, m / 2 = m2 := ⟨_, rfl⟩
      have e1 : (m : Int) / 2 = (m2 : Int) := by omega
      have HM := Lib.hid hm2
      clear hm2
      go_wp2
      exact ⟨⟨j + 1, by omega, by go_num, by rw [HD.out, HM.out] <;> rfl⟩, by simp [intOf]; omega⟩
    · obtain rfl : j = p := by omega
      have hone : n / 2 ^ j = 1 := by
        have : n / 2 ^ j < 2 := by rw [Nat.div_lt_iff_lt_mul (Nat.two_pow_pos j), Nat.mul_comm, ← Nat.pow_succ]; exact hp2
        have : 1 ≤ n / 2 ^ j := by rw [Nat.le_div_iff_mul_le (Nat.two_pow_pos j)]; omega
        omega
      rw [hone]
      clear hone
      go_wp2_with fail
      go_loop [5, 6] (fun x i => ∃ k : Nat, k ≤ 31 - j ∧ x = .int .u64 (n * 2 ^ k : Nat) ∧ i = .int .u32 ((j + k : Nat) : Int)) (fun _ i => 31 - (intOf i).toNat)
      case atStart => exact ⟨0, by omega, by simp, by simp⟩
      case round =>
        obtain ⟨k, hk, rfl, rfl⟩ := hrel
        by_cases hk31 : j + k < 31
        · have hxk : n * 2 ^ (k + 1) ≤ n * 2 ^ (31 - j) := Nat.mul_le_mul_left _ (Nat.pow_le_pow_right (by omega) (by omega))
          have hxs : n * 2 ^ (k + 1) = 2 * (n * 2 ^ k) := by rw [Nat.pow_succ, ← Nat.mul_assoc, Nat.mul_comm]
          obtain ⟨x', hx'⟩ : ∃ x', n * 2 ^ (k + 1) = x' := ⟨_, rfl⟩
          obtain ⟨x, hx⟩ : ∃ x, n * 2 ^ k = x := ⟨_, rfl⟩
          rw [hx', hx] at hxs
          rw [hx'] at hxk
          have e1 : (2 : Int) * (x : Int) = (x' : Int) := by omega
          have hxb : x' < 4294967296 := by omega
          have HX := Lib.hid hx'
          obtain ⟨q, hq⟩ : ∃ q, j + k = q := ⟨_, rfl⟩
          have HQ := Lib.hid hq
          rw [hx, hq]
          rw [hq] at hk31
          clear hx' hx hxs hxk hq
          go_wp2
          refine ⟨⟨k + 1, by have := HQ.out; omega, by rw [HX.out], by rw [← Nat.add_assoc, HQ.out] <;> rfl⟩, by simp [intOf]; omega⟩
        · obtain rfl : k = 31 - j := by omega
          obtain ⟨x0, hx0⟩ : ∃ x0, n * 2 ^ (31 - j) = x0 := ⟨_, rfl⟩
          rw [hx0] at hx1 hx2 HLG ⊢
          rw [show j + (31 - j) = 31 from by omega]
          clear hx0 hk31
          go_wp2_with fail
          go_loop [5, 7, 8] (fun x b i => ∃ k : Nat, k ≤ 16 ∧ x = .int .u64 (xs x0 k : Nat) ∧ b = .int .u32 (lgk 0 x0 k : Nat) ∧ i = .int .i64 k) (fun _ _ i => 16 - (intOf i).toNat)
          case atStart => exact ⟨0, by omega, rfl, rfl, rfl⟩
          case round =>
            obtain ⟨k, hk, rfl, rfl, rfl⟩ := hrel
            have hb := xs_bounds hx1 hx2 k
            have hl := lgk_lt 0 hx1 hx2 k
            have hl16 : 2 ^ k ≤ 2 ^ 16 := Nat.pow_le_pow_right (by omega) hk
            have hll : lgk 0 x0 k < 65536 := by omega
            by_cases hk16 : k < 16
            · have hxs : xs x0 (k + 1) = xnext (xs x0 k) := rfl
              have hls : lgk 0 x0 (k + 1) = 2 * lgk 0 x0 k + ybit (xs x0 k) := rfl
              have hxb := x_bounds hb.1 hb.2
              have hyb := ysq_bounds hb.1 hb.2
              have hyd : xs x0 k * xs x0 k / 2147483648 = ysq (xs x0 k) := rfl
              have hbd : ysq (xs x0 k) / 4294967296 = ybit (xs x0 k) := rfl
              generalize xs x0 k = x at *
              generalize lgk 0 x0 k = l at *
              have hxx : x * x < 18446744073709551616 := by
                have : x * x < 4294967296 * 4294967296 := Nat.mul_lt_mul'' hb.2 hb.2
                omega
              generalize xnext x = z at *
              generalize ysq x = y at *
              generalize ybit x = b at *
              have m0 : (x : Int) * (x : Int) = ((x * x : Nat) : Int) := by simp
              have m1 : IntKind.u64.wrap ((x : Int) * (x : Int)) = ((x * x : Nat) : Int) := by rw [m0, IntKind.wrap_u64]; omega
              have m2 : ((x * x : Nat) : Int) / 2147483648 = (y : Int) := by omega
              generalize x * x = q at *
              have HXS := Lib.hid hxs
              have HLS := Lib.hid hls
              clear hxs hls
              by_cases hy : (4294967296 : Int) ≤ (y : Int)
              · have hb1 : b = 1 := by omega
                have hz : z = y / 2 := hxb.2.2.2.2 hb1
                have e1 : (y : Int) / 2 = (z : Int) := by omega
                have HB := Lib.hid hb1
                clear hxb hyd hbd m0 hb1 hz
                go_wp2
                refine ⟨⟨k + 1, by omega, by rw [HXS.out], by rw [HLS.out, HB.out] <;> rfl, by go_num⟩, by simp [intOf]; omega⟩
              · have hb0 : b = 0 := by omega
                have hz : z = y := hxb.2.2.2.1 hb0
                have HB := Lib.hid hb0
                have HZ := Lib.hid hz
                clear hxb hyd hbd m0 hb0 hz
                go_wp2
                refine ⟨⟨k + 1, by omega, by rw [HXS.out, HZ.out], by rw [HLS.out, HB.out] <;> rfl, by go_num⟩, by simp [intOf]; omega⟩
            · obtain rfl : k = 16 := by omega
              generalize lgk 0 x0 16 = l at *
              go_wp2
              go_ret
              exact ⟨by rw [HLG.out]; simp, rfl⟩
end Go.Proofs.Ythdahfogjdpefaa
