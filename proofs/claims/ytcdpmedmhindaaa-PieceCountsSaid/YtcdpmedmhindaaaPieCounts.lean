/- The law PieceCounts: a message has as few pieces as may be. -/
import Derived.Test.YtcdpmedmhindaaaPieV
namespace Go.Proofs.Ytcdpmedmhindaaa
open Go.RowKit

theorem pce_rep (n : Nat) (c : UInt8) (i : Nat) : pce (List.replicate n c) i = List.replicate (min 244 (n - 244 * i)) c := by
  unfold pce
  rw [List.drop_replicate, List.take_replicate]
theorem take_set_rep {l : List UInt8} {k : Nat} {c : UInt8} (h : l.take k = List.replicate k c) (hk : k < l.length) : (l.set k c).take (k + 1) = List.replicate (k + 1) c := by
  rw [List.take_add_one, List.take_set_of_le (Nat.le_refl k), h, List.getElem?_set_self hk, List.replicate_succ']
  rfl
set_option maxRecDepth 100000 in
set_option maxHeartbeats 4000000 in
theorem counts_walk (x0 : Int) (b0 : Int) (h0 : 0 ≤ b0) (h1 : b0 < 256) (w : World) :
    Calls Try.prog 6 #[.int .i64 x0, .int .u8 b0] w fun e w' => e = .returned (.bool true) ∧ Below w.heap.size w w' := by
  obtain ⟨bb, hb0⟩ : ∃ bb : UInt8, b0 = (bb.toNat : Int) := by
    exact ⟨UInt8.ofNat b0.toNat, by simp; omega⟩
  subst hb0
  clear h0 h1
  obtain ⟨m0, hm0, hm0a⟩ := and16_at x0
  obtain ⟨n, hn⟩ : ∃ n, m0 % 4097 = n := ⟨_, rfl⟩
  have en : (m0 : Int).tmod 4097 = (n : Int) := by rw [← hn]; rfl
  have en' : (m0 : Int) % 4097 = (n : Int) := by omega
  have hn1 : n ≤ 4096 := by omega
  have i0 : (0 : Int) ≤ (n : Int) := by omega
  have i1 : (n : Int) ≤ 4096 := by omega
  have i2 : (n : Int) ≤ 70368744177664 := by omega
  have tn : (n : Int).toNat = n := rfl
  clear hn
  go_enter Try.func6, Try.ntmps6
  go_wp2_with fail
  have ctr := shown_calls w
  with_reducible refine Calls.mono ctr ?_
  clear ctr
  rintro e w1 ⟨rfl, X1⟩
  have O1 := own_zeros w1 w.heap.size X1.size n (by omega)
  have X2 : Ext Non w (w1.alloc (.cells (zrow n) 5)) := X1.alloc _
  go_wp2_with fail
  clear hm0 en en' hm0a tn i2
  generalize some (⟨w1.heap.size, 0, none⟩ : Addr) = A at O1 ⊢
  generalize w1.alloc (.cells (zrow n) 5) = w2 at *
  go_loopw [7] (fun i wr => ∃ (k : Nat) (l : List UInt8), k ≤ n ∧ i = .int .i64 k ∧ l.length = n ∧ l.take k = List.replicate k bb ∧ OwB wr w.heap.size A n l ∧ Ext Non w wr) (fun i _ => n - (intOf i).toNat)
  case atStart => exact ⟨0, _, by omega, rfl, zeros_length n, rfl, O1, X2⟩
  case round =>
    clear O1 X1 X2
    obtain ⟨k, l, hk, rfl, hl, hr, o, X⟩ := hrel
    by_cases hkn : k < n
    · obtain ⟨hA, ⟨u, hc⟩, hf, o', x'⟩ := o.set_ (j := k) (by omega) bb _ rfl
      have X' := X.trans x' (fun i hi he => by have := (o.lt he).1; omega)
      have ikn : (k : Int) < (n : Int) := by omega
      have hr' := take_set_rep hr (by omega)
      clear X hr
      go_wp2_with fail
      exact ⟨⟨k + 1, l.set k bb, by omega, by go_num, by simpa using hl, hr', o', X'⟩, by simp [intOf]; omega⟩
    · obtain rfl : n = k := by omega
      rw [← hl, List.take_length, hl] at hr
      clear hk hkn hl
      obtain ⟨N, hN⟩ : ∃ N, cnt l = N := ⟨_, rfl⟩
      go_wp2_with fail
      have hl : l.length = n := by rw [hr, List.length_replicate]
      have HR := Lib.hid hr
      clear hr
      have ctr := split_x (m := l) n n 1 2 3 o.rd (fun k hk => (o.lt hk).2) hl (by omega) (Nat.le_refl _) (by simp only [maxLen]; omega) (by decide) (by decide) (by decide) rfl rfl rfl N hN
      with_reducible refine Calls.mono ctr ?_
      clear ctr
      rintro e w3 ⟨A3, c3, rfl, O3, x3⟩
      have X3 := X.transN x3
      have hN2 : max ((n + 243) / 244) 1 = N := by rw [← hN, cnt, hl]
      have hmax : (if ((n : Int) + 243) / 244 < 1 then (1 : Int) else ((n : Int) + 243) / 244) = (N : Int) := by
        rw [← hN2]
        split <;> omega
      go_wp2_with fail
      clear hmax x3 X o
      obtain ⟨bs, hbs⟩ : ∃ q, wr.heap.size = q := ⟨_, rfl⟩
      rw [hbs] at O3
      clear hbs
      have cf := cnt_facts l (by omega)
      rw [hN, hl] at cf
      obtain ⟨cf1, cf2, cf3, cf4⟩ := cf
      go_loopw [10, 11] (fun al i ws => ∃ k : Nat, k ≤ N ∧ al = .int .i64 ((min (244 * k) n : Nat) : Int) ∧ i = .int .i64 k ∧ OwA ws bs A3 c3 (pcbs 1 2 3 l N) ∧ Ext Non w ws) (fun al i _ => N - (intOf i).toNat)
      case atStart => exact ⟨0, by omega, by simp, rfl, O3, X3⟩
      case round =>
        clear O3 X3
        obtain ⟨k, hk, rfl, rfl, O, X⟩ := hrel
        by_cases hkN : k < N
        · have ikN : (k : Int) < (N : Int) := by omega
          obtain ⟨hA, ld⟩ := O.load k (by rw [pcbs_len]; exact hkN)
          rw [pcbs_get] at ld
          obtain ⟨q, hq⟩ : ∃ q, min 244 (n - 244 * k) = q := ⟨_, rfl⟩
          have hp : pce l k = List.replicate q bb := by rw [HR.out, pce_rep, hq]
          have hpl : (pce l k).length = q := by rw [hp, List.length_replicate]
          have hsum : min (244 * k) n + q = min (244 * (k + 1)) n := by omega
          obtain ⟨al, hal⟩ : ∃ al, min (244 * k) n = al := ⟨_, rfl⟩
          have hall : al ≤ 4096 := by omega
          rw [hal] at hsum ⊢
          go_wp2_with fail
          have ctr := parse_mpc wr 1 2 3 (by decide) (by decide) (by decide) (m := l) (by omega) k (by rw [hN]; exact hkN) rfl rfl rfl q N hpl hN
          with_reducible refine Calls.mono ctr ?_
          clear ctr
          rintro e w4 ⟨A4, c4, rfl, O4, x4⟩
          have Bp := Blk.new w4 45 #[.int .i64 1, .int .u32 1, .int .u16 2, .int .u16 3, .int .i64 (k : Int), .int .i64 (N : Int), .slice A4 q c4]
          have Y5 := (Ext.refl Non w4).alloc (.cells #[.int .i64 1, .int .u32 1, .int .u16 2, .int .u16 3, .int .i64 (k : Int), .int .i64 (N : Int), .slice A4 q c4] 45)
          have O5 := O4.extN Y5
          have P5 := (O.extN x4).extN Y5
          have X5 := (X.transN x4).transN Y5
          obtain ⟨a0, a1, a2, a3, a4, a5, a6⟩ := pc_cellsR Bp
          have cb : ∀ t, t < q → A4.isSome = true ∧ (w4.alloc (.cells #[.int .i64 1, .int .u32 1, .int .u16 2, .int .u16 3, .int .i64 (k : Int), .int .i64 (N : Int), .slice A4 q c4] 45)).cell? ((A4.getD default).add t) = some (.int .u8 (bb.toNat : Int)) := fun t ht =>
            O5.rd.ix (by rw [hp]; simp [bvs, bv, ht])
          clear O4 O O5 x4 Y5 X Bp ld
          rcases (show (N : Int) - 1 ≤ (k : Int) ∨ ((k : Int) < (N : Int) - 1 ∧ ((q : Int) != 244) = false) from by
            by_cases hkl : (N : Int) - 1 ≤ (k : Int)
            · exact .inl hkl
            · have : q = 244 := by omega
              subst this
              exact .inr ⟨by omega, rfl⟩) with hkl | ⟨hkl, hq4⟩
          all_goals
            go_wp2_with fail
            clear a0 a1 a2 a3 a4 a5
            generalize w4.alloc (.cells #[.int .i64 1, .int .u32 1, .int .u16 2, .int .u16 3, .int .i64 (k : Int), .int .i64 (N : Int), .slice A4 q c4] 45) = w5 at *
            generalize w4.heap.size = gp at *
            go_loopw [14] (fun i wr => ∃ t : Nat, t ≤ q ∧ i = .int .i64 t ∧ Ext Non w5 wr) (fun i _ => q - (intOf i).toNat)
            case atStart => exact ⟨0, by omega, rfl, Ext.refl _ _⟩
            case round =>
              obtain ⟨t, ht, rfl, X⟩ := hrel
              by_cases htq : t < q
              · have itq : (t : Int) < (q : Int) := by omega
                have ct := X.cell (cb t htq).2 (fun h => h)
                have hA4 := (cb t htq).1
                have c6 := X.cell a6 (fun h => h)
                clear cb a6
                go_wp2_with fail
                exact ⟨⟨t + 1, by omega, by go_num, X⟩, by simp [intOf]; omega⟩
              · obtain rfl : q = t := by omega
                have c6 := X.cell a6 (fun h => h)
                clear cb a6
                go_wp2_with fail
                exact ⟨⟨k + 1, by omega, by go_num, by go_num, P5.extN X, X5.transN X⟩, by simp [intOf]; omega⟩
        · obtain rfl : N = k := by omega
          have hall : min (244 * N) n = n := by omega
          rw [hall]
          have X6 := X.alloc (.cells (zrow 4097) 5)
          go_wp2_with fail
          have ctr := split_full (wr.alloc (.cells (zrow 4097) 5)) (some ⟨wr.heap.size, 0, none⟩) 4097 4097 1 2 3 (by decide)
          with_reducible refine Calls.mono ctr ?_
          clear ctr
          rintro e w7 ⟨rfl, rfl⟩
          go_wp2_with fail
          go_ret
          exact ⟨rfl, X6.belowN⟩
end Go.Proofs.Ytcdpmedmhindaaa
