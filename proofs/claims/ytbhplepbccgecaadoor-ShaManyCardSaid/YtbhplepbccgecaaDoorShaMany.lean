/- The law ShaMany: a long row of bytes in equal steps has the sum of the whole; for any numbers. -/
import Derived.Test.YtbhplepbccgecaaDoorSha03
namespace Go.Proofs.YtbhplepbccgecaaDoor
open Go.RowKit

theorem u8_some (z : Int) : ∃ b : UInt8, (b.toNat : Int) = z % 256 :=
  ⟨UInt8.ofNat (z % 256).toNat, by simp; omega⟩
set_option maxRecDepth 100000 in
set_option maxHeartbeats 4000000 in
theorem many_walk (x0 x1 b0 b1 : Int) (w : World) (G : Glob w) (hw2 : 2 ≤ w.heap.size) :
    Calls Tryd.prog 10 #[.int .i64 x0, .int .i64 x1, .int .u8 b0, .int .u8 b1] w fun e w' => e = .returned (.bool true) ∧ Below w.heap.size w w' := by
  obtain ⟨n0, hn0, hn0a⟩ := and16_at x0
  obtain ⟨s0, hs0, hs0a⟩ := and16_at x1
  obtain ⟨n, hn⟩ : ∃ n, n = n0 % 20001 := ⟨_, rfl⟩
  obtain ⟨s, hs⟩ : ∃ s, s = 1 + s0 % 500 := ⟨_, rfl⟩
  have hn1 : n ≤ 20000 := by omega
  have hs1 : 1 ≤ s := by omega
  have hs2 : s ≤ 500 := by omega
  have en : (n0 : Int).tmod 20001 = (n : Int) := by rw [hn]; rfl
  have es : (s0 : Int).tmod 500 = ((s0 % 500 : Nat) : Int) := rfl
  have es2 : (1 : Int) + (s0 : Int) % 500 = (s : Int) := by omega
  have i0 : (0 : Int) ≤ (n : Int) := by omega
  have i1 : (n : Int) ≤ 70368744177664 := by omega
  have tn : (n : Int).toNat = n := rfl
  clear hn hs
  have z1 := strm0_ne
  have z2 := zrow32_ne
  go_enter Tryd.func10, Tryd.ntmps10
  go_wp2_with fail
  have ctr := shown_calls G hw2
  with_reducible refine Calls.mono ctr ?_
  clear ctr
  rintro e w1 ⟨rfl, x1⟩
  go_wp2_with fail
  have O1 := own_zeros w1 w.heap.size x1.size n (by omega)
  have X1 : Ext Non w (w1.alloc (.cells (zrow n) 5)) := x1.alloc _
  have h1 := x1.size
  generalize some (⟨w1.heap.size, 0, none⟩ : Addr) = A at O1 ⊢
  go_loopw [11] (fun i wr => ∃ (k : Nat) (l : List UInt8), k ≤ n ∧ i = .int .i64 k ∧ l.length = n ∧ OwB wr w.heap.size A n l ∧ Ext Non w wr) (fun i _ => n - (intOf i).toNat)
  case atStart => exact ⟨0, _, by omega, rfl, zeros_length n, O1, X1⟩
  case round =>
    clear O1 X1 x1
    obtain ⟨k, l, hk, rfl, hl, o, X⟩ := hrel
    by_cases hkn : k < n
    · obtain ⟨b, hb⟩ := u8_some (b0 + b1 * ((k : Int) % 251))
      obtain ⟨hA, ⟨u, hc⟩, hf, o', x'⟩ := o.set_ (j := k) (by omega) b _ hb
      have X' := X.trans x' (fun i hi he => by have := (o.lt he).1; omega)
      clear hb X
      go_wp2_with fail
      exact ⟨⟨k + 1, l.set k b, by omega, by go_num, by simpa using hl, o', X'⟩, by simp [intOf]; omega⟩
    · obtain rfl : n = k := by omega
      have S1 := strm_new wr
      have oA : ∀ i, ob A = some i → w.heap.size ≤ i ∧ i < wr.heap.size := fun i hi => o.lt hi
      have O2 := o.extN ((Ext.refl Non wr).alloc (.cells strm0 34))
      have X2 : Ext Non w (wr.alloc (.cells strm0 34)) := X.alloc _
      have hp := X.size
      clear o X
      go_wp2_with fail
      generalize wr.heap.size = p at S1 oA hp O2 X2 ⊢
      go_loopw [13] (fun i wr => ∃ j : Nat, j < n + 500 ∧ i = .int .i64 j ∧ Strm wr p (l.take j) ∧ OwB wr w.heap.size A n l ∧ Ext Non w wr) (fun i _ => n + 500 - (intOf i).toNat)
      case atStart => exact ⟨0, by omega, rfl, S1, O2, X2⟩
      case round =>
        clear S1 O2 X2
        obtain ⟨j, hj, rfl, S, o, X⟩ := hrel
        have Gw := G.extN X
        have hwr := X.size
        by_cases hjn : j < n
        · obtain ⟨m, hm, hm1, hm2, hm3⟩ : ∃ m : Nat, (if (n : Int) < (j : Int) + (s : Int) then (n : Int) else (j : Int) + (s : Int)) = (m : Int) ∧ j < m ∧ m ≤ n ∧ (m = n ∨ m = j + s) := by
            by_cases h : (n : Int) < (j : Int) + (s : Int)
            · exact ⟨n, by rw [if_pos h], by omega, by omega, .inl rfl⟩
            · exact ⟨j + s, by rw [if_neg h]; omega, by omega, by omega, .inr rfl⟩
          have j1 : (j : Int) < (n : Int) := by omega
          have j2 : (j : Int) ≤ (m : Int) := by omega
          have j3 : (m : Int) ≤ (n : Int) := by omega
          have rr : Rd wr (fun k => ob A = some k) (cut A j n) (bvs ((l.drop j).take (m - j))) := by
            have := (o.rd.cut (k := j) (cap := n) (by rw [bvs_length]; omega)).take (m - j)
            simpa [bvs] using this
          have ll : ((l.drop j).take (m - j)).length = m - j := by simp; omega
          have ec : cut A j n = A.map (fun x => x.add j) := if_neg (by omega)
          rw [ec] at rr
          have et : l.take j ++ (l.drop j).take (m - j) = l.take (j + s) := by
            rw [← List.take_add, show j + (m - j) = m from by omega]
            rcases hm3 with h | h
            · rw [List.take_of_length_le (by omega), List.take_of_length_le (by omega)]
            · rw [h]
          have ET := Lib.hid et
          have hlen : (l.take j).length + ((l.drop j).take (m - j)).length ≤ 1125899906842624 := by simp; omega
          have hpA : ¬ ob A = some p := fun h => by have := oA p h; omega
          clear et ec
          go_wp2_with fail
          have ctr := write_calls S Gw (by omega) (n - j) (m - j) rr ll (by omega) hpA hlen
          with_reducible refine Calls.mono ctr ?_
          clear ctr
          rintro e w4 ⟨⟨v1, rfl⟩, S4, x4⟩
          have X4 : Ext Non w w4 := X.trans x4 (fun i hi h => by have h : i = p := h; omega)
          have o4 := o.ext x4 (fun k hk h => hpA (by have h : k = p := h; rw [← h]; exact hk))
          rw [ET.out] at S4
          go_wp2_with fail
          exact ⟨⟨j + s, by omega, by go_num, S4.strm, o4, X4⟩, by simp [intOf]; omega⟩
        · rw [List.take_of_length_le (by omega)] at S
          have pA : ∀ q ∈ ([⟨A, n, l⟩] : List Part), Rd wr (· < wr.heap.size) q.a (bvs q.l) ∧ q.l.length ≤ q.c := fun q hq => by
            simp only [List.mem_cons, List.not_mem_nil, or_false] at hq
            subst hq
            exact ⟨o.rd.imp (fun k hk _ => hk), by show l.length ≤ n; omega⟩
          have V : Hid ((([⟨A, n, l⟩] : List Part).map Part.val).toArray = #[.slice A n n]) := by
            show _ = _
            simp [Part.val, hl]
          have E : Hid (allOf [⟨A, n, l⟩] = l) := by show _ = _; simp [allOf]
          have hll : l.length ≤ 562949953421312 := by omega
          have HL := Lib.hid hl
          clear hl
          go_wp2_with fail
          have ctr := ssum_calls S Gw (by omega) hll
          with_reducible refine Calls.mono ctr ?_
          clear ctr
          rintro e w4 ⟨rfl, x4⟩
          go_wp2_with fail
          have ctr := sumN_calls x4 Gw (by omega) [⟨A, n, l⟩] pA 1 rfl (by rw [E.out]; exact hll) (by decide) #[.slice A n n] V.out (Ext.refl Non _) l E.out
          with_reducible refine Calls.mono ctr ?_
          clear ctr
          rintro e w5 ⟨rfl, x5⟩
          have X5 : Ext Non w w5 := ((X.transN x4).alloc _).transN x5
          go_wp2_with fail
          all_goals go_ret
          all_goals exact ⟨rfl, X5.belowN⟩
end Go.Proofs.YtbhplepbccgecaaDoor
