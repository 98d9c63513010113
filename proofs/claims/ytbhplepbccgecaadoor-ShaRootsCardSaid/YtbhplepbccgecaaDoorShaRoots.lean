/- The law ShaRoots: the numbers of steps are roots of primes; a closed statement. -/
import Derived.Test.YtbhplepbccgecaaDoorSha03
import Derived.Test.YtbhplepbccgecaaDoorRef03
import Derived.Test.YtbhplepbccgecaaDoorRef03T
import Derived.Test.YtbhplepbccgecaaDoorRootW
namespace Go.Proofs.YtbhplepbccgecaaDoor
open Go.RowKit

theorem kt_at : ∀ i < 64, un (KT.getD i 0) = ktL.getD i 0 := by decide +kernel
theorem ht_at : ∀ i < 8, un (H0.getD i 0) = htL.getD i 0 := by decide +kernel
def text56 : List UInt8 := [97, 98, 99, 100, 98, 99, 100, 101, 99, 100, 101, 102, 100, 101, 102, 103, 101, 102, 103, 104, 102, 103, 104, 105, 103, 104, 105, 106, 104, 105, 106, 107, 105, 106, 107, 108, 106, 107, 108, 109, 107, 108, 109, 110, 108, 109, 110, 111, 109, 110, 111, 112, 110, 111, 112, 113]
theorem sha_56 : sha text56 = [36, 141, 106, 97, 210, 6, 56, 184, 229, 192, 38, 147, 12, 62, 96, 57, 163, 60, 228, 89, 100, 255, 33, 103, 246, 236, 237, 212, 25, 219, 6, 193] := by decide +kernel
theorem hex_56 : (hexs (sha text56) == [50, 52, 56, 100, 54, 97, 54, 49, 100, 50, 48, 54, 51, 56, 98, 56, 101, 53, 99, 48, 50, 54, 57, 51, 48, 99, 51, 101, 54, 48, 51, 57, 97, 51, 51, 99, 101, 52, 53, 57, 54, 52, 102, 102, 50, 49, 54, 55, 102, 54, 101, 99, 101, 100, 100, 52, 49, 57, 100, 98, 48, 54, 99, 49]) = true := by
  rw [sha_56]; decide
def lit56 : Array Value := #[.int .u8 97, .int .u8 98, .int .u8 99, .int .u8 100, .int .u8 98, .int .u8 99, .int .u8 100, .int .u8 101, .int .u8 99, .int .u8 100, .int .u8 101, .int .u8 102, .int .u8 100, .int .u8 101, .int .u8 102, .int .u8 103, .int .u8 101, .int .u8 102, .int .u8 103, .int .u8 104, .int .u8 102, .int .u8 103, .int .u8 104, .int .u8 105, .int .u8 103, .int .u8 104, .int .u8 105, .int .u8 106, .int .u8 104, .int .u8 105, .int .u8 106, .int .u8 107, .int .u8 105, .int .u8 106, .int .u8 107, .int .u8 108, .int .u8 106, .int .u8 107, .int .u8 108, .int .u8 109, .int .u8 107, .int .u8 108, .int .u8 109, .int .u8 110, .int .u8 108, .int .u8 109, .int .u8 110, .int .u8 111, .int .u8 109, .int .u8 110, .int .u8 111, .int .u8 112, .int .u8 110, .int .u8 111, .int .u8 112, .int .u8 113]
theorem and8 : ∀ n : Nat, n < 256 → bits .and .u8 (n : Int) 255 = (n : Int) := by decide +kernel
attribute [local irreducible] rootL
set_option maxRecDepth 100000 in
set_option maxHeartbeats 600000 in
theorem sroots_walk (v : Int) (hv0 : 0 ≤ v) (hv1 : v < 256) (w : World) (G : Glob w) (hw2 : 2 ≤ w.heap.size) :
    Calls Tryd.prog 7 #[.int .u8 v] w fun e w' => e = .returned (.bool true) ∧ Below w.heap.size w w' := by
  go_enter Tryd.func7, Tryd.ntmps7
  go_wp2_with fail
  have ctr := shown_calls G hw2
  with_reducible refine Calls.mono ctr ?_
  clear ctr
  rintro e w1 ⟨rfl, x1⟩
  go_wp2_with fail
  go_loopw [4] (fun v wr => ∃ i : Nat, i ≤ 64 ∧ v = .int .i64 i ∧ Ext Non w wr) (fun v _ => 64 - (intOf v).toNat)
  case atStart => exact ⟨0, by omega, rfl, x1⟩
  case round =>
    clear x1
    obtain ⟨i, hi, rfl, X⟩ := hrel
    by_cases h64 : i < 64
    · have i1 : (i : Int) < 64 := by omega
      obtain ⟨_, _, _, hp⟩ := prime_at i h64
      have hk := kt_at i h64
      have hr := rootK i h64
      obtain ⟨p, hpp⟩ : ∃ p, prL.getD i 0 = p := ⟨_, rfl⟩
      obtain ⟨k, hkk⟩ : ∃ k, ktL.getD i 0 = k := ⟨_, rfl⟩
      rw [hpp] at hp hr
      rw [hkk] at hk hr
      have HP := Lib.hid hpp
      have HK := Lib.hid hk
      have HR := Lib.hid hr
      clear hpp hk hr hkk
      go_wp2_with fail
      have ctr := prime_calls wr i h64
      with_reducible refine Calls.mono ctr ?_
      clear ctr
      rintro e w2 ⟨rfl, x2⟩
      rw [HP.out]
      go_wp2_with fail
      have ctr := refK_calls w2 i h64
      with_reducible refine Calls.mono ctr ?_
      clear ctr
      rintro e w3 ⟨rfl, x3⟩
      rw [HK.out]
      go_wp2_with fail
      have ctr := root_true w3 p (by omega)
      with_reducible refine Calls.mono ctr ?_
      clear ctr
      rintro e w4 ⟨rfl, x4⟩
      rw [HR.out]
      by_cases h8 : i < 8
      · have i8 : (i : Int) < 8 := by omega
        have hh := ht_at i h8
        have hr := rootH i h8
        rw [HP.out] at hr
        obtain ⟨h, hhh⟩ : ∃ k, htL.getD i 0 = k := ⟨_, rfl⟩
        rw [hhh] at hh hr
        have HH := Lib.hid hh
        have HR8 := Lib.hid hr
        clear hhh hh hr
        go_wp2_with fail
        have ctr := refH_calls w4 i h8
        with_reducible refine Calls.mono ctr ?_
        clear ctr
        rintro e w5 ⟨rfl, x5⟩
        rw [HH.out]
        go_wp2_with fail
        have ctr := root_false w5 p (by omega)
        with_reducible refine Calls.mono ctr ?_
        clear ctr
        rintro e w6 ⟨rfl, x6⟩
        rw [HR8.out]
        go_wp2_with fail
        exact ⟨⟨i + 1, by omega, by go_num, ((((X.transN x2).transN x3).transN x4).transN x5).transN x6⟩, by simp [intOf]; omega⟩
      · have i8 : (8 : Int) ≤ (i : Int) := by omega
        go_wp2_with fail
        exact ⟨⟨i + 1, by omega, by go_num, ((X.transN x2).transN x3).transN x4⟩, by simp [intOf]; omega⟩
    · obtain rfl : i = 64 := by omega
      have kc := fun (w : World) (C : Array Value) (n c : Nat) => Lib.run_convert_bytes_const (P := Tryd.prog) w 24 5 C n c Tryd.underlying24 Tryd.underlying5
      go_wp2_with fail
      clear kc
      have hwr := X.size
      have p1 : Parts ((wr.alloc (.cells lit56 5 (56, 57))).alloc (.cells #[.slice (some ⟨wr.heap.size, 0, none⟩) 56 56] 24)) (· < wr.heap.size + 1 + 1) (some ⟨wr.heap.size + 1, 0, none⟩) [⟨some ⟨wr.heap.size, 0, none⟩, 56, text56⟩] := by
        have := parts_new (w := wr.alloc (.cells lit56 5 (56, 57))) 24 [⟨some ⟨wr.heap.size, 0, none⟩, 56, text56⟩] (D := (· < wr.heap.size + 1)) (fun k hk => by simpa using hk) (fun x hx => by
          simp only [List.mem_cons, List.not_mem_nil, or_false] at hx
          subst hx
          exact ⟨rd_mark wr 5 (bvs text56) (56, 57), Nat.le_refl 56⟩)
        rw [World.size_alloc] at this
        exact this
      have X1 : Ext Non wr ((wr.alloc (.cells lit56 5 (56, 57))).alloc (.cells #[.slice (some ⟨wr.heap.size, 0, none⟩) 56 56] 24)) := ((Ext.refl _ _).alloc _).alloc _
      unfold lit56 at p1 X1
      have ctr := psum_calls 1 1 p1 rfl (by decide) (G.extN (X.transN X1)) (by simp) (fun k hk => by simpa using hk) (by show 56 ≤ _; omega) (by decide)
      with_reducible refine Calls.mono ctr ?_
      clear ctr
      rintro e w1 ⟨rfl, y1⟩
      have X2 := (X.transN X1).transN y1
      have hs3 := sha_len text56
      go_wp2_with fail
      have ctr := hex_calls w1 (sha (allOf [⟨some ⟨wr.heap.size, 0, none⟩, 56, text56⟩])) hs3
      with_reducible refine Calls.mono ctr ?_
      clear ctr
      rintro e w2 ⟨rfl, y2⟩
      have X3 := X2.transN y2
      clear p1 X1 y1 y2 X2 hs3
      have h1 := hex_56
      rw [show allOf [⟨some ⟨wr.heap.size, 0, none⟩, 56, text56⟩] = text56 from rfl]
      generalize hexs (sha text56) = t1 at *
      obtain ⟨n, rfl⟩ : ∃ n : Nat, v = n := ⟨v.toNat, by omega⟩
      have hv2 := and8 n (by omega)
      go_wp2_with fail
      go_ret
      exact ⟨rfl, X3.belowN⟩
end Go.Proofs.YtbhplepbccgecaaDoor
