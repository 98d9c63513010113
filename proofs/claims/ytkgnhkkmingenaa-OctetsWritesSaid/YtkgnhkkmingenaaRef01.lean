/- The document's answer for layer 1: what its functions hand back. -/
import Derived.Test.YtkgnhkkmingenaaShown01
import Derived.Test.YtkgnhkkmingenaaNum
import Derived.Test.YtkgnhkkmingenaaSeq
namespace Go.Proofs.Ytkgnhkkmingenaa
open Go.RowKit

section
variable {S : Nat → Prop} {w w' : World} {base : Nat} {A : Option Addr} {c : Nat} {l : List UInt8}
/-- One byte of bytes that the call owns is written. -/
theorem OwB.set_ (h : OwB w base A c l) {j : Nat} (hj : j < l.length) (b : UInt8) (n : Int) (hn : (b.toNat : Int) = n) :
    A.isSome = true ∧ (∃ u, w.cell? ((A.getD default).add j) = some u) ∧ w.frozen? ((A.getD default).add j) = false ∧
    OwB (w.setCell ((A.getD default).add j) (.int .u8 n)) base A c (l.set j b) ∧ Ext (fun k => ob A = some k) w (w.setCell ((A.getD default).add j) (.int .u8 n)) := by
  subst hn
  rcases h.2 with ⟨hv, h0⟩ | ⟨g, cap, cur, hv, hb, hg, hnc, hcm, hsz, ht⟩
  · exfalso; omega
  · injection hv with hA hn hcap
    subst hA
    subst hcap
    have ha : ((some (⟨g, 0, none⟩ : Addr)).getD default).add j = ⟨g, j, none⟩ := by
      show (⟨g, 0, none⟩ : Addr).add j = _
      unfold Addr.add; split <;> simp_all
    have hcs : j < cur.size := by
      have := congrArg List.length ht
      simp [bvs_length] at this
      omega
    have hB : Blk w g 5 cur := hg
    rw [ha]
    refine ⟨rfl, ⟨cur[j], by rw [hB.cell]; simp [hcs]⟩, hB.frozen j, ⟨by simp [bvs], .inr ⟨g, c, cur.setIfInBounds j (.int .u8 (b.toNat : Int)), by simp, hb, hB.set_ j _, by simpa using hnc, hcm, by simpa using hsz, ?_⟩⟩, Ext.setCell (S := fun k => ob (some (⟨g, 0, none⟩ : Addr)) = some k) (Ext.refl _ _) (p := ⟨g, j, none⟩) (.inr rfl) _⟩
    simp only [List.length_set, Nat.mul_one] at ht ⊢
    have : bvs (l.set j b) = (bvs l).set j (.int .u8 (b.toNat : Int)) := by simp [bvs, bv, List.map_set]
    rw [this, ← ht]
    simp [List.take_set]
end

theorem rdone_nil {w : World} {D : Nat → Prop} {p : Nat} (hr : Rdr w p D []) :
    Calls Try.prog 25 #[.pointer (some ⟨p, 0, none⟩)] w fun e w' => e = .returned (.int .i64 0) ∧ w = w' := rdone_calls hr
theorem rdone_cons {w : World} {D : Nat → Prop} {p : Nat} {c : UInt8} {l : List UInt8} (hr : Rdr w p D (c :: l)) :
    Calls Try.prog 25 #[.pointer (some ⟨p, 0, none⟩)] w fun e w' => e = .returned (.int .i64 3) ∧ w = w' := rdone_calls hr

/-- Text: the bytes of a number. -/
theorem text_calls (w : World) (n : Nat) (hn : (n : Int) ≤ 18446744073709551615) (k : Nat) (hk : k ≤ 8) :
    Calls Try.prog 31 #[.int .u64 n, .int .i64 k] w fun e w' => e = .returned (.string (str (be k n))) ∧ Ext Non w w' := by
  go_enter Try.func31, Try.ntmps31
  go_wp2
  go_loopw [0, 5, 6] (fun m s i wr => ∃ j : Nat, j ≤ k ∧ m = .int .u64 (n / 256 ^ j : Nat) ∧ s = .string (str (be j n)) ∧ i = .int .i64 j ∧ Ext Non w wr) (fun _ _ i _ => k - (intOf i).toNat)
  case atStart => exact ⟨0, by omega, by simp, rfl, rfl, Ext.refl _ _⟩
  case round =>
    obtain ⟨j, hj, rfl, rfl, rfl, X⟩ := hrel
    obtain ⟨m, hm⟩ : ∃ m, n / 256 ^ j = m := ⟨_, rfl⟩
    rw [hm]
    have hle : m ≤ n := hm ▸ Nat.div_le_self _ _
    by_cases hjk : j < k
    · obtain ⟨b, hb, HB⟩ : ∃ b : UInt8, (m : Int) % 256 = (b.toNat : Int) ∧ Hid (UInt8.ofNat m = b) := ⟨UInt8.ofNat m, by simp, rfl⟩
      have cv := run_convert_rd (P := Try.prog) (wr.alloc (.cells #[.int .u8 (b.toNat : Int)] 5)) 22 9 5 Try.underlying22 Try.underlying9 Try.underlying5 (rd_new1 wr 5 b) 1 1 rfl
      obtain ⟨hs1, hs2, hs3, hs4, hmax⟩ := sum_facts (l := [b]) (m := be j n) (r := be (j + 1) n) (by rw [← HB.out, ← hm]; rfl) 1 j rfl (be_length _ _) (by omega)
      have hd : m / 256 = n / 256 ^ (j + 1) := by rw [← hm, Nat.div_div_eq_div_mul, Nat.pow_succ]
      clear hm
      have HD := Lib.hid hd
      clear hd
      go_wp2
      exact ⟨⟨j + 1, by omega, by rw [← HD.out]; rfl, rfl, by go_num, X.alloc _⟩, by simp [intOf]; omega⟩
    · obtain rfl : j = k := by omega
      go_wp2
      go_ret
      exact ⟨rfl, X⟩

/-- Zeros: so many noughts. -/
theorem rzeros_calls (w : World) (n : Int) (hn : n ≤ 9223372036854775807) :
    Calls Try.prog 32 #[.int .i64 n] w fun e w' => e = .returned (.string (str (zeros n.toNat))) ∧ w = w' := by
  go_enter Try.func32, Try.ntmps32
  go_wp2
  go_loopw [3, 4] (fun s i wr => ∃ j : Nat, j ≤ n.toNat ∧ s = .string (str (zeros j)) ∧ i = .int .i64 j ∧ w = wr) (fun _ i _ => n.toNat - (intOf i).toNat)
  case atStart => exact ⟨0, by omega, rfl, rfl, rfl⟩
  case round =>
    obtain ⟨j, hj, rfl, rfl, rfl⟩ := hrel
    by_cases hjk : (j : Int) < n
    · obtain ⟨hs1, hs2, hs3, hs4, hmax⟩ := sum_facts (l := zeros j) (m := [0]) (r := zeros (j + 1)) (by simp [zeros, List.replicate_succ']) j 1 (zeros_length j) rfl (by omega)
      have hs3' : str (zeros j) ++ { data := #[0] } = str (zeros (j + 1)) := hs3
      clear hs3
      go_wp2
      exact ⟨⟨j + 1, by omega, rfl, by go_num, trivial⟩, by simp [intOf]; omega⟩
    · obtain rfl : n.toNat = j := by omega
      go_wp2
      go_ret
      exact ⟨rfl, rfl⟩

/-- Take, of a reader that has l. -/
theorem rtake_arg (w : World) (p : Nat) (n : Int) (hn : n < 0) :
    Calls Try.prog 29 #[.pointer (some ⟨p, 0, none⟩), .int .i64 n] w fun e w' => e = .returned (.tuple #[.string (str []), .int .i64 1]) ∧ w = w' := by
  go_enter Try.func29, Try.ntmps29
  go_wp2
  go_ret2
  exact ⟨rfl, rfl⟩
theorem rtake_short {w : World} {p : Nat} {l : List UInt8} (hb : Blk w p 66 #[.string (str l)]) (n : Int) (hn : (l.length : Int) < n) :
    Calls Try.prog 29 #[.pointer (some ⟨p, 0, none⟩), .int .i64 n] w fun e w' => e = .returned (.tuple #[.string (str []), .int .i64 2]) ∧ w = w' := by
  have hc := hb.cell 0
  have hs : (str l).size = l.length := str_size l
  have h0 : ¬ n < 0 := by omega
  go_enter Try.func29, Try.ntmps29
  go_wp2
  go_ret2
  exact ⟨rfl, rfl⟩
theorem rtake_ok {w : World} {p : Nat} {l : List UInt8} (hb : Blk w p 66 #[.string (str l)]) (n : Int) (k : Nat) (hk : n = k) (hn : k ≤ l.length) :
    Calls Try.prog 29 #[.pointer (some ⟨p, 0, none⟩), .int .i64 n] w fun e w' => e = .returned (.tuple #[.string (str (l.take k)), .int .i64 0]) ∧
      Blk w' p 66 #[.string (str (l.drop k))] ∧ Ext (One p) w w' := by
  subst hk
  have hc := hb.cell 0
  have hf := hb.frozen 0
  have hs : (str l).size = l.length := str_size l
  have h0 : ¬ (l.length : Int) < (k : Int) := by omega
  have e1 : (str l).extract 0 k = str (l.take k) := by rw [str_extract]; rfl
  have e2 : (str l).extract k l.length = str (l.drop k) := by rw [str_extract, List.take_length]
  go_enter Try.func29, Try.ntmps29
  go_wp2
  go_ret2
  exact ⟨rfl, hb.set_ 0 _, (Ext.refl Non w).setN 0 _⟩

theorem zeros_be (k : Nat) : be k 0 = zeros k := by
  induction k with
  | zero => rfl
  | succ k ih =>
    show UInt8.ofNat (0 / 256 ^ k) :: be k 0 = zeros (k + 1)
    rw [ih, Nat.zero_div]
    rfl

/-- got: a number of a reader, by its kind. -/
theorem got1_ok {w : World} {D : Nat → Prop} {p : Nat} {l : List UInt8} (hr : Rdr w p D l) (hp : ¬ D p) (hk : 1 ≤ l.length) :
    Calls Try.prog 28 #[.pointer (some ⟨p, 0, none⟩), .int .i64 1] w fun e w' =>
      e = .returned (.tuple #[.string (str (l.take 1)), .int .i64 0, .int .u64 (num (l.take 1))]) ∧ Rdr w' p D (l.drop 1) ∧ Ext (One p) w w' := by
  have hlt := num_lt 1 (l.take 1) (by simp; omega)
  have hq : (256 : Nat) ^ 1 ≤ 18446744073709551616 := by decide
  have hm : ((num (l.take 1) : Nat) : Int) ≤ 18446744073709551615 := by omega
  have hw : IntKind.u64.wrap ((num (l.take 1) : Nat) : Int) = ((num (l.take 1) : Nat) : Int) := by rw [IntKind.wrap_u64]; omega
  have hb : be 1 (num (l.take 1)) = l.take 1 := be_num 1 _ (by simp; omega)
  go_enter Try.func28, Try.ntmps28
  go_wp2_with fail
  have ctr := u8_calls hr hp hk
  with_reducible refine Calls.mono ctr ?_
  clear ctr
  rintro e w1 ⟨rfl, hr1, x1⟩
  obtain ⟨m, hmm⟩ : ∃ m, num (l.take 1) = m := ⟨_, rfl⟩
  have HM := Lib.hid hmm
  rw [hmm] at hm hw hb hlt ⊢
  clear hmm
  go_wp2_with fail
  have ctr := text_calls w1 m hm 1 (by omega)
  with_reducible refine Calls.mono ctr ?_
  clear ctr
  rintro e w2 ⟨rfl, x2⟩
  go_wp2_with fail
  go_ret3
  exact ⟨by rw [HM.out]; rfl, hr1.extN x2, x1.transN x2⟩
theorem got1_short {w : World} {D : Nat → Prop} {p : Nat} {l : List UInt8} (hr : Rdr w p D l) (hk : l.length < 1) :
    Calls Try.prog 28 #[.pointer (some ⟨p, 0, none⟩), .int .i64 1] w fun e w' =>
      e = .returned (.tuple #[.string (str (zeros 1)), .int .i64 2, .int .u64 0]) ∧ Ext Non w w' := by
  go_enter Try.func28, Try.ntmps28
  go_wp2_with fail
  have ctr := u8_short hr hk
  with_reducible refine Calls.mono ctr ?_
  clear ctr
  rintro e w1 ⟨rfl, rfl⟩
  go_wp2_with fail
  have ctr := text_calls w 0 (by omega) 1 (by omega)
  with_reducible refine Calls.mono ctr ?_
  clear ctr
  rintro e w2 ⟨rfl, x2⟩
  go_wp2_with fail
  go_ret3
  exact ⟨by rw [zeros_be]; rfl, x2⟩
theorem got2_ok {w : World} {D : Nat → Prop} {p : Nat} {l : List UInt8} (hr : Rdr w p D l) (hp : ¬ D p) (hk : 2 ≤ l.length) :
    Calls Try.prog 28 #[.pointer (some ⟨p, 0, none⟩), .int .i64 2] w fun e w' =>
      e = .returned (.tuple #[.string (str (l.take 2)), .int .i64 0, .int .u64 (num (l.take 2))]) ∧ Rdr w' p D (l.drop 2) ∧ Ext (One p) w w' := by
  have hlt := num_lt 2 (l.take 2) (by simp; omega)
  have hq : (256 : Nat) ^ 2 ≤ 18446744073709551616 := by decide
  have hm : ((num (l.take 2) : Nat) : Int) ≤ 18446744073709551615 := by omega
  have hw : IntKind.u64.wrap ((num (l.take 2) : Nat) : Int) = ((num (l.take 2) : Nat) : Int) := by rw [IntKind.wrap_u64]; omega
  have hb : be 2 (num (l.take 2)) = l.take 2 := be_num 2 _ (by simp; omega)
  go_enter Try.func28, Try.ntmps28
  go_wp2_with fail
  have ctr := u16_calls hr hp hk
  with_reducible refine Calls.mono ctr ?_
  clear ctr
  rintro e w1 ⟨rfl, hr1, x1⟩
  obtain ⟨m, hmm⟩ : ∃ m, num (l.take 2) = m := ⟨_, rfl⟩
  have HM := Lib.hid hmm
  rw [hmm] at hm hw hb hlt ⊢
  clear hmm
  go_wp2_with fail
  have ctr := text_calls w1 m hm 2 (by omega)
  with_reducible refine Calls.mono ctr ?_
  clear ctr
  rintro e w2 ⟨rfl, x2⟩
  go_wp2_with fail
  go_ret3
  exact ⟨by rw [HM.out]; rfl, hr1.extN x2, x1.transN x2⟩
theorem got2_short {w : World} {D : Nat → Prop} {p : Nat} {l : List UInt8} (hr : Rdr w p D l) (hk : l.length < 2) :
    Calls Try.prog 28 #[.pointer (some ⟨p, 0, none⟩), .int .i64 2] w fun e w' =>
      e = .returned (.tuple #[.string (str (zeros 2)), .int .i64 2, .int .u64 0]) ∧ Ext Non w w' := by
  go_enter Try.func28, Try.ntmps28
  go_wp2_with fail
  have ctr := u16_short hr hk
  with_reducible refine Calls.mono ctr ?_
  clear ctr
  rintro e w1 ⟨rfl, rfl⟩
  go_wp2_with fail
  have ctr := text_calls w 0 (by omega) 2 (by omega)
  with_reducible refine Calls.mono ctr ?_
  clear ctr
  rintro e w2 ⟨rfl, x2⟩
  go_wp2_with fail
  go_ret3
  exact ⟨by rw [zeros_be]; rfl, x2⟩
theorem got3_ok {w : World} {D : Nat → Prop} {p : Nat} {l : List UInt8} (hr : Rdr w p D l) (hp : ¬ D p) (hk : 4 ≤ l.length) :
    Calls Try.prog 28 #[.pointer (some ⟨p, 0, none⟩), .int .i64 3] w fun e w' =>
      e = .returned (.tuple #[.string (str (l.take 4)), .int .i64 0, .int .u64 (num (l.take 4))]) ∧ Rdr w' p D (l.drop 4) ∧ Ext (One p) w w' := by
  have hlt := num_lt 4 (l.take 4) (by simp; omega)
  have hq : (256 : Nat) ^ 4 ≤ 18446744073709551616 := by decide
  have hm : ((num (l.take 4) : Nat) : Int) ≤ 18446744073709551615 := by omega
  have hw : IntKind.u64.wrap ((num (l.take 4) : Nat) : Int) = ((num (l.take 4) : Nat) : Int) := by rw [IntKind.wrap_u64]; omega
  have hb : be 4 (num (l.take 4)) = l.take 4 := be_num 4 _ (by simp; omega)
  go_enter Try.func28, Try.ntmps28
  go_wp2_with fail
  have ctr := u32_calls hr hp hk
  with_reducible refine Calls.mono ctr ?_
  clear ctr
  rintro e w1 ⟨rfl, hr1, x1⟩
  obtain ⟨m, hmm⟩ : ∃ m, num (l.take 4) = m := ⟨_, rfl⟩
  have HM := Lib.hid hmm
  rw [hmm] at hm hw hb hlt ⊢
  clear hmm
  go_wp2_with fail
  have ctr := text_calls w1 m hm 4 (by omega)
  with_reducible refine Calls.mono ctr ?_
  clear ctr
  rintro e w2 ⟨rfl, x2⟩
  go_wp2_with fail
  go_ret3
  exact ⟨by rw [HM.out]; rfl, hr1.extN x2, x1.transN x2⟩
theorem got3_short {w : World} {D : Nat → Prop} {p : Nat} {l : List UInt8} (hr : Rdr w p D l) (hk : l.length < 4) :
    Calls Try.prog 28 #[.pointer (some ⟨p, 0, none⟩), .int .i64 3] w fun e w' =>
      e = .returned (.tuple #[.string (str (zeros 4)), .int .i64 2, .int .u64 0]) ∧ Ext Non w w' := by
  go_enter Try.func28, Try.ntmps28
  go_wp2_with fail
  have ctr := u32_short hr hk
  with_reducible refine Calls.mono ctr ?_
  clear ctr
  rintro e w1 ⟨rfl, rfl⟩
  go_wp2_with fail
  have ctr := text_calls w 0 (by omega) 4 (by omega)
  with_reducible refine Calls.mono ctr ?_
  clear ctr
  rintro e w2 ⟨rfl, x2⟩
  go_wp2_with fail
  go_ret3
  exact ⟨by rw [zeros_be]; rfl, x2⟩
theorem got4_ok {w : World} {D : Nat → Prop} {p : Nat} {l : List UInt8} (hr : Rdr w p D l) (hp : ¬ D p) (hk : 8 ≤ l.length) :
    Calls Try.prog 28 #[.pointer (some ⟨p, 0, none⟩), .int .i64 4] w fun e w' =>
      e = .returned (.tuple #[.string (str (l.take 8)), .int .i64 0, .int .u64 (num (l.take 8))]) ∧ Rdr w' p D (l.drop 8) ∧ Ext (One p) w w' := by
  have hlt := num_lt 8 (l.take 8) (by simp; omega)
  have hq : (256 : Nat) ^ 8 ≤ 18446744073709551616 := by decide
  have hm : ((num (l.take 8) : Nat) : Int) ≤ 18446744073709551615 := by omega
  have hw : IntKind.u64.wrap ((num (l.take 8) : Nat) : Int) = ((num (l.take 8) : Nat) : Int) := by rw [IntKind.wrap_u64]; omega
  have hb : be 8 (num (l.take 8)) = l.take 8 := be_num 8 _ (by simp; omega)
  go_enter Try.func28, Try.ntmps28
  go_wp2_with fail
  have ctr := u64_calls hr hp hk
  with_reducible refine Calls.mono ctr ?_
  clear ctr
  rintro e w1 ⟨rfl, hr1, x1⟩
  obtain ⟨m, hmm⟩ : ∃ m, num (l.take 8) = m := ⟨_, rfl⟩
  have HM := Lib.hid hmm
  rw [hmm] at hm hw hb hlt ⊢
  clear hmm
  go_wp2_with fail
  have ctr := text_calls w1 m hm 8 (by omega)
  with_reducible refine Calls.mono ctr ?_
  clear ctr
  rintro e w2 ⟨rfl, x2⟩
  go_wp2_with fail
  go_ret3
  exact ⟨by rw [HM.out]; rfl, hr1.extN x2, x1.transN x2⟩
theorem got4_short {w : World} {D : Nat → Prop} {p : Nat} {l : List UInt8} (hr : Rdr w p D l) (hk : l.length < 8) :
    Calls Try.prog 28 #[.pointer (some ⟨p, 0, none⟩), .int .i64 4] w fun e w' =>
      e = .returned (.tuple #[.string (str (zeros 8)), .int .i64 2, .int .u64 0]) ∧ Ext Non w w' := by
  go_enter Try.func28, Try.ntmps28
  go_wp2_with fail
  have ctr := u64_short hr hk
  with_reducible refine Calls.mono ctr ?_
  clear ctr
  rintro e w1 ⟨rfl, rfl⟩
  go_wp2_with fail
  have ctr := text_calls w 0 (by omega) 8 (by omega)
  with_reducible refine Calls.mono ctr ?_
  clear ctr
  rintro e w2 ⟨rfl, x2⟩
  go_wp2_with fail
  go_ret3
  exact ⟨by rw [zeros_be]; rfl, x2⟩
end Go.Proofs.Ytkgnhkkmingenaa
