/- The law OctetsNumbers: a number is that of its bytes, by whatever sizes they are taken; for any number: the Go text returns true. -/
import Derived.Test.YtkgnhkkmingenaaShown01
import Derived.Test.YtkgnhkkmingenaaNum
import Derived.Test.YtkgnhkkmingenaaSeq
namespace Go.Proofs.Ytkgnhkkmingenaa
open Go.RowKit

/-- What stands where between two rounds of OctetsNumbers. -/
structure NInv (w wr : World) (base s2 s3 s4 s5 pa pc pd q : Nat) (A : Option Addr) (B la lc ld : List UInt8) (g : Option Nat) (lx : List UInt8) : Prop where
  a : Rdr wr pa (Iv s3 pa) la
  c : Rdr wr pc (Iv s4 pc) lc
  d : Rdr wr pd (Iv s5 pd) ld
  x : Wr wr base q g lx
  gx : ∀ k, g = some k → q < k
  b : Rd wr (Iv s2 s3) A (bvs B)
  ext : Ext Non w wr

section
variable {w wr w' : World} {base s2 s3 s4 s5 pa pc pd q : Nat} {A : Option Addr} {B la lc ld l' : List UInt8} {g g' : Option Nat} {lx lx' : List UInt8}
theorem NInv.stepA (I : NInv w wr base s2 s3 s4 s5 pa pc pd q A B la lc ld g lx) (ho : w.heap.size ≤ s2 ∧ s2 ≤ s3 ∧ s3 ≤ pa ∧ pa < s4 ∧ s4 ≤ pc ∧ pc < s5 ∧ s5 ≤ pd ∧ pd < q) (r : Rdr w' pa (Iv s3 pa) l') (x : Ext (One pa) wr w') :
    NInv w w' base s2 s3 s4 s5 pa pc pd q A B l' lc ld g lx :=
  ⟨r, I.c.one x (by omega) (by omega), I.d.one x (by omega) (by omega), I.x.one x (by omega) (fun k hk => by have := I.gx k hk; omega), I.gx, I.b.one x (by omega),
    I.ext.trans x (fun i hi he => by have : i = pa := he; omega)⟩
theorem NInv.stepC (I : NInv w wr base s2 s3 s4 s5 pa pc pd q A B la lc ld g lx) (ho : w.heap.size ≤ s2 ∧ s2 ≤ s3 ∧ s3 ≤ pa ∧ pa < s4 ∧ s4 ≤ pc ∧ pc < s5 ∧ s5 ≤ pd ∧ pd < q) (r : Rdr w' pc (Iv s4 pc) l') (x : Ext (One pc) wr w') :
    NInv w w' base s2 s3 s4 s5 pa pc pd q A B la l' ld g lx :=
  ⟨I.a.one x (by omega) (by omega), r, I.d.one x (by omega) (by omega), I.x.one x (by omega) (fun k hk => by have := I.gx k hk; omega), I.gx, I.b.one x (by omega),
    I.ext.trans x (fun i hi he => by have : i = pc := he; omega)⟩
theorem NInv.stepD (I : NInv w wr base s2 s3 s4 s5 pa pc pd q A B la lc ld g lx) (ho : w.heap.size ≤ s2 ∧ s2 ≤ s3 ∧ s3 ≤ pa ∧ pa < s4 ∧ s4 ≤ pc ∧ pc < s5 ∧ s5 ≤ pd ∧ pd < q) (r : Rdr w' pd (Iv s5 pd) l') (x : Ext (One pd) wr w') :
    NInv w w' base s2 s3 s4 s5 pa pc pd q A B la lc l' g lx :=
  ⟨I.a.one x (by omega) (by omega), I.c.one x (by omega) (by omega), r, I.x.one x (by omega) (fun k hk => by have := I.gx k hk; omega), I.gx, I.b.one x (by omega),
    I.ext.trans x (fun i hi he => by have : i = pd := he; omega)⟩
theorem NInv.stepX (I : NInv w wr base s2 s3 s4 s5 pa pc pd q A B la lc ld g lx) (ho : w.heap.size ≤ s2 ∧ s2 ≤ s3 ∧ s3 ≤ pa ∧ pa < s4 ∧ s4 ≤ pc ∧ pc < s5 ∧ s5 ≤ pd ∧ pd < q) (S : WStep wr base q g w' g' lx') :
    NInv w w' base s2 s3 s4 s5 pa pc pd q A B la lc ld g' lx' := by
  have hq := I.x.lt
  refine ⟨I.a.ws S.ext (by omega) (by omega) (fun k hk => by have := I.gx k hk; omega), I.c.ws S.ext (by omega) (by omega) (fun k hk => by have := I.gx k hk; omega),
    I.d.ws S.ext (by omega) (by omega) (fun k hk => by have := I.gx k hk; omega), S.wr, ?_, I.b.ws S.ext (by omega) (fun k hk => by have := I.gx k hk; omega), I.ext.trans S.ext ?_⟩
  · intro k hk
    rcases S.row with e | ⟨k', e, hk'⟩
    · exact I.gx k (e ▸ hk)
    · rw [e] at hk; injection hk with hk; omega
  · rintro i hi (h | h)
    · omega
    · have := I.gx i h; omega
end

theorem drop_take_next (B : List UInt8) (n k : Nat) (h : n + k ≤ B.length) : num (B.take (n + k)) = num (B.take n) * 256 ^ k + num ((B.drop n).take k) := by
  have : (B.drop n).take k = (B.take (n + k)).drop n := by rw [List.drop_take]; congr 1; omega
  rw [this]
  have e : B.take (n + k) = B.take n ++ (B.take (n + k)).drop n := by
    conv => lhs; rw [← List.take_append_drop n (B.take (n + k))]
    rw [List.take_take, Nat.min_eq_left (by omega)]
  conv => lhs; rw [e]
  rw [num_append, show ((B.take (n + k)).drop n).length = k from by simp; omega]

set_option maxRecDepth 10000 in
theorem sh_step (B : List UInt8) (hB : B.length = 8) (n k : Nat) (h : n + k ≤ 8) (M : Nat) (hM : 256 ^ k = M) :
    IntKind.u64.wrap (IntKind.u64.wrap ((num (B.take n) : Int) * (M : Int)) + (num ((B.drop n).take k) : Int)) = ((num (B.take (n + k)) : Nat) : Int) := by
  have e := drop_take_next B n k (by omega)
  rw [hM] at e
  have hlt := num_lt (n + k) (B.take (n + k)) (by simp; omega)
  have hp : 256 ^ (n + k) ≤ 256 ^ 8 := Nat.pow_le_pow_right (by omega) h
  have hq : (256 : Nat) ^ 8 = 18446744073709551616 := by decide
  generalize num (B.take (n + k)) = Z at *
  generalize num (B.take n) = X at *
  generalize num ((B.drop n).take k) = Y at *
  have e3 : (X : Int) * (M : Int) = ((X * M : Nat) : Int) := by simp
  rw [e3]
  generalize X * M = V at *
  have hZ : Z < 18446744073709551616 := by omega
  have e1 : IntKind.u64.wrap (V : Int) = V := by rw [IntKind.wrap_u64]; omega
  rw [e1, IntKind.wrap_u64]
  omega
theorem num_part (B : List UInt8) (k : Nat) (hk : B.length = k) (M : Nat) (hM : 256 ^ k = M + 1) : ((num B : Nat) : Int) ≤ (M : Int) := by
  have := num_lt k B hk
  omega
theorem num_one (B : List UInt8) (j : Nat) (h : j < B.length) : num ((B.drop j).take 1) = B[j].toNat := by
  have e : (B.drop j).take 1 = [B[j]] := by rw [List.drop_eq_getElem_cons h]; rfl
  rw [e]
  simp [num]

set_option maxRecDepth 100000 in
set_option maxHeartbeats 4000000 in
theorem numbers_walk (n : Nat) (hn : (n : Int) ≤ 18446744073709551615) (w : World) :
    Calls Try.prog 5 #[.int .u64 n] w fun e w' => e = .returned (.bool true) ∧ Below w.heap.size w w' := by
  go_enter Try.func5, Try.ntmps5
  go_wp2_with fail
  refine (shown_calls w).mono ?_
  rintro e w1 ⟨rfl, x1⟩
  have W1 := new_wr w1 w.heap.size
  have X1 : Ext Non w (w1.alloc (.cells #[.slice none 0 0] 26)) := x1.alloc _
  go_wp2_with fail
  refine (wu64_calls W1 X1.size n hn (by simp)).mono ?_
  rintro e w2 ⟨rfl, g2, S2⟩
  have X2 : Ext Non w w2 := X1.trans S2.ext (fun i hi h => by
    have := x1.size
    rcases h with h | h
    · omega
    · cases h)
  rw [List.nil_append] at S2
  obtain ⟨B, hB⟩ : ∃ B, B = be 8 n := ⟨_, rfl⟩
  rw [← hB] at S2
  have hBl : B.length = 8 := by rw [hB, be_length]
  have hBn : num B = n := by rw [hB, num_be]; exact Nat.mod_eq_of_lt (by have : (256 : Nat) ^ 8 = 18446744073709551616 := (by decide); omega)
  have HBn := Lib.hid hBn
  clear hBn hB
  go_wp2_with fail
  refine (wdone_calls S2.wr 8 hBl (by omega)).mono ?_
  rintro e w3 ⟨A3, c3, rfl, o3, x3⟩
  go_wp2_with fail
  refine (read_calls c3 8 o3.iv hBl (by omega)).mono ?_
  rintro e w4 ⟨pa, rfl, ra4, ha, x4⟩
  have b4 := o3.iv.extN x4
  go_wp2_with fail
  refine (read_calls c3 8 b4 hBl (by omega)).mono ?_
  rintro e w5 ⟨pc, rfl, rc5, hc, x5⟩
  have b5 := b4.extN x5
  go_wp2_with fail
  refine (read_calls c3 8 b5 hBl (by omega)).mono ?_
  rintro e w6 ⟨pd, rfl, rd6, hd, x6⟩
  have hlt4 := ra4.lt
  have hlt5 := rc5.lt
  have hlt6 := rd6.lt
  have ho : w.heap.size ≤ w2.heap.size ∧ w2.heap.size ≤ w3.heap.size ∧ w3.heap.size ≤ pa ∧ pa < w4.heap.size ∧ w4.heap.size ≤ pc ∧ pc < w5.heap.size ∧ w5.heap.size ≤ pd ∧ pd < w6.heap.size := ⟨X2.size, x3.size, ha, hlt4, hc, hlt5, hd, hlt6⟩
  have z : Ext Non w6 (w6.alloc (.cells #[.slice none 0 0] 26)) := (Ext.refl _ _).alloc _
  have I0 : NInv w (w6.alloc (.cells #[.slice none 0 0] 26)) w.heap.size w2.heap.size w3.heap.size w4.heap.size w5.heap.size pa pc pd w6.heap.size A3 B B B B none [] :=
    ⟨((ra4.extN x5).extN x6).extN z, (rc5.extN x6).extN z, rd6.extN z, new_wr w6 _, (fun _ h => nomatch h), (b5.extN x6).extN z, ((((X2.transN x3).transN x4).transN x5).transN x6).transN z⟩
  clear ra4 rc5 rd6 b4 b5 z x3 x4 x5 x6 o3 S2 X2 W1 X1 x1 hlt4 hlt5 hlt6 ha hc hd
  go_wp2_with fail
  go_loopw [10, 11, 12, 13] (fun f t o i wr => ∃ (j : Nat) (g : Option Nat), j ≤ 8 ∧ i = .int .i64 j ∧ f = .int .u64 (num (B.take (4 * min j 2))) ∧ t = .int .u64 (num (B.take (2 * min j 4))) ∧ o = .int .u64 (num (B.take j)) ∧
      NInv w wr w.heap.size w2.heap.size w3.heap.size w4.heap.size w5.heap.size pa pc pd w6.heap.size A3 B (B.drop (4 * min j 2)) (B.drop (2 * min j 4)) (B.drop j) g (B.take (4 * min j 2))) (fun _ _ _ i _ => 8 - (intOf i).toNat)
  case atStart => exact ⟨0, none, by omega, rfl, rfl, rfl, rfl, I0⟩
  case round =>
    obtain ⟨j, g, hj, rfl, rfl, rfl, rfl, I⟩ := hrel
    by_cases h8 : j < 8
    · have hu1 := num_one B j (by omega)
      have hs1 : IntKind.u64.wrap (IntKind.u64.wrap ((num (B.take j) : Int) * 256) + (num ((B.drop j).take 1) : Int)) = ((num (B.take (j + 1)) : Nat) : Int) := sh_step B hBl j 1 (by omega) 256 rfl
      rw [hu1] at hs1
      have hs4 : 4 * j + 4 ≤ 8 → IntKind.u64.wrap (IntKind.u64.wrap ((num (B.take (4 * j)) : Int) * 4294967296) + (num ((B.drop (4 * j)).take 4) : Int)) = ((num (B.take (4 * (j + 1))) : Nat) : Int) := fun h => sh_step B hBl (4 * j) 4 h 4294967296 rfl
      have hs2 : 2 * j + 2 ≤ 8 → IntKind.u64.wrap (IntKind.u64.wrap ((num (B.take (2 * j)) : Int) * 65536) + (num ((B.drop (2 * j)).take 2) : Int)) = ((num (B.take (2 * (j + 1))) : Nat) : Int) := fun h => sh_step B hBl (2 * j) 2 h 65536 rfl
      have hx4 : 4 * j + 4 ≤ 8 → B.take (4 * j) ++ be 4 (num ((B.drop (4 * j)).take 4)) = B.take (4 * (j + 1)) := by
        intro h
        rw [be_num 4 _ (by simp; omega)]
        have : (B.drop (4 * j)).take 4 = (B.take (4 * (j + 1))).drop (4 * j) := by rw [List.drop_take]; congr 1; omega
        rw [this]
        have e2 := List.take_append_drop (4 * j) (B.take (4 * (j + 1)))
        rwa [List.take_take, Nat.min_eq_left (by omega)] at e2
      obtain ⟨hbA, hbc⟩ := I.b.ix (bvs_get B j (by omega))
      have hb1 : ((B[j].toNat : Nat) : Int) ≤ 255 := by have := B[j].toNat_lt; omega
      by_cases h2 : j < 2
      · have h4 : j < 4 := by omega
        rw [Nat.min_eq_left (by omega : j ≤ 2), Nat.min_eq_left (by omega : j ≤ 4)] at I ⊢
        replace hs4 := hs4 (by omega)
        replace hs2 := hs2 (by omega)
        have HX4 := Lib.hid (hx4 (by omega))
        clear hx4
        have hb4 := num_part ((B.drop (4 * j)).take 4) 4 (by simp; omega) 4294967295 rfl
        have hb2 := num_part ((B.drop (2 * j)).take 2) 2 (by simp; omega) 65535 rfl
        go_wp2_with fail
        refine (u32_calls I.a (by intro h; exact absurd h.2 (by omega)) (by simp; omega)).mono ?_
        rintro e v1 ⟨rfl, r1, y1⟩
        have I1 := I.stepA ho r1 y1
        go_wp2_with fail
        refine (wu32_calls I1.x I1.ext.size _ hb4 (by simp; omega)).mono ?_
        rintro e v2 ⟨rfl, g3, S3⟩
        have I2 := I1.stepX ho S3
        go_wp2_with fail
        refine (u16_calls I2.c (by intro h; exact absurd h.2 (by omega)) (by simp; omega)).mono ?_
        rintro e v3 ⟨rfl, r3, y3⟩
        have I3 := I2.stepC ho r3 y3
        go_wp2_with fail
        refine (u8_calls I3.d (by intro h; exact absurd h.2 (by omega)) (by simp; omega)).mono ?_
        rintro e v4 ⟨rfl, r4, y4⟩
        have I4 := I3.stepD ho r4 y4
        obtain ⟨_, hbc4⟩ := I4.b.ix (bvs_get B j (by omega))
        rw [HX4.out, List.drop_drop, List.drop_drop, List.drop_drop] at I4
        go_wp2
        refine ⟨⟨j + 1, g3, by omega, by go_num, ?_⟩, by simp [intOf]; omega⟩
        rw [Nat.min_eq_left (by omega : j + 1 ≤ 2), Nat.min_eq_left (by omega : j + 1 ≤ 4)]
        exact ⟨rfl, rfl, rfl, I4⟩
      · rw [Nat.min_eq_right (by omega : 2 ≤ j)] at I ⊢
        clear hs4 hx4
        by_cases h4 : j < 4
        · rw [Nat.min_eq_left (by omega : j ≤ 4)] at I ⊢
          replace hs2 := hs2 (by omega)
          have hb2 := num_part ((B.drop (2 * j)).take 2) 2 (by simp; omega) 65535 rfl
          go_wp2_with fail
          refine (u16_calls I.c (by intro h; exact absurd h.2 (by omega)) (by simp; omega)).mono ?_
          rintro e v3 ⟨rfl, r3, y3⟩
          have I3 := I.stepC ho r3 y3
          go_wp2_with fail
          refine (u8_calls I3.d (by intro h; exact absurd h.2 (by omega)) (by simp; omega)).mono ?_
          rintro e v4 ⟨rfl, r4, y4⟩
          have I4 := I3.stepD ho r4 y4
          obtain ⟨_, hbc4⟩ := I4.b.ix (bvs_get B j (by omega))
          rw [List.drop_drop, List.drop_drop] at I4
          go_wp2
          refine ⟨⟨j + 1, g, by omega, by go_num, ?_⟩, by simp [intOf]; omega⟩
          rw [Nat.min_eq_right (by omega : 2 ≤ j + 1), Nat.min_eq_left (by omega : j + 1 ≤ 4)]
          exact ⟨rfl, rfl, rfl, I4⟩
        · rw [Nat.min_eq_right (by omega : 4 ≤ j)] at I ⊢
          clear hs2
          go_wp2_with fail
          refine (u8_calls I.d (by intro h; exact absurd h.2 (by omega)) (by simp; omega)).mono ?_
          rintro e v4 ⟨rfl, r4, y4⟩
          have I4 := I.stepD ho r4 y4
          obtain ⟨_, hbc4⟩ := I4.b.ix (bvs_get B j (by omega))
          rw [List.drop_drop] at I4
          go_wp2
          refine ⟨⟨j + 1, g, by omega, by go_num, ?_⟩, by simp [intOf]; omega⟩
          rw [Nat.min_eq_right (by omega : 2 ≤ j + 1), Nat.min_eq_right (by omega : 4 ≤ j + 1)]
          exact ⟨rfl, rfl, rfl, I4⟩
    · obtain rfl : j = 8 := by omega
      have t8 : B.take 8 = B := List.take_of_length_le (by omega)
      rw [show 4 * min 8 2 = 8 from rfl, show 2 * min 8 4 = 8 from rfl, t8] at I
      rw [show 4 * min 8 2 = 8 from rfl, show 2 * min 8 4 = 8 from rfl, t8, HBn.out, show ((8 : Nat) : Int) = 8 from rfl]
      have IX := I.x
      have IB := I.b
      have cv0 := fun W (hW : Ext Non wr.drew W) => run_convert_rd W 22 9 5 Try.underlying22 Try.underlying9 Try.underlying5 (IB.drew.extN hW) 8 c3 hBl
      go_wp2_with fail
      refine wp_region_seq Non [(0, true), (1, true), (2, true), (3, true), (4, true), (5, true), (6, true), (7, true), (8, true), (9, true), (10, true), (11, true), (12, true), (13, true), (14, true), (15, true), (16, true), (17, true), (20, true), (21, true), (18, false), (19, true), (22, true), (23, true), (24, true)] (by kernel_rfl) (by kernel_rfl) (by kernel_rfl) ?_
      iterate 20 (refine wpSeq_quiet rfl rfl ?_; apply Exists.intro; refine ⟨?_, ?_⟩; (intro W hW; have cv := cv0 W hW; go_simp; try with_reducible rfl); (intro K hK; simp only [Act.put, List.setIfInBounds_toArray, List.set_cons_zero, List.set_cons_succ]; refine hK _ ?_; clear hK K))
      refine wpSeq_call rfl rfl (fun K hK => ?_)
      go_simp
      refine (wdone_calls IX.drew 8 hBl (by omega)).mono ?_
      rintro e v ⟨A', c', rfl, o, x⟩
      go_simp
      refine hK _ _ x ?_
      clear hK K
      have cvA := fun W (hW : Ext Non v W) => run_convert_rd W 22 9 5 Try.underlying22 Try.underlying9 Try.underlying5 (o.rd.ext hW (fun _ _ h => h)) 8 c' hBl
      iterate 4 (refine wpSeq_quiet rfl rfl ?_; apply Exists.intro; refine ⟨?_, ?_⟩; (intro W hW; have cv := cvA W hW; go_simp; try with_reducible rfl); (intro K hK; simp only [Act.put, List.setIfInBounds_toArray, List.set_cons_zero, List.set_cons_succ]; refine hK _ ?_; clear hK K))
      refine wpSeq_end ?_
      go_wp2
      go_ret
      exact ⟨rfl, (I.ext.drew.transN x).belowN⟩

end Go.Proofs.Ytkgnhkkmingenaa
