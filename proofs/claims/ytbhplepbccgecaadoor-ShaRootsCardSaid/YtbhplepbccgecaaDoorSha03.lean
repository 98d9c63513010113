/- Layer 3's statements: what must be in any case. -/
import Derived.Test.YtbhplepbccgecaaDoorShaG
namespace Go.Proofs.YtbhplepbccgecaaDoor
open Go.RowKit

/-- Bytes as hexadecimal text. -/
def hx1 (n : Nat) : UInt8 := [48, 49, 50, 51, 52, 53, 54, 55, 56, 57, 97, 98, 99, 100, 101, 102].getD n 0
def hexs (l : List UInt8) : List UInt8 := l.flatMap fun c => [hx1 (c.toNat / 16), hx1 (c.toNat % 16)]
def digits16 : List UInt8 := [48, 49, 50, 51, 52, 53, 54, 55, 56, 57, 97, 98, 99, 100, 101, 102]
theorem hexs_snoc (l : List UInt8) (j : Nat) (h : j < l.length) : hexs (l.take (j + 1)) = hexs (l.take j) ++ [hx1 (l[j].toNat / 16)] ++ [hx1 (l[j].toNat % 16)] := by
  unfold hexs
  rw [List.take_succ_eq_append_getElem h, List.flatMap_append]
  simp
theorem hexs_len : ∀ l : List UInt8, (hexs l).length = 2 * l.length
  | [] => rfl
  | c :: l => by
    have := hexs_len l
    unfold hexs at this ⊢
    rw [List.flatMap_cons, List.length_append, this]
    simp
    omega
theorem dig_extract (n : Nat) (h : n < 16) : (str digits16).extract n (n + 1) = str [hx1 n] := by
  rw [str_extract]
  exact congrArg str ((by decide : ∀ k : Fin 16, (digits16.take (k.val + 1)).drop k.val = [hx1 k.val]) ⟨n, h⟩)
theorem dig_lit (n : Nat) (h : n < 16) : (⟨#[48, 49, 50, 51, 52, 53, 54, 55, 56, 57, 97, 98, 99, 100, 101, 102]⟩ : ByteArray).extract n (n + 1) = str [hx1 n] := dig_extract n h

set_option maxRecDepth 100000 in
set_option maxHeartbeats 1000000 in
theorem hex_calls (w : World) (l : List UInt8) (hl : l.length = 32) :
    Calls Tryd.prog 20 #[.agg (ba l)] w fun e w' => e = .returned (.string (str (hexs l))) ∧ Ext Non w w' := by
  have n1 := row_ne (n := 31) (a := ba l) (by rw [ba_size, hl])
  go_enter Tryd.func20, Tryd.ntmps20
  go_wp2_with fail
  go_loopw [3, 4] (fun t i wr => ∃ j : Nat, j ≤ 32 ∧ i = .int .i64 j ∧ t = .string (str (hexs (l.take j))) ∧ Blk wr w.heap.size 25 (ba l) ∧ Ext Non w wr) (fun _ i _ => 32 - (intOf i).toNat)
  case atStart => exact ⟨0, by omega, rfl, rfl, Blk.new _ _ _, (Ext.refl _ _).alloc _⟩
  case round =>
    clear n1
    obtain ⟨j, hj, rfl, rfl, hb, hx⟩ := hrel
    by_cases hlt : j < 32
    · have hsn := hexs_snoc l j (by omega)
      have hln := hexs_len (l.take j)
      rw [List.length_take, Nat.min_eq_left (by omega)] at hln
      have hgd : l.getD j 0 = l[j] := by simp [List.getD, show j < l.length from by omega]
      have hc0 := ba_get l j (by omega)
      rw [hgd] at hc0
      have c0 := hb.cell j
      rw [hc0] at c0
      have hb8 := l[j].toNat_lt
      generalize l[j].toNat = c at *
      obtain ⟨q, hq⟩ : ∃ q, c / 16 = q := ⟨_, rfl⟩
      obtain ⟨r, hr⟩ : ∃ r, c % 16 = r := ⟨_, rfl⟩
      rw [hq, hr] at hsn
      have e1 : (c : Int) / 16 = (q : Int) := by omega
      have e2 : (c : Int).tmod 16 = (r : Int) := by rw [Int.tmod_eq_emod_of_nonneg (by omega)]; omega
      have hq16 : q < 16 := by omega
      have hr16 : r < 16 := by omega
      have d1 := dig_lit q hq16
      have d2 := dig_lit r hr16
      have v1 : IntKind.u8.wrap (q : Int) = (q : Int) := by rw [IntKind.wrap_u8]; omega
      have v2 : IntKind.u8.wrap (r : Int) = (r : Int) := by rw [IntKind.wrap_u8]; omega
      have x1 : (q : Int) + 1 ≤ 16 := by omega
      have x2 : (r : Int) + 1 ≤ 16 := by omega
      have p1 : (0 : Int) ≤ (q : Int) + 1 := by omega
      have p2 : (0 : Int) ≤ (r : Int) + 1 := by omega
      have p3 : (q : Int) ≤ (q : Int) + 1 := by omega
      have p4 : (r : Int) ≤ (r : Int) + 1 := by omega
      have y1 : ((q : Int) + 1).toNat = q + 1 := by omega
      have y2 : ((r : Int) + 1).toNat = r + 1 := by omega
      have w1 : IntKind.u8.wrap ((q : Int) + 1) = (q : Int) + 1 := by rw [IntKind.wrap_u8]; omega
      have w2 : IntKind.u8.wrap ((r : Int) + 1) = (r : Int) + 1 := by rw [IntKind.wrap_u8]; omega
      obtain ⟨H, hH⟩ : ∃ H, hexs (l.take j) = H := ⟨_, rfl⟩
      rw [hH] at hsn hln
      obtain ⟨H1, hH1⟩ : ∃ H1, H ++ [hx1 q] = H1 := ⟨_, rfl⟩
      rw [hH1] at hsn
      obtain ⟨H2, hH2⟩ : ∃ H2, H1 ++ [hx1 r] = H2 := ⟨_, rfl⟩
      rw [hH2] at hsn
      have hl1 : H1.length = 2 * j + 1 := by rw [← hH1]; simp [hln]
      obtain ⟨s1, s2, s3, s4, s5⟩ := sum_facts hH1 (2 * j) 1 hln rfl (by omega)
      obtain ⟨s6, s7, s8, s9, s10⟩ := sum_facts hH2 (2 * j + 1) 1 hl1 rfl (by omega)
      have HSN := Lib.hid hsn
      rw [hH]
      have hi : (j : Int) < 32 := by omega
      clear hsn hH hH1 hH2 hq hr hgd hc0 hln hl1
      go_wp2_with fail
      have cw : ∀ W, Ext Non wr.drew W → W.cell? ⟨w.heap.size, j, none⟩ = some (.int .u8 (c : Int)) := fun W hW => hW.cell c0 (fun h => h)
      refine wp_region_seq Non ((0, true) :: (1, true) :: (2, true) :: (3, true) :: (4, true) :: (5, true) :: (6, true) :: (7, true) :: (8, true) :: (9, true) :: (10, true) :: (11, true) :: (12, true) :: (13, true) :: (14, true) :: (15, true) :: (16, true) :: (17, true) :: (18, true) :: (19, true) :: (20, true) :: (21, true) :: (22, true) :: (23, true) :: []) (by kernel_rfl) (by kernel_rfl) (by kernel_rfl) ?_
      iterate 24 (refine wpSeq_quiet rfl rfl ?_; apply Exists.intro; refine ⟨?_, ?_⟩; (intro W hW; have cc := cw W hW; go_simp; try with_reducible rfl); (intro K hK; simp only [Act.put, List.setIfInBounds_toArray, List.set_cons_zero, List.set_cons_succ]; refine hK _ ?_; clear hK K))
      refine wpSeq_end ?_
      clear cw
      go_wp2_with fail
      exact ⟨⟨j + 1, by omega, by go_num, by rw [HSN.out], hb.drew, hx.drew⟩, by simp [intOf]; omega⟩
    · obtain rfl : j = 32 := by omega
      rw [List.take_of_length_le (by omega)]
      go_wp2_with fail
      go_ret
      exact ⟨rfl, hx⟩

theorem hex_abc : (hexs (sha [97, 98, 99]) == [98, 97, 55, 56, 49, 54, 98, 102, 56, 102, 48, 49, 99, 102, 101, 97, 52, 49, 52, 49, 52, 48, 100, 101, 53, 100, 97, 101, 50, 50, 50, 51, 98, 48, 48, 51, 54, 49, 97, 51, 57, 54, 49, 55, 55, 97, 57, 99, 98, 52, 49, 48, 102, 102, 54, 49, 102, 50, 48, 48, 49, 53, 97, 100]) = true := by
  rw [sha_abc]; decide
theorem hex_none : (hexs (sha []) == [101, 51, 98, 48, 99, 52, 52, 50, 57, 56, 102, 99, 49, 99, 49, 52, 57, 97, 102, 98, 102, 52, 99, 56, 57, 57, 54, 102, 98, 57, 50, 52, 50, 55, 97, 101, 52, 49, 101, 52, 54, 52, 57, 98, 57, 51, 52, 99, 97, 52, 57, 53, 57, 57, 49, 98, 55, 56, 53, 50, 98, 56, 53, 53]) = true := by
  rw [sha_none]; decide
set_option maxRecDepth 100000 in
set_option maxHeartbeats 1000000 in
theorem shown_calls {w : World} (G : Glob w) (hw2 : 2 ≤ w.heap.size) :
    Calls Tryd.prog 11 #[] w fun e w' => e = .returned (.bool true) ∧ Ext Non w w' := by
  have kc := fun (w : World) (C : Array Value) (n c : Nat) => Lib.run_convert_bytes_const (P := Tryd.prog) w 24 5 C n c Tryd.underlying24 Tryd.underlying5
  go_enter Tryd.func11, Tryd.ntmps11
  go_wp2_with fail
  clear kc
  have p1 : Parts ((w.alloc (.cells #[.int .u8 97, .int .u8 98, .int .u8 99] 5 (3, 4))).alloc (.cells #[.slice (some ⟨w.heap.size, 0, none⟩) 3 3] 24)) (· < w.heap.size + 1 + 1) (some ⟨w.heap.size + 1, 0, none⟩) [⟨some ⟨w.heap.size, 0, none⟩, 3, [97, 98, 99]⟩] := by
    have := parts_new (w := w.alloc (.cells #[.int .u8 97, .int .u8 98, .int .u8 99] 5 (3, 4))) 24 [⟨some ⟨w.heap.size, 0, none⟩, 3, [97, 98, 99]⟩] (D := (· < w.heap.size + 1)) (fun k hk => by simpa using hk) (fun x hx => by
      simp only [List.mem_cons, List.not_mem_nil, or_false] at hx
      subst hx
      exact ⟨rd_mark w 5 (bvs [97, 98, 99]) (3, 4), Nat.le_refl 3⟩)
    rw [World.size_alloc] at this
    exact this
  have X1 : Ext Non w ((w.alloc (.cells #[.int .u8 97, .int .u8 98, .int .u8 99] 5 (3, 4))).alloc (.cells #[.slice (some ⟨w.heap.size, 0, none⟩) 3 3] 24)) := ((Ext.refl _ _).alloc _).alloc _
  have ctr := psum_calls 1 1 p1 rfl (by decide) (G.extN X1) (by simp) (fun k hk => by simpa using hk) (by show 3 ≤ _; omega) (by decide)
  with_reducible refine Calls.mono ctr ?_
  clear ctr
  rintro e w1 ⟨rfl, x1⟩
  have X2 := X1.transN x1
  have hs3 := sha_len [97, 98, 99]
  go_wp2_with fail
  have ctr := hex_calls w1 (sha (allOf [⟨some ⟨w.heap.size, 0, none⟩, 3, [97, 98, 99]⟩])) hs3
  with_reducible refine Calls.mono ctr ?_
  clear ctr
  rintro e w2 ⟨rfl, x2⟩
  have X3 := X2.transN x2
  clear p1 X1 x1 x2 X2 hs3
  have hw3 := X3.size
  have p0 : Parts w2 Non none [] := ⟨Rd.nil, fun x hx => nomatch hx⟩
  go_wp2_with fail
  have ctr := psum_calls 0 0 p0 rfl (by decide) (G.extN X3) (by omega) (fun k hk => hk.elim) (by decide) (by decide)
  with_reducible refine Calls.mono ctr ?_
  clear ctr
  rintro e w3 ⟨rfl, x3⟩
  have hs0 := sha_len []
  go_wp2_with fail
  have ctr := hex_calls w3 (sha (allOf [])) hs0
  with_reducible refine Calls.mono ctr ?_
  clear ctr
  rintro e w4 ⟨rfl, x4⟩
  have h1 := hex_abc
  have h2 := hex_none
  rw [show allOf [⟨some ⟨w.heap.size, 0, none⟩, 3, [97, 98, 99]⟩] = [97, 98, 99] from rfl, show allOf [] = [] from rfl]
  generalize hexs (sha [97, 98, 99]) = t1 at *
  generalize hexs (sha []) = t2 at *
  go_wp2_with fail
  go_ret
  exact ⟨rfl, (X3.transN x3).transN x4⟩

end Go.Proofs.YtbhplepbccgecaaDoor
