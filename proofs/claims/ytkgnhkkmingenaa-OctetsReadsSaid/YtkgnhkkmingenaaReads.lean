/- The law OctetsReads: bytes are taken as the document says; for any bytes and any steps: the Go text returns true. -/
import Derived.Deep.CutBlock
import Derived.Test.YtkgnhkkmingenaaRef01
import Derived.Test.YtkgnhkkmingenaaDec
namespace Go.Proofs.Ytkgnhkkmingenaa
open Go.RowKit

theorem bvs_take3 (l : List UInt8) (n : Nat) : bvs (l.take n) = (bvs l).take n := by simp [bvs]

/-- What holds between two rounds of OctetsReads: the reader at p, the document's at q, the sizes at z; all blocks are the call's own. -/
structure RInv (w wr : World) (s p q z : Nat) (M : List UInt8) : Prop where
  len : M.length ≤ 200
  a : Rdr wr p (Iv s p) M
  b : Blk wr q 66 #[.string (str M)]
  c : Blk wr z 3 #[.int .i64 0, .int .i64 1, .int .i64 2, .int .i64 4, .int .i64 8]
  ext : Ext Non w wr

theorem RInv.extN {w wr wr' : World} {s p q z : Nat} {M : List UInt8} (I : RInv w wr s p q z M) (x : Ext Non wr wr') : RInv w wr' s p q z M :=
  ⟨I.len, I.a.extN x, I.b.extN_ x, I.c.extN_ x, I.ext.transN x⟩

theorem RInv.drew {w wr : World} {s p q z : Nat} {M : List UInt8} (I : RInv w wr s p q z M) : RInv w wr.drew s p q z M :=
  ⟨I.len, I.a.drew, I.b.drew, I.c.drew, I.ext.drew⟩
theorem RInv.far {S : Nat → Prop} {w wr wr' : World} {s p q z : Nat} {M : List UInt8} (I : RInv w wr s p q z M) (h1 : p < q) (h2 : q < z) (x : Ext S wr wr') (hS : ∀ k, S k → z < k) (hw : w.heap.size ≤ z) : RInv w wr' s p q z M :=
  ⟨I.len, I.a.ext x (fun h => by have := hS _ h; omega) (fun k hk h => by have := hS _ h; have := hk.2; omega), I.b.ext x (fun h => by have := hS _ h; omega), I.c.ext x (fun h => by have := hS _ h; omega), I.ext.trans x (fun i hi h => by have := hS _ h; omega)⟩

/-- The elements of the steps, two numbers each. -/
def steps (w : World) (A : Option Addr) (n : Nat) : Prop := ∀ i, i < n → A.isSome = true ∧ ∃ k m : Int, (Lit.int .i64 k).wf = true ∧ (Lit.int .i64 m).wf = true ∧
  w.cell? ((A.getD default).add (i * 2)) = some (.int .i64 k) ∧ w.cell? ⟨((A.getD default).add (i * 2)).block, ((A.getD default).add (i * 2)).off + 1, none⟩ = some (.int .i64 m) ∧ (A.getD default).block < w.heap.size

set_option maxRecDepth 100000 in
set_option maxHeartbeats 4000000 in
theorem reads_walk (A0 : Option Addr) (n0 c0 : Nat) (l0 : List UInt8) (A1 : Option Addr) (n1 c1 : Nat) (w : World)
    (hn0 : l0.length = n0) (hc0 : n0 ≤ c0) (r0 : Rd w (· < w.heap.size) A0 (bvs l0)) (hs : steps w A1 n1) :
    Calls Try.prog 9 #[.slice A0 n0 c0, .slice A1 n1 c1] w fun e w' => e = .returned (.bool true) ∧ Below w.heap.size w w' := by
  obtain ⟨k0, hk0, hk0a, hk0b, _⟩ := min_at n0 200 (by omega)
  obtain ⟨L, hL⟩ : ∃ L, L = l0.take k0 := ⟨_, rfl⟩
  have hLl : L.length = k0 := by rw [hL]; simp; omega
  have rL : Rd w (· < w.heap.size) A0 (bvs L) := by rw [hL, bvs_take3]; exact r0.take k0
  clear hL r0 hn0
  go_enter Try.func9, Try.ntmps9
  go_wp2_with fail
  have ctr := shown_calls w
  with_reducible refine Calls.mono ctr ?_
  clear ctr
  rintro e w1 ⟨rfl, x1⟩
  have ha0 : OwB (w1.alloc (.cells #[] 5)) w1.heap.size (some ⟨w1.heap.size, 0, none⟩) 0 [] := World.ownsRow_made w1 #[] 0 (Nat.le_refl _) (by simp [maxLen]) rfl
  have hx0 : Ext Non w1 (w1.alloc (.cells #[] 5)) := (Ext.refl _ w1).alloc _
  go_wp2_with (at_builtin; refine wp_ap8 rfl (.tmp 25) (.tmp 30) rfl 0 rfl ha0 rfl k0 c0 rfl ((rL.extN x1).extN hx0) hLl (by simpa using (by omega : L.length ≤ 70368744177664)) (by simp) ?_; intro A2 c2 w2 o2 x2 hob2)
  rw [List.nil_append] at o2
  have hs12 : w1.heap.size + 1 ≤ w2.heap.size := by have := x2.size; simpa using this
  have X2 : Ext Non w w2 := (x1.transN hx0).trans x2 (fun i hi he => by simp [ob] at he; have := x1.size; omega)
  have ctr := read_calls c2 k0 o2.rd hLl (by omega)
  with_reducible refine Calls.mono ctr ?_
  clear ctr
  rintro e w3 ⟨p, rfl, R3, hp, x3⟩
  have o3 := o2.extN x3
  have hp3 := R3.lt
  have cv := run_convert_rd (P := Try.prog) w3 22 9 5 Try.underlying22 Try.underlying9 Try.underlying5 o3.rd k0 c2 hLl
  have x4 : Ext Non w3 (w3.alloc (.cells #[.string (str L)] 66)) := (Ext.refl _ _).alloc _
  have o4 := o3.extN x4
  have B4 := Blk.new w3 66 #[.string (str L)]
  have R4 := R3.extN x4
  have X4 := (X2.transN x3).transN x4
  have hA2 : ∀ k, ob A2 = some k → w.heap.size ≤ k ∧ k < w2.heap.size := fun k hk => ⟨by have := (o2.lt hk).1; have := x1.size; omega, (o2.lt hk).2⟩
  have hp' : w.heap.size ≤ p := by have := x1.size; omega
  clear o2 o3 x2 hob2 ha0 hx0 x3
  go_wp2_with fail
  clear cv
  go_loopw [9] (fun i wr => ∃ (j : Nat) (l' : List UInt8), j ≤ k0 ∧ i = .int .i64 j ∧ l'.length = k0 ∧ OwB wr w1.heap.size A2 c2 l' ∧ Rdr wr p (Iv w2.heap.size p) L ∧ Blk wr w3.heap.size 66 #[.string (str L)] ∧ Ext Non w wr) (fun i _ => k0 - (intOf i).toNat)
  case atStart => exact ⟨0, L, by omega, rfl, hLl, o4, R4, B4, X4⟩
  case round =>
    obtain ⟨j, l', hj, rfl, hl', o, R, B, X⟩ := hrel
    by_cases hjk : j < k0
    · obtain ⟨hA, ⟨u, hc⟩, hf, o', x'⟩ := o.set_ (j := j) (by omega) 63 63 rfl
      have hne : ∀ k, ob A2 = some k → k ≠ p ∧ k ≠ w3.heap.size ∧ k < w2.heap.size ∧ w.heap.size ≤ k := fun k hk => by have := hA2 k hk; omega
      have R' := R.ext x' (fun hk => (hne p hk).1 rfl) (fun k hk he => by have h1 := hk.1; have h2 := (hne k he).2.2.1; omega)
      have B' := B.ext x' (fun hk => (hne _ hk).2.1 rfl)
      have X' := X.trans x' (fun i hi he => by have h2 := (hne i he).2.2.2; omega)
      clear hne
      go_wp2
      exact ⟨⟨j + 1, l'.set j 63, by omega, by go_num, by simpa using hl', o', R', B', X'⟩, by simp [intOf]; omega⟩
    · have z5 : Ext Non wr (wr.alloc (.cells #[.int .i64 0, .int .i64 1, .int .i64 2, .int .i64 4, .int .i64 8] 3)) := (Ext.refl _ _).alloc _
      have I0 : RInv w (wr.alloc (.cells #[.int .i64 0, .int .i64 1, .int .i64 2, .int .i64 4, .int .i64 8] 3)) w2.heap.size p w3.heap.size wr.heap.size L := ⟨by omega, R.extN z5, B.extN_ z5, Blk.new _ _ _, X.transN z5⟩
      have hq : p < w3.heap.size ∧ w3.heap.size < wr.heap.size := ⟨hp3, B.lt⟩
      have hwp : w.heap.size ≤ w2.heap.size := X2.size
      clear X2 X4 x4 o4 B4 R4 o R B X z5 hp3 hs12 hl' hj hA2
      go_wp2
      generalize wr.heap.size = z at *
      go_loopw [11] (fun i wr => ∃ (j : Nat) (M : List UInt8), j ≤ 50 ∧ i = .int .i64 j ∧ RInv w wr w2.heap.size p w3.heap.size z M) (fun i _ => 50 - (intOf i).toNat)
      case atStart => exact ⟨0, L, by omega, rfl, I0⟩
      case round =>
        obtain ⟨j, M, hj, rfl, I⟩ := hrel
        by_cases hj1 : j < n1 ∧ j < 50
        · obtain ⟨hj1, hj50⟩ := hj1
          have hj50' : (j : Int) < 50 := by omega
          obtain ⟨hA, K, N, wK, wN, cK, cN, bA⟩ := hs j hj1
          replace cK := I.ext.cell cK (fun h => h)
          replace cN := I.ext.cell cN (fun h => h)
          have y0 : Ext Non wr (wr.alloc (.cells #[.int .i64 K, .int .i64 N] 69)) := (Ext.refl _ _).alloc _
          have I0' := I.extN y0
          have bS := Blk.new wr 69 #[.int .i64 K, .int .i64 N]
          have hqz := I.c.lt
          have hzS : z < wr.heap.size := I.c.lt
          have hz0 := hq.2
          have hp0 := hq.1
          have hl200 := I.len
          have bS0 := bS.cell 0
          have bS1 := bS.cell 1
          have hW0 : (wr.alloc (.cells #[.int .i64 K, .int .i64 N] 69)).heap.size = wr.heap.size + 1 := by simp
          obtain ⟨b5, hb5⟩ : ∃ b, wr.heap.size + 1 = b := ⟨_, rfl⟩
          rw [hb5] at hW0
          have HB5 := Lib.hid hb5
          have HW0 := Lib.hid hW0
          clear hW0 hb5
          have Idr := I
          clear I0 I
          go_upto_block 4 with (fail)
          go_cut [13] (fun s13 wc => s13 = .bool true ∧ ∃ M', RInv w wc w2.heap.size p w3.heap.size z M')
          case rest =>
            obtain ⟨rfl, M5, T⟩ := hcut
            as_aux_lemma =>
            clear I0' bS bS0 bS1 HW0 HB5 Idr hs hA cK cN
            go_wp2_with fail
            obtain ⟨n5, hn5⟩ : ∃ n, M5.length = n := ⟨_, rfl⟩
            have hsz : (str M5).size = n5 := by rw [str_size, hn5]
            have hbq := fun W hW => (Blk.extN_ T.b.drew (w' := W) hW).cell 0
            refine wp_region_seq Non [(0, true), (1, true), (2, true), (3, true), (5, true), (6, true), (7, true), (8, true), (9, true), (4, false), (10, true), (11, true)] (by kernel_rfl) (by kernel_rfl) (by kernel_rfl) ?_
            iterate 9 (refine wpSeq_quiet rfl rfl ?_; apply Exists.intro; refine ⟨?_, ?_⟩; (intro W hW; have cl := hbq W hW; go_simp; try with_reducible rfl); (intro K hK; simp only [Act.put, List.setIfInBounds_toArray, List.set_cons_zero, List.set_cons_succ]; refine hK _ ?_; clear hK K))
            refine wpSeq_call rfl rfl (fun K hK => ?_)
            go_simp
            have ctr := left_calls T.a.drew
            with_reducible refine Calls.mono ctr ?_
            clear ctr
            rintro e v ⟨rfl, rfl⟩
            go_simp
            refine hK _ _ (Ext.refl _ _) ?_
            clear hK K hbq
            iterate 2 (refine wpSeq_quiet rfl rfl ?_; apply Exists.intro; refine ⟨?_, ?_⟩; (intro W hW; go_simp; try with_reducible rfl); (intro K hK; simp only [Act.put, List.setIfInBounds_toArray, List.set_cons_zero, List.set_cons_succ]; refine hK _ ?_; clear hK K))
            refine wpSeq_end ?_
            go_wp2_with fail
            exact ⟨⟨j + 1, _, by omega, by go_num, T.drew⟩, by simp [intOf]; omega⟩
          case first =>
            by_cases hk1 : K = 1 ∨ K = 2 ∨ K = 3 ∨ K = 4
            · skip
              rcases hk1 with rfl | rfl | rfl | rfl
              · by_cases hz : 1 ≤ M.length
                · as_aux_lemma =>
                  go_wp2_with fail
                  have ctr := got1_ok I0'.a (by intro h; exact absurd h.2 (by omega)) hz
                  with_reducible refine Calls.mono ctr ?_
                  clear ctr
                  rintro e v1 ⟨rfl, r1, y1⟩
                  have c1 := (I0'.c.ext y1 (fun h => by have : z = p := h; omega)).cell 1
                  have s1 := (bS.ext y1 (fun h => by have : wr.heap.size = p := h; omega)).cell 0
                  have b1 := I0'.b.ext y1 (fun h => by have : w3.heap.size = p := h; omega)
                  go_wp2_with fail
                  have ctr := rtake_ok b1 1 1 rfl hz
                  with_reducible refine Calls.mono ctr ?_
                  clear ctr
                  rintro e v2 ⟨rfl, b2, y2⟩
                  have T : RInv w v2 w2.heap.size p w3.heap.size z (M.drop 1) := ⟨by simp; omega, r1.one y2 (by omega) (by omega), b2, (I0'.c.ext y1 (fun h => by have : z = p := h; omega)).ext y2 (fun h => by have : z = w3.heap.size := h; omega), (I0'.ext.trans y1 (fun i hi he => by have : i = p := he; omega)).trans y2 (fun i hi he => by have : i = w3.heap.size := he; omega)⟩
                  clear c1 s1 b1
                  go_wp2_with fail
                  go_meet
                  case rel => exact ⟨rfl, _, T⟩
                · as_aux_lemma =>
                  go_wp2_with fail
                  have ctr := got1_short I0'.a (by omega)
                  with_reducible refine Calls.mono ctr ?_
                  clear ctr
                  rintro e v1 ⟨rfl, y1⟩
                  have c1 := (I0'.c.extN_ y1).cell 1
                  have s1 := (bS.extN_ y1).cell 0
                  have b1 := I0'.b.extN_ y1
                  go_wp2_with fail
                  have ctr := rtake_short b1 1 (by omega)
                  with_reducible refine Calls.mono ctr ?_
                  clear ctr
                  rintro e v2 ⟨rfl, rfl⟩
                  have T := I0'.extN y1
                  clear c1 s1 b1
                  go_wp2_with fail
                  go_meet
                  case rel => exact ⟨rfl, _, T⟩
              · by_cases hz : 2 ≤ M.length
                · as_aux_lemma =>
                  go_wp2_with fail
                  have ctr := got2_ok I0'.a (by intro h; exact absurd h.2 (by omega)) hz
                  with_reducible refine Calls.mono ctr ?_
                  clear ctr
                  rintro e v1 ⟨rfl, r1, y1⟩
                  have c1 := (I0'.c.ext y1 (fun h => by have : z = p := h; omega)).cell 2
                  have s1 := (bS.ext y1 (fun h => by have : wr.heap.size = p := h; omega)).cell 0
                  have b1 := I0'.b.ext y1 (fun h => by have : w3.heap.size = p := h; omega)
                  go_wp2_with fail
                  have ctr := rtake_ok b1 2 2 rfl hz
                  with_reducible refine Calls.mono ctr ?_
                  clear ctr
                  rintro e v2 ⟨rfl, b2, y2⟩
                  have T : RInv w v2 w2.heap.size p w3.heap.size z (M.drop 2) := ⟨by simp; omega, r1.one y2 (by omega) (by omega), b2, (I0'.c.ext y1 (fun h => by have : z = p := h; omega)).ext y2 (fun h => by have : z = w3.heap.size := h; omega), (I0'.ext.trans y1 (fun i hi he => by have : i = p := he; omega)).trans y2 (fun i hi he => by have : i = w3.heap.size := he; omega)⟩
                  clear c1 s1 b1
                  go_wp2_with fail
                  go_meet
                  case rel => exact ⟨rfl, _, T⟩
                · as_aux_lemma =>
                  go_wp2_with fail
                  have ctr := got2_short I0'.a (by omega)
                  with_reducible refine Calls.mono ctr ?_
                  clear ctr
                  rintro e v1 ⟨rfl, y1⟩
                  have c1 := (I0'.c.extN_ y1).cell 2
                  have s1 := (bS.extN_ y1).cell 0
                  have b1 := I0'.b.extN_ y1
                  go_wp2_with fail
                  have ctr := rtake_short b1 2 (by omega)
                  with_reducible refine Calls.mono ctr ?_
                  clear ctr
                  rintro e v2 ⟨rfl, rfl⟩
                  have T := I0'.extN y1
                  clear c1 s1 b1
                  go_wp2_with fail
                  go_meet
                  case rel => exact ⟨rfl, _, T⟩
              · by_cases hz : 4 ≤ M.length
                · as_aux_lemma =>
                  go_wp2_with fail
                  have ctr := got3_ok I0'.a (by intro h; exact absurd h.2 (by omega)) hz
                  with_reducible refine Calls.mono ctr ?_
                  clear ctr
                  rintro e v1 ⟨rfl, r1, y1⟩
                  have c1 := (I0'.c.ext y1 (fun h => by have : z = p := h; omega)).cell 3
                  have s1 := (bS.ext y1 (fun h => by have : wr.heap.size = p := h; omega)).cell 0
                  have b1 := I0'.b.ext y1 (fun h => by have : w3.heap.size = p := h; omega)
                  go_wp2_with fail
                  have ctr := rtake_ok b1 4 4 rfl hz
                  with_reducible refine Calls.mono ctr ?_
                  clear ctr
                  rintro e v2 ⟨rfl, b2, y2⟩
                  have T : RInv w v2 w2.heap.size p w3.heap.size z (M.drop 4) := ⟨by simp; omega, r1.one y2 (by omega) (by omega), b2, (I0'.c.ext y1 (fun h => by have : z = p := h; omega)).ext y2 (fun h => by have : z = w3.heap.size := h; omega), (I0'.ext.trans y1 (fun i hi he => by have : i = p := he; omega)).trans y2 (fun i hi he => by have : i = w3.heap.size := he; omega)⟩
                  clear c1 s1 b1
                  go_wp2_with fail
                  go_meet
                  case rel => exact ⟨rfl, _, T⟩
                · as_aux_lemma =>
                  go_wp2_with fail
                  have ctr := got3_short I0'.a (by omega)
                  with_reducible refine Calls.mono ctr ?_
                  clear ctr
                  rintro e v1 ⟨rfl, y1⟩
                  have c1 := (I0'.c.extN_ y1).cell 3
                  have s1 := (bS.extN_ y1).cell 0
                  have b1 := I0'.b.extN_ y1
                  go_wp2_with fail
                  have ctr := rtake_short b1 4 (by omega)
                  with_reducible refine Calls.mono ctr ?_
                  clear ctr
                  rintro e v2 ⟨rfl, rfl⟩
                  have T := I0'.extN y1
                  clear c1 s1 b1
                  go_wp2_with fail
                  go_meet
                  case rel => exact ⟨rfl, _, T⟩
              · by_cases hz : 8 ≤ M.length
                · as_aux_lemma =>
                  go_wp2_with fail
                  have ctr := got4_ok I0'.a (by intro h; exact absurd h.2 (by omega)) hz
                  with_reducible refine Calls.mono ctr ?_
                  clear ctr
                  rintro e v1 ⟨rfl, r1, y1⟩
                  have c1 := (I0'.c.ext y1 (fun h => by have : z = p := h; omega)).cell 4
                  have s1 := (bS.ext y1 (fun h => by have : wr.heap.size = p := h; omega)).cell 0
                  have b1 := I0'.b.ext y1 (fun h => by have : w3.heap.size = p := h; omega)
                  go_wp2_with fail
                  have ctr := rtake_ok b1 8 8 rfl hz
                  with_reducible refine Calls.mono ctr ?_
                  clear ctr
                  rintro e v2 ⟨rfl, b2, y2⟩
                  have T : RInv w v2 w2.heap.size p w3.heap.size z (M.drop 8) := ⟨by simp; omega, r1.one y2 (by omega) (by omega), b2, (I0'.c.ext y1 (fun h => by have : z = p := h; omega)).ext y2 (fun h => by have : z = w3.heap.size := h; omega), (I0'.ext.trans y1 (fun i hi he => by have : i = p := he; omega)).trans y2 (fun i hi he => by have : i = w3.heap.size := he; omega)⟩
                  clear c1 s1 b1
                  go_wp2_with fail
                  go_meet
                  case rel => exact ⟨rfl, _, T⟩
                · as_aux_lemma =>
                  go_wp2_with fail
                  have ctr := got4_short I0'.a (by omega)
                  with_reducible refine Calls.mono ctr ?_
                  clear ctr
                  rintro e v1 ⟨rfl, y1⟩
                  have c1 := (I0'.c.extN_ y1).cell 4
                  have s1 := (bS.extN_ y1).cell 0
                  have b1 := I0'.b.extN_ y1
                  go_wp2_with fail
                  have ctr := rtake_short b1 8 (by omega)
                  with_reducible refine Calls.mono ctr ?_
                  clear ctr
                  rintro e v2 ⟨rfl, rfl⟩
                  have T := I0'.extN y1
                  clear c1 s1 b1
                  go_wp2_with fail
                  go_meet
                  case rel => exact ⟨rfl, _, T⟩
            · obtain ⟨h1, h2, h3, h4⟩ : K ≠ 1 ∧ K ≠ 2 ∧ K ≠ 3 ∧ K ≠ 4 := ⟨fun h => hk1 (by simp [h]), fun h => hk1 (by simp [h]), fun h => hk1 (by simp [h]), fun h => hk1 (by simp [h])⟩
              have hS0 : (wr.alloc (.cells #[.int .i64 K, .int .i64 N] 69)).heap.size = b5 := HW0.out
              have HS0 := Lib.hid hS0
              clear hS0
              by_cases h5 : K = 5
              · subst h5
                have cvN := fun W : World => run_convert_rd (P := Try.prog) W 22 9 5 Try.underlying22 Try.underlying9 Try.underlying5 (A := none) (D := Non) (l := []) Rd.nil 0 0 rfl
                by_cases hneg : N < 0
                · as_aux_lemma =>
                  go_wp2_with fail
                  have ctr := bytes_arg (w := wr.alloc (.cells #[.int .i64 5, .int .i64 N] 69)) p N hneg
                  with_reducible refine Calls.mono ctr ?_
                  clear ctr
                  rintro e v1 ⟨rfl, rfl⟩
                  go_wp2_with fail
                  have ctr := rtake_arg (wr.alloc (.cells #[.int .i64 5, .int .i64 N] 69)) w3.heap.size N hneg
                  with_reducible refine Calls.mono ctr ?_
                  clear ctr
                  rintro e v2 ⟨rfl, rfl⟩
                  go_wp2_with fail
                  have T := I0'
                  have o5 := OwB.nil (wr.alloc (.cells #[.int .i64 5, .int .i64 N] 69)) b5
                  have hn6 : ([] : List UInt8).length = 0 := rfl
                  have cv := cvN
                  clear cvN
                  have hb5 : z < b5 := by have := HB5.out; omega
                  have T0 := T
                  have o0 := o5
                  clear cv
                  go_loopw [23] (fun i wr => ∃ (k : Nat) (l' : List UInt8), k ≤ 0 ∧ i = .int .i64 k ∧ l'.length = 0 ∧ OwB wr b5 none 0 l' ∧ RInv w wr w2.heap.size p w3.heap.size z (M)) (fun i _ => 0 - (intOf i).toNat)
                  case atStart => exact ⟨0, _, by omega, rfl, hn6, o5, T⟩
                  case round =>
                    clear T T0 o5 o0
                    obtain ⟨k, l', hk, rfl, hl', o, T⟩ := hrel
                    by_cases hk6 : k < 0
                    · exact absurd hk6 (by omega)
                    · go_wp2_with fail
                      go_meet
                      case rel => exact ⟨rfl, _, T⟩
                · by_cases hsh : (M.length : Int) < N
                  · as_aux_lemma =>
                    go_wp2_with fail
                    have ctr := bytes_short I0'.a N hsh
                    with_reducible refine Calls.mono ctr ?_
                    clear ctr
                    rintro e v1 ⟨rfl, rfl⟩
                    go_wp2_with fail
                    have ctr := rtake_short I0'.b N hsh
                    with_reducible refine Calls.mono ctr ?_
                    clear ctr
                    rintro e v2 ⟨rfl, rfl⟩
                    go_wp2_with fail
                    have T := I0'
                    have o5 := OwB.nil (wr.alloc (.cells #[.int .i64 5, .int .i64 N] 69)) b5
                    have hn6 : ([] : List UInt8).length = 0 := rfl
                    have cv := cvN
                    clear cvN
                    have hb5 : z < b5 := by have := HB5.out; omega
                    have T0 := T
                    have o0 := o5
                    clear cv
                    go_loopw [23] (fun i wr => ∃ (k : Nat) (l' : List UInt8), k ≤ 0 ∧ i = .int .i64 k ∧ l'.length = 0 ∧ OwB wr b5 none 0 l' ∧ RInv w wr w2.heap.size p w3.heap.size z (M)) (fun i _ => 0 - (intOf i).toNat)
                    case atStart => exact ⟨0, _, by omega, rfl, hn6, o5, T⟩
                    case round =>
                      clear T T0 o5 o0
                      obtain ⟨k, l', hk, rfl, hl', o, T⟩ := hrel
                      by_cases hk6 : k < 0
                      · exact absurd hk6 (by omega)
                      · go_wp2_with fail
                        go_meet
                        case rel => exact ⟨rfl, _, T⟩
                  · clear cvN
                    obtain ⟨n6, rfl⟩ : ∃ n : Nat, N = n := ⟨N.toNat, by omega⟩
                    have hn6' : n6 ≤ M.length := by omega
                    go_wp2_with fail
                    have ctr := bytes_ok I0'.a (by intro h; exact absurd h.2 (by omega)) (n6 : Int) n6 rfl hn6'
                    with_reducible refine Calls.mono ctr ?_
                    clear ctr
                    rintro e v1 ⟨A5, c5, rfl, o1, r1, y1⟩
                    have s1 := (bS.ext y1 (fun h => by have : wr.heap.size = p := h; omega)).cell 1
                    have b1 := I0'.b.ext y1 (fun h => by have : w3.heap.size = p := h; omega)
                    go_wp2_with fail
                    have ctr := rtake_ok b1 (n6 : Int) n6 rfl hn6'
                    with_reducible refine Calls.mono ctr ?_
                    clear ctr
                    rintro e v2 ⟨rfl, b2, y2⟩
                    have T : RInv w v2 w2.heap.size p w3.heap.size z (M.drop n6) := ⟨by simp; omega, r1.one y2 (by omega) (by omega), b2, (I0'.c.ext y1 (fun h => by have : z = p := h; omega)).ext y2 (fun h => by have : z = w3.heap.size := h; omega), (I0'.ext.trans y1 (fun i hi he => by have : i = p := he; omega)).trans y2 (fun i hi he => by have : i = w3.heap.size := he; omega)⟩
                    clear s1 b1
                    have hW0 := HW0.out
                    have o5 : OwB v2 b5 A5 c5 (M.take n6) := (hW0 ▸ o1).ext y2 (fun k hk he => by have h1 := (o1.lt hk).1; have h2 : k = w3.heap.size := he; have h3 := HB5.out; omega)
                    clear hW0
                    have hn6 : (M.take n6).length = n6 := by simp; omega
                    have cv := run_convert_rd (P := Try.prog) v2 22 9 5 Try.underlying22 Try.underlying9 Try.underlying5 o5.rd n6 c5 hn6
                    go_wp2_with fail
                    have hb5 : z < b5 := by have := HB5.out; omega
                    have T0 := T
                    have o0 := o5
                    clear cv
                    go_loopw [23] (fun i wr => ∃ (k : Nat) (l' : List UInt8), k ≤ n6 ∧ i = .int .i64 k ∧ l'.length = n6 ∧ OwB wr b5 A5 c5 l' ∧ RInv w wr w2.heap.size p w3.heap.size z (M.drop n6)) (fun i _ => n6 - (intOf i).toNat)
                    case atStart => exact ⟨0, _, by omega, rfl, hn6, o5, T⟩
                    case round =>
                      clear T T0 o5 o0
                      obtain ⟨k, l', hk, rfl, hl', o, T⟩ := hrel
                      by_cases hk6 : k < n6
                      · obtain ⟨hA, ⟨u, hc⟩, hf, o', x'⟩ := o.set_ (j := k) (by omega) 33 33 rfl
                        have hne : ∀ k, ob A5 = some k → z < k ∧ p < k ∧ w3.heap.size < k := fun k hk => by have := (o.lt hk).1; omega
                        have T' := T.far (by omega) (by omega) x' (fun k hk => by have := hne k hk; omega) (by omega)
                        clear hne
                        go_wp2
                        exact ⟨⟨k + 1, l'.set k 33, by omega, by go_num, by simpa using hl', o', T'⟩, by simp [intOf]; omega⟩
                      · go_wp2_with fail
                        go_meet
                        case rel => exact ⟨rfl, _, T⟩
              · by_cases h6 : K = 6
                · subst h6
                  clear h5
                  obtain ⟨n6, hn6⟩ : ∃ n : Nat, M.length = n := ⟨_, rfl⟩
                  have hsz6 : (str M).size = n6 := by rw [str_size, hn6]
                  go_wp2_with fail
                  have ctr := rest_calls I0'.a (by intro h; exact absurd h.2 (by omega)) n6 hn6
                  with_reducible refine Calls.mono ctr ?_
                  clear ctr
                  rintro e v1 ⟨A5, c5, rfl, o1, r1, y1⟩
                  have b1 := I0'.b.ext y1 (fun h => by have : w3.heap.size = p := h; omega)
                  have b1c := b1.cell 0
                  go_wp2_with fail
                  have ctr := rtake_ok b1 (n6 : Int) n6 rfl (by omega)
                  with_reducible refine Calls.mono ctr ?_
                  clear ctr
                  rintro e v2 ⟨rfl, b2, y2⟩
                  have hM0 : M.drop n6 = [] := List.drop_of_length_le (by omega)
                  have hM1 : M.take n6 = M := List.take_of_length_le (by omega)
                  rw [hM0] at b2
                  rw [hM1]
                  have T : RInv w v2 w2.heap.size p w3.heap.size z [] := ⟨by simp, r1.one y2 (by omega) (by omega), b2, (I0'.c.ext y1 (fun h => by have : z = p := h; omega)).ext y2 (fun h => by have : z = w3.heap.size := h; omega), (I0'.ext.trans y1 (fun i hi he => by have : i = p := he; omega)).trans y2 (fun i hi he => by have : i = w3.heap.size := he; omega)⟩
                  clear b1 b1c hM0 hM1
                  have hW0 := HW0.out
                  have o5 : OwB v2 b5 A5 c5 M := (hW0 ▸ o1).ext y2 (fun k hk he => by have h1 := (o1.lt hk).1; have h2 : k = w3.heap.size := he; have h3 := HB5.out; omega)
                  clear hW0
                  have cv := run_convert_rd (P := Try.prog) v2 22 9 5 Try.underlying22 Try.underlying9 Try.underlying5 o5.rd n6 c5 hn6
                  go_wp2_with fail
                  have hb5 : z < b5 := by have := HB5.out; omega
                  have T0 := T
                  have o0 := o5
                  clear cv
                  go_loopw [23] (fun i wr => ∃ (k : Nat) (l' : List UInt8), k ≤ n6 ∧ i = .int .i64 k ∧ l'.length = n6 ∧ OwB wr b5 A5 c5 l' ∧ RInv w wr w2.heap.size p w3.heap.size z (([] : List UInt8))) (fun i _ => n6 - (intOf i).toNat)
                  case atStart => exact ⟨0, _, by omega, rfl, hn6, o5, T⟩
                  case round =>
                    clear T T0 o5 o0
                    obtain ⟨k, l', hk, rfl, hl', o, T⟩ := hrel
                    by_cases hk6 : k < n6
                    · obtain ⟨hA, ⟨u, hc⟩, hf, o', x'⟩ := o.set_ (j := k) (by omega) 33 33 rfl
                      have hne : ∀ k, ob A5 = some k → z < k ∧ p < k ∧ w3.heap.size < k := fun k hk => by have := (o.lt hk).1; omega
                      have T' := T.far (by omega) (by omega) x' (fun k hk => by have := hne k hk; omega) (by omega)
                      clear hne
                      go_wp2
                      exact ⟨⟨k + 1, l'.set k 33, by omega, by go_num, by simpa using hl', o', T'⟩, by simp [intOf]; omega⟩
                    · go_wp2_with fail
                      go_meet
                      case rel => exact ⟨rfl, _, T⟩
                · by_cases h7 : K = 7
                  · subst h7
                    clear h5 h6
                    go_wp2_with fail
                    have hbc := fun W hW => (Blk.extN_ I0'.b.drew (w' := W) hW).cell 0
                    cases M with
                    | nil =>
                    as_aux_lemma =>
                      refine wp_region_seq Non [(0, true), (3, true), (4, true), (5, true), (6, true), (7, true), (1, false), (2, true), (8, true), (9, true), (10, true), (13, true), (14, true), (15, true), (16, true), (17, true), (11, false), (12, true), (18, true), (19, true), (20, true)] (by kernel_rfl) (by kernel_rfl) (by kernel_rfl) ?_
                      iterate 6 (refine wpSeq_quiet rfl rfl ?_; apply Exists.intro; refine ⟨?_, ?_⟩; (intro W hW; have cl := hbc W hW; go_simp; try with_reducible rfl); (intro K hK; simp only [Act.put, List.setIfInBounds_toArray, List.set_cons_zero, List.set_cons_succ]; refine hK _ ?_; clear hK K))
                      refine wpSeq_call rfl rfl (fun K hK => ?_)
                      go_simp
                      have ctr := rdone_nil I0'.a.drew
                      with_reducible refine Calls.mono ctr ?_
                      clear ctr
                      rintro e v ⟨rfl, rfl⟩
                      go_simp
                      refine hK _ _ (Ext.refl _ _) ?_
                      clear hK K
                      iterate 9 (refine wpSeq_quiet rfl rfl ?_; apply Exists.intro; refine ⟨?_, ?_⟩; (intro W hW; have cl := hbc W hW; go_simp; try with_reducible rfl); (intro K hK; simp only [Act.put, List.setIfInBounds_toArray, List.set_cons_zero, List.set_cons_succ]; refine hK _ ?_; clear hK K))
                      refine wpSeq_call rfl rfl (fun K hK => ?_)
                      go_simp
                      have ctr := rdone_nil I0'.a.drew
                      with_reducible refine Calls.mono ctr ?_
                      clear ctr
                      rintro e v ⟨rfl, rfl⟩
                      go_simp
                      refine hK _ _ (Ext.refl _ _) ?_
                      clear hK K
                      iterate 4 (refine wpSeq_quiet rfl rfl ?_; apply Exists.intro; refine ⟨?_, ?_⟩; (intro W hW; go_simp; try with_reducible rfl); (intro K hK; simp only [Act.put, List.setIfInBounds_toArray, List.set_cons_zero, List.set_cons_succ]; refine hK _ ?_; clear hK K))
                      refine wpSeq_end ?_
                      clear hbc
                      have T := I0'.drew
                      go_wp2_with fail
                      go_meet
                      case rel => exact ⟨rfl, _, T⟩
                    | cons c M =>
                      refine wp_region_seq Non [(0, true), (3, true), (4, true), (5, true), (6, true), (7, true), (1, false), (2, true), (8, true), (9, true), (10, true), (13, true), (14, true), (15, true), (16, true), (17, true), (11, false), (12, true), (18, true), (19, true), (20, true)] (by kernel_rfl) (by kernel_rfl) (by kernel_rfl) ?_
                      iterate 6 (refine wpSeq_quiet rfl rfl ?_; apply Exists.intro; refine ⟨?_, ?_⟩; (intro W hW; have cl := hbc W hW; go_simp; try with_reducible rfl); (intro K hK; simp only [Act.put, List.setIfInBounds_toArray, List.set_cons_zero, List.set_cons_succ]; refine hK _ ?_; clear hK K))
                      refine wpSeq_call rfl rfl (fun K hK => ?_)
                      go_simp
                      have ctr := rdone_cons I0'.a.drew
                      with_reducible refine Calls.mono ctr ?_
                      clear ctr
                      rintro e v ⟨rfl, rfl⟩
                      go_simp
                      refine hK _ _ (Ext.refl _ _) ?_
                      clear hK K
                      iterate 9 (refine wpSeq_quiet rfl rfl ?_; apply Exists.intro; refine ⟨?_, ?_⟩; (intro W hW; have cl := hbc W hW; go_simp; try with_reducible rfl); (intro K hK; simp only [Act.put, List.setIfInBounds_toArray, List.set_cons_zero, List.set_cons_succ]; refine hK _ ?_; clear hK K))
                      refine wpSeq_call rfl rfl (fun K hK => ?_)
                      go_simp
                      have ctr := rdone_cons I0'.a.drew
                      with_reducible refine Calls.mono ctr ?_
                      clear ctr
                      rintro e v ⟨rfl, rfl⟩
                      go_simp
                      refine hK _ _ (Ext.refl _ _) ?_
                      clear hK K
                      iterate 4 (refine wpSeq_quiet rfl rfl ?_; apply Exists.intro; refine ⟨?_, ?_⟩; (intro W hW; go_simp; try with_reducible rfl); (intro K hK; simp only [Act.put, List.setIfInBounds_toArray, List.set_cons_zero, List.set_cons_succ]; refine hK _ ?_; clear hK K))
                      refine wpSeq_end ?_
                      clear hbc
                      have T := I0'.drew
                      go_wp2_with fail
                      go_meet
                      case rel => exact ⟨rfl, _, T⟩
                  · have T := I0'
                    go_wp2_with fail
                    go_meet
                    case rel => exact ⟨rfl, _, T⟩
        · go_wp2_with fail
          all_goals
            as_aux_lemma =>
            obtain ⟨n6, hn6⟩ : ∃ n : Nat, M.length = n := ⟨_, rfl⟩
            have hbc := fun W hW => (I.b.drew.ext (S := One p) (w' := W) hW (fun h => by have : w3.heap.size = p := h; omega)).cell 0
            refine wp_region_seq (One p) [(0, true), (1, true), (2, true), (5, true), (6, true), (7, true), (8, true), (3, false), (4, true), (9, true), (10, true), (11, true)] (by kernel_rfl) (by kernel_rfl) (by kernel_rfl) ?_
            iterate 7 (refine wpSeq_quiet rfl rfl ?_; apply Exists.intro; refine ⟨?_, ?_⟩; (intro W hW; have cl := hbc W hW; go_simp; try with_reducible rfl); (intro K hK; simp only [Act.put, List.setIfInBounds_toArray, List.set_cons_zero, List.set_cons_succ]; refine hK _ ?_; clear hK K))
            refine wpSeq_call rfl rfl (fun K hK => ?_)
            go_simp
            have ctr := rest_calls I.a.drew (by intro h; exact absurd h.2 (by omega)) n6 hn6
            with_reducible refine Calls.mono ctr ?_
            clear ctr
            rintro e v ⟨A5, c5, rfl, o5, R5, x5⟩
            go_simp
            refine hK _ _ x5 ?_
            clear hK K hbc
            have cvA := fun W (hW : Ext (One p) v W) => run_convert_rd W 22 9 5 Try.underlying22 Try.underlying9 Try.underlying5 (o5.rd.ext hW (fun k hk he => by have h1 := (o5.lt hk).1; have h2 : k = p := he; have := I.a.lt; simp at h1; omega)) n6 c5 hn6
            iterate 4 (refine wpSeq_quiet rfl rfl ?_; apply Exists.intro; refine ⟨?_, ?_⟩; (intro W hW; have cv := cvA W hW; go_simp; try with_reducible rfl); (intro K hK; simp only [Act.put, List.setIfInBounds_toArray, List.set_cons_zero, List.set_cons_succ]; refine hK _ ?_; clear hK K))
            refine wpSeq_end ?_
            go_wp2
            go_ret
            exact ⟨rfl, (I.ext.drew.trans x5 (fun i hi he => by have : i = p := he; omega) : Ext Non w v).belowN⟩
end Go.Proofs.Ytkgnhkkmingenaa
