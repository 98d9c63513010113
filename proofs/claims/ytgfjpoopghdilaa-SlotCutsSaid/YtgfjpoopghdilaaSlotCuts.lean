/- The law SlotCuts: a packet that is cut off is none, nor is one with bytes behind. -/
import Derived.Test.YtgfjpoopghdilaaSlotS
namespace Go.Proofs.Ytgfjpoopghdilaa
open Go.RowKit

set_option maxRecDepth 100000 in
set_option maxHeartbeats 4000000 in
theorem cuts_walk (w : World) {s : Pk} (hs : s.ok) (x0 : Int) (A1 : Option Addr) (n1 c1 : Nat) (l1 : List UInt8) (hl1 : l1.length = n1) (hc1 : n1 ≤ c1) (r1 : Rd w (· < w.heap.size) A1 (bvs l1)) :
    Calls Try.prog 8 #[.agg (pk s), .int .i64 x0, .slice A1 n1 c1] w fun e w' => e = .returned (.bool true) ∧ Below w.heap.size w w' := by
  obtain ⟨k1, hk1, hk1a, hk1b, _⟩ := min_at n1 20 (by omega)
  obtain ⟨b, hb⟩ : ∃ l, l1.take k1 = l := ⟨_, rfl⟩
  have rb : Rd w (· < w.heap.size) A1 (bvs b) := by
    rw [← hb, show bvs (l1.take k1) = (bvs l1).take k1 from by simp [bvs]]
    exact r1.take k1
  have lb : b.length = k1 := by rw [← hb]; simp; omega
  have mb : k1 ≤ c1 := by omega
  have ib : (k1 : Int) ≤ (c1 : Int) := by omega
  clear hb r1 hl1
  obtain ⟨m, hm0, hma⟩ := and16_at x0
  obtain ⟨i, hi⟩ : ∃ i, m % 614 = i := ⟨_, rfl⟩
  have hik : i < 614 := by rw [← hi]; exact Nat.mod_lt _ (by omega)
  have em1 : (m : Int).tmod 614 = (i : Int) := by rw [← hi]; rfl
  have em2 : (m : Int) % 614 = (i : Int) := by rw [← hi]; rfl
  have i0 : (0 : Int) ≤ (i : Int) := by omega
  clear hi
  have np := pk_ne s
  have n0 := pk_ne pk0
  have B0 := Blk.new w 50 (pk s)
  have X0 : Ext Non w (w.alloc (.cells (pk s) 50)) := (Ext.refl Non w).alloc _
  go_enter Try.func8, Try.ntmps8
  go_upto_region 1 with (fail)
  generalize w.alloc (.cells (pk s) 50) = v at *
  go_wp2_with fail
  have ctr := shown_calls v
  with_reducible refine Calls.mono ctr ?_
  clear ctr
  rintro e w1 ⟨rfl, x1⟩
  have l1 := load_pk (B0.extN_ x1) hs
  go_wp2_with fail
  have ctr := pack_calls w1 hs
  with_reducible refine Calls.mono ctr ?_
  clear ctr
  rintro e w2 ⟨A, c, rfl, O, x2⟩
  clear l1
  have hc := O.len.1
  rw [pkb_len hs] at hc
  have hci : (i : Int) ≤ (c : Int) := by omega
  have X2 := (X0.transN x1).transN x2
  have G2 := (B0.extN_ x1).extN_ x2
  go_wp2_with fail
  have ctr := unpack_short w2 A i c hik
  with_reducible refine Calls.mono ctr ?_
  clear ctr
  rintro e w3 ⟨rfl, x3⟩
  have st := store_pk w3 pk0_ok
  have X3 : Ext Non w (w3.alloc (.cells (pk pk0) 50)) := (X2.transN x3).alloc _
  have G3 := (G2.extN_ x3).alloc (.cells (pk pk0) 50)
  have O3 := (O.extN x3).alloc (.cells (pk pk0) 50)
  have Z3 := Blk.new w3 50 (pk pk0)
  clear x1 x2 x3 X0 B0 X2 G2 O
  go_upto_region 7 with (fail)
  clear st
  generalize w3.alloc (.cells (pk pk0) 50) = u3 at *
  generalize w3.heap.size = g3 at *
  have O4 : OwB (u3.alloc (.cells #[] 5)) u3.heap.size (some ⟨u3.heap.size, 0, none⟩) 0 [] := World.ownsRow_made u3 #[] 0 (Nat.le_refl _) (by simp [maxLen]) rfl
  have X4 : Ext Non u3 (u3.alloc (.cells #[] 5)) := (Ext.refl Non u3).alloc _
  have hs4 : u3.heap.size ≤ (u3.alloc (.cells #[] 5)).heap.size := by rw [World.size_alloc]; omega
  have r4 := (O3.extN X4).rd
  go_wp2_with (at_builtin; first
    | (refine wp_ap8 rfl (.tmp 36) (.tmp 37) rfl 0 rfl O4 rfl 614 c rfl r4 (pkb_len hs) (by rw [pkb_len hs]; decide) hs4 ?_; intro A5 c5 w5 o5 x5 hob5; rw [List.nil_append] at o5; have X5 : Ext Non u3 w5 := X4.trans x5 (fun i hi h => by { have h : u3.heap.size = i := Option.some.inj h; omega }); have hs5 : u3.heap.size ≤ w5.heap.size := X5.size; have r5 := rb.extN (X3.transN X5))
    | (refine wp_ap8 rfl (.tmp 38) (.tmp 39) rfl 614 rfl o5 (pkb_len hs) k1 c1 rfl r5 lb (by rw [pkb_len hs]; omega) hs5 ?_; intro A6 c6 w6 o6 x6 hob6))
  have hA5 : ∀ i, ob A5 = some i → u3.heap.size ≤ i := fun i hi => (o5.lt hi).1
  have X6 : Ext Non u3 w6 := X5.trans x6 (fun i hi h => by
    have := hA5 i h
    omega)
  have X3w := X3.transN X6
  have l6 : (pkb s ++ b).length = 614 + k1 := by rw [List.length_append, pkb_len hs, lb]
  have q1 := fun W => neq_pk W pk0_ok pk0_ok
  have hq : decide (pk0 = pk0) = true := decide_eq_true rfl
  simp only [hq] at q1
  have q2 := fun W => eql_pk W pk0_ok pk0_ok
  simp only [hq] at q2
  have q3 := fun W => eql_pk W hs hs
  simp only [show decide (s = s) = true from decide_eq_true rfl] at q3
  clear x6 hob6 X5 hA5 hs5 hq o5 x5 hob5 X4 O4 r4 r5 hs4
  rcases Nat.eq_zero_or_pos k1 with hk | hk
  · subst hk
    obtain rfl := List.eq_nil_of_length_eq_zero lb
    rw [List.append_nil] at o6
    go_wp2_with fail
    have ctr := unpack_calls c6 o6.rd (pkb_len hs)
    with_reducible refine Calls.mono ctr ?_
    clear ctr
    rintro e w7 ⟨rfl, x7⟩
    rw [rdpk_pkb hs]
    have st7 := store_pk w7 hs
    have X7 := (X6.transN x7).alloc (.cells (pk s) 50)
    have ldA := load_pk (Z3.extN_ X7) pk0_ok
    have ldB := load_pk (G3.extN_ X7) hs
    have ldC := load_pk (Blk.new w7 50 (pk s)) hs
    have X8 := X3.transN X7
    go_wp2_with fail
    go_ret
    exact ⟨rfl, X8.belowN⟩
  · have ik : (0 : Int) < (k1 : Int) := by omega
    go_wp2_with fail
    have ctr := unpack_long w6 A6 (614 + k1) c6 (by omega)
    with_reducible refine Calls.mono ctr ?_
    clear ctr
    rintro e w7 ⟨rfl, x7⟩
    have st7 := store_pk w7 pk0_ok
    have X7 := (X6.transN x7).alloc (.cells (pk pk0) 50)
    have ldA := load_pk (Z3.extN_ X7) pk0_ok
    have ldC := load_pk (Blk.new w7 50 (pk pk0)) pk0_ok
    have X8 := X3.transN X7
    go_wp2_with fail
    go_ret
    exact ⟨rfl, X8.belowN⟩
end Go.Proofs.Ytgfjpoopghdilaa
