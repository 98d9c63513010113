/- The law SlotTimes: a slot's window is told by its numbers alone. -/
import Derived.Test.YtgfjpoopghdilaaSlotBack
namespace Go.Proofs.Ytgfjpoopghdilaa
open Go.RowKit

theorem right_win {s : Sl} (h : right s = true) (lo hi : Nat) : right { s with lo := lo, hi := hi } = decide (lo ≤ hi) := by
  simp only [right, Bool.and_eq_true, decide_eq_true_eq] at h
  have ho : ({ s with lo := lo, hi := hi } : Sl) = only { s with lo := lo, hi := hi } := by
    have e : only { s with lo := lo, hi := hi } = { only s with lo := lo, hi := hi } := by
      unfold only
      cases s.last <;> rfl
    rw [e, ← h.2]
  unfold right
  rw [decide_eq_true ho, Bool.and_true]
theorem win_ok {s : Sl} (h : s.ok) {lo hi : Nat} (h1 : lo < 18446744073709551616) (h2 : hi < 18446744073709551616) : ({ s with lo := lo, hi := hi } : Sl).ok := ⟨h.next, h.box, h.who, h.epoch, h.nonce, h.mac, h1, h2, h.delay⟩
set_option maxRecDepth 100000 in
set_option maxHeartbeats 4000000 in
theorem times_walk (w : World) {s : Sl} (hs : s.ok) (a b : Nat) (ha : a < 18446744073709551616) (hb : b < 18446744073709551616) :
    Calls Try.prog 10 #[.agg (sl s), .int .u64 a, .int .u64 b] w fun e w' => e = .returned (.bool true) ∧ Below w.heap.size w w' := by
  have ns := sl_ne s
  have nz := row_ne (zrow_size 64)
  have n0 := sl_ne sl0
  have B0 := Blk.new w 32 (sl s)
  have X0 : Ext Non w (w.alloc (.cells (sl s) 32)) := (Ext.refl Non w).alloc _
  go_enter Try.func10, Try.ntmps10
  go_upto_region 1 with (fail)
  generalize w.alloc (.cells (sl s) 32) = v at *
  go_wp2_with fail
  have ctr := shown_calls v
  with_reducible refine Calls.mono ctr ?_
  clear ctr
  rintro e w1 ⟨rfl, x1⟩
  have l1 := load_sl hs (B0.extN_ x1)
  go_wp2_with fail
  have ctr := right_calls w1 hs
  with_reducible refine Calls.mono ctr ?_
  clear ctr
  rintro e w2 ⟨rfl, x2⟩
  clear l1
  have X2 := (X0.transN x1).transN x2
  rcases ence_cases s with ⟨r, e⟩ | ⟨r, e⟩
  · rw [e]
    have B2 := (B0.extN_ x1).extN_ x2
    have c37 := (B2.cell 37).trans (sl_get37 hs)
    have f37 := B2.frozen 37
    have C2 := B2.set_ 37 (.int .u64 ((min a b : Nat) : Int))
    rw [sl_set37 hs] at C2
    have hm1 : min a b < 18446744073709551616 := by omega
    have hm2 : max a b < 18446744073709551616 := by omega
    have hmm : min a b ≤ max a b := by omega
    have hq : (max a b ≤ min a b) = (a = b) := propext ⟨fun h => by omega, fun h => by omega⟩
    have ok1 : ({ s with lo := min a b } : Sl).ok := ⟨hs.next, hs.box, hs.who, hs.epoch, hs.nonce, hs.mac, hm1, hs.hi, hs.delay⟩
    have c38 := (C2.cell 38).trans (sl_get38 ok1)
    have f38 := C2.frozen 38
    have D2 := C2.set_ 38 (.int .u64 ((max a b : Nat) : Int))
    rw [sl_set38 ok1] at D2
    have X3 := (X2.setCell (p := ⟨w.heap.size, 37, none⟩) (.inl (Nat.le_refl _)) (.int .u64 ((min a b : Nat) : Int))).setCell (p := ⟨w.heap.size, 38, none⟩) (.inl (Nat.le_refl _)) (.int .u64 ((max a b : Nat) : Int))
    have ok2 := win_ok hs hm1 hm2
    have rw1 := right_win r (min a b) (max a b)
    have rw2 := right_win r (max a b) (min a b)
    have ok3 := win_ok hs hm2 hm1
    rw [decide_eq_true hmm] at rw1
    have he2 : ence ({ s with lo := max a b, hi := min a b } : Sl) = if a = b then 0 else 1 := by
      unfold ence
      rw [rw2]
      simp only [hq, decide_eq_true_eq]
    clear rw2 hq
    have ld2 := load_sl ok2 D2
    go_upto_region 6 with (fail)
    clear c37 f37 c38 f38 B2 C2 X2 x2 x1 X0 B0
    generalize (w2.setCell ⟨w.heap.size, 37, none⟩ (.int .u64 ((min a b : Nat) : Int))).setCell ⟨w.heap.size, 38, none⟩ (.int .u64 ((max a b : Nat) : Int)) = v3 at *
    obtain ⟨s2, hs2⟩ : ∃ x, ({ s with lo := min a b, hi := max a b } : Sl) = x := ⟨_, rfl⟩
    obtain ⟨s3, hs3⟩ : ∃ x, ({ s with lo := max a b, hi := min a b } : Sl) = x := ⟨_, rfl⟩
    have hl2 : s2.lo = min a b := by rw [← hs2]
    have hh2 : s2.hi = max a b := by rw [← hs2]
    have e2 : (sl s2).setIfInBounds 37 (.int .u64 ((max a b : Nat) : Int)) = sl { s2 with lo := max a b } := sl_set37 (by rw [← hs2]; exact ok2) _
    have e3 : (sl { s2 with lo := max a b }).setIfInBounds 38 (.int .u64 ((min a b : Nat) : Int)) = sl s3 := by
      have := sl_set38 (s := { s2 with lo := max a b }) (by rw [← hs2]; exact ⟨hs.next, hs.box, hs.who, hs.epoch, hs.nonce, hs.mac, hm2, hm2, hs.delay⟩) (min a b)
      rw [this, ← hs2, ← hs3]
    rw [hs2] at D2 ok2 ld2 rw1
    rw [hs3] at ok3 he2
    have ok4 : ({ s2 with lo := max a b } : Sl).ok := by rw [← hs2]; exact ⟨hs.next, hs.box, hs.who, hs.epoch, hs.nonce, hs.mac, hm2, hm2, hs.delay⟩
    have E2 := Lib.hid e2
    have E3 := Lib.hid e3
    clear hs2 hs3 e2 e3
    obtain ⟨p, hp⟩ : ∃ p, min a b = p := ⟨_, rfl⟩
    obtain ⟨q, hq⟩ : ∃ q, max a b = q := ⟨_, rfl⟩
    rw [hp] at hl2 E3
    rw [hq] at hh2 E2 E3 ok4
    have HL2 := Lib.hid hl2
    have HH2 := Lib.hid hh2
    clear hl2 hh2
    have n2 := sl_ne s2
    clear hm1 hm2 hmm ok1 hp hq
    go_wp2_with fail
    have ctr := encode_calls v3 ok2
    with_reducible refine Calls.mono ctr ?_
    clear ctr
    rintro e w4 ⟨rfl, x4⟩
    have L2 := encb_len ok2
    have n4 := ba64_ne L2
    have st4 := store_b64 w4 L2
    have e4 : ence s2 = 0 := by unfold ence; rw [if_pos rw1]
    rw [e4]
    have X4 : Ext Non v3 (w4.alloc (.cells (ba (encb s2)) 33)) := x4.alloc _
    have l4 := load_b64 (Blk.new w4 33 (ba (encb s2))) L2
    clear ld2
    go_wp2_with fail
    have ctr := decode_calls (w4.alloc (.cells (ba (encb s2)) 33)) L2
    with_reducible refine Calls.mono ctr ?_
    clear ctr
    rintro e w5 ⟨rfl, x5⟩
    obtain ⟨d1, d2⟩ := dec_enc ok2 rw1
    rw [d1, d2]
    clear l4 d1 d2 st4
    have X5 : Ext Non v3 (w5.alloc (.cells (sl s2) 32)) := (X4.transN x5).alloc _
    have G5 := (D2.extN_ X5)
    have l5 := load_sl ok2 G5
    have Z5 := Blk.new w5 32 (sl s2)
    have hgw5 : w.heap.size < w5.heap.size := by
      have h1 := D2.lt
      have h2 := (X4.transN x5).size
      omega
    have X6 : Ext Non v3 ((w5.alloc (.cells (sl s2) 32)).alloc (.cells (sl s2) 32)) := X5.alloc _
    have G6 := D2.extN_ X6
    have Z6 := Z5.alloc (.cells (sl s2) 32)
    have e2 := E2.out
    have e3 := E3.out
    have c38 := (G6.cell 38).trans (sl_get38 ok2)
    rw [HH2.out] at c38
    have a37 := sl_get37 ok2
    have a38 := sl_get38 ok4
    have G7 := (D2.extN_ X5).alloc (.cells (sl { s2 with lo := q }) 32)
    have d37 := (G7.cell 37).trans (sl_get37 ok2)
    rw [HL2.out] at d37
    have U8 := Blk.new (w5.alloc (.cells (sl s2) 32)) 32 (sl s3)
    rw [World.size_alloc] at U8
    have G8 := (D2.extN_ X5).alloc (.cells (sl s3) 32)
    have Z8 := Z5.alloc (.cells (sl s3) 32)
    have X8 : Ext Non v3 ((w5.alloc (.cells (sl s2) 32)).alloc (.cells (sl s3) 32)) := X5.alloc _
    have l8 := load_sl ok3 U8
    clear G5 Z5 G6 Z6 G7 X4 X5 X6 x4 x5
    go_upto_region 11 with (fail)
    clear c38 a37 a38 d37 l5 e2 e3
    generalize (w5.alloc (.cells (sl s2) 32)).alloc (.cells (sl s3) 32) = v8 at *
    generalize w5.heap.size = g5 at *
    go_wp2_with fail
    have ctr := encode_calls v8 ok3
    with_reducible refine Calls.mono ctr ?_
    clear ctr
    rintro e w9 ⟨rfl, x9⟩
    have L3 := encb_len ok3
    have n9 := ba64_ne L3
    have st9 := store_b64 w9 L3
    have l9 := load_sl ok2 ((G8.extN_ x9).alloc (.cells (ba (encb s3)) 33))
    have k9 := load_sl ok2 ((Z8.extN_ x9).alloc (.cells (ba (encb s3)) 33))
    have X9 := X3.transN ((X8.transN x9).alloc (.cells (ba (encb s3)) 33))
    have q1 := fun W => eql_sl W ok2 ok2
    have hq : decide (s2 = s2) = true := decide_eq_true rfl
    simp only [hq] at q1
    rw [he2]
    clear hq he2 l8
    by_cases hab : a = b
    · subst hab
      rw [if_pos rfl]
      go_wp2_with fail
      go_ret
      exact ⟨rfl, X9.belowN⟩
    · rw [if_neg hab]
      have hab' : ¬ (a : Int) = (b : Int) := by omega
      go_wp2_with fail
      go_ret
      refine ⟨?_, X9.belowN⟩
      show Ending.returned (.bool (!((a : Int) == (b : Int)))) = _
      rw [beq_eq_false_iff_ne.2 hab']
      rfl
  · rw [e]
    go_wp2_with fail
    go_ret
    exact ⟨rfl, X2.belowN⟩
end Go.Proofs.Ytgfjpoopghdilaa
