/- The law SlotFields: a field of the other kind is wrong, each of them. -/
import Derived.Deep.CutBlock
import Derived.Test.YtgfjpoopghdilaaSlotTimes
namespace Go.Proofs.Ytgfjpoopghdilaa
open Go.RowKit

/-- What is right, field by field. -/
theorem right_iff (s : Sl) : right s = true ↔ s.lo ≤ s.hi ∧ if s.last then s.next = 0 ∧ s.who = 0 ∧ s.epoch = 0 ∧ s.nonce = zeros 16 ∧ s.mac = zeros 16 else s.box = 0 := by
  unfold right
  simp only [Bool.and_eq_true, decide_eq_true_eq]
  constructor
  · rintro ⟨h1, h2⟩
    refine ⟨h1, ?_⟩
    cases hl : s.last
    · simp only [Bool.false_eq_true, if_false]
      have := congrArg Sl.box h2
      simpa [only, hl] using this
    · simp only [if_true]
      have e : only s = ⟨true, 0, s.box, 0, 0, zeros 16, zeros 16, s.lo, s.hi, s.delay⟩ := by unfold only; rw [if_pos hl]
      rw [e] at h2
      exact ⟨congrArg Sl.next h2, congrArg Sl.who h2, congrArg Sl.epoch h2, congrArg Sl.nonce h2, congrArg Sl.mac h2⟩
  · rintro ⟨h1, h2⟩
    refine ⟨h1, Sl.tup_inj ?_⟩
    cases hl : s.last
    · simp only [hl, Bool.false_eq_true, if_false] at h2
      simp [only, hl, Sl.tup, h2]
    · simp only [hl, if_true] at h2
      simp [only, hl, Sl.tup, h2]
theorem right_bool (s : Sl) (b : Bool) (h : (s.lo ≤ s.hi ∧ if s.last then s.next = 0 ∧ s.who = 0 ∧ s.epoch = 0 ∧ s.nonce = zeros 16 ∧ s.mac = zeros 16 else s.box = 0) ↔ b = true) : right s = b := by
  rw [Bool.eq_iff_iff, right_iff, h]
theorem zeros_set_ne (n j : Nat) (x : UInt8) (hj : j < n) (hx : x ≠ 0) : (zeros n).set j x ≠ zeros n := by
  intro h
  have := congrArg (fun l => l[j]?) h
  simp [zeros, hj] at this
  exact hx this

/-- What is asked of a slot one of whose fields was set. -/
def wantF (s t : Sl) (f : Nat) : Bool := decide (t.lo ≤ t.hi) && !((s.last && (!decide (f = 1) && decide (f < 6))) || (!s.last && decide (f = 1)))
theorem sl_setn {s : Sl} (h : s.ok) (j : Nat) (hj : j < 16) (x : UInt8) : (sl s).setIfInBounds (5 + j) (.int .u8 (x.toNat : Int)) = sl { s with nonce := s.nonce.set j x } := by
  unfold sl
  rw [List.setIfInBounds_toArray]
  congr 1
  rw [show 5 + j = j + 5 from by omega]
  simp only [slL, List.set_cons_succ]
  rw [List.set_append_left _ _ (by rw [bvs_length, h.nonce]; exact hj)]
  simp [bvs, bv, List.map_set]
theorem sl_setm {s : Sl} (h : s.ok) (j : Nat) (hj : j < 16) (x : UInt8) : (sl s).setIfInBounds (21 + j) (.int .u8 (x.toNat : Int)) = sl { s with mac := s.mac.set j x } := by
  unfold sl
  rw [List.setIfInBounds_toArray]
  congr 1
  rw [show 21 + j = (16 + j) + 5 from by omega]
  simp only [slL, List.set_cons_succ]
  rw [List.set_append_right _ _ (by rw [bvs_length, h.nonce]; omega), bvs_length, h.nonce, show 16 + j - 16 = j from by omega, List.set_append_left _ _ (by rw [bvs_length, h.mac]; exact hj)]
  simp [bvs, bv, List.map_set]
section
variable {s : Sl} (hr : right s = true)
include hr
theorem want0 (n : Nat) (hn : n ≠ 0) : right { s with next := n } = wantF s { s with next := n } 0 := by
  rw [right_iff] at hr
  apply right_bool
  unfold wantF
  cases hl : s.last
  · simp_all
  · simp_all
theorem want2 (n : Nat) (hn : n ≠ 0) : right { s with who := n } = wantF s { s with who := n } 2 := by
  rw [right_iff] at hr
  apply right_bool
  unfold wantF
  cases hl : s.last
  · simp_all
  · simp_all
theorem want3 (n : Nat) (hn : n ≠ 0) : right { s with epoch := n } = wantF s { s with epoch := n } 3 := by
  rw [right_iff] at hr
  apply right_bool
  unfold wantF
  cases hl : s.last
  · simp_all
  · simp_all
theorem want1 (n : Nat) (hn : n ≠ 0) : right { s with box := n } = wantF s { s with box := n } 1 := by
  rw [right_iff] at hr
  apply right_bool
  unfold wantF
  cases hl : s.last
  · simp_all
  · simp_all
theorem want4 (h : s.ok) (j : Nat) (hj : j < 16) (x : UInt8) (hx : x ≠ 0) : right { s with nonce := s.nonce.set j x } = wantF s { s with nonce := s.nonce.set j x } 4 := by
  rw [right_iff] at hr
  apply right_bool
  unfold wantF
  cases hl : s.last
  · simp_all
  · have e := zeros_set_ne 16 j x hj hx
    simp_all
theorem want5 (h : s.ok) (j : Nat) (hj : j < 16) (x : UInt8) (hx : x ≠ 0) : right { s with mac := s.mac.set j x } = wantF s { s with mac := s.mac.set j x } 5 := by
  rw [right_iff] at hr
  apply right_bool
  unfold wantF
  cases hl : s.last
  · simp_all
  · have e := zeros_set_ne 16 j x hj hx
    simp_all
theorem want6 (n : Nat) : right { s with lo := n } = wantF s { s with lo := n } 6 := by
  rw [right_iff] at hr
  apply right_bool
  unfold wantF
  cases hl : s.last
  · simp_all
  · simp_all
theorem want7 (n : Nat) : right { s with delay := n } = wantF s { s with delay := n } 7 := by
  rw [right_iff] at hr
  apply right_bool
  unfold wantF
  cases hl : s.last
  · simp_all
  · simp_all
end

set_option maxRecDepth 100000 in
set_option maxHeartbeats 16000000 in
theorem fields_walk (w : World) {s : Sl} (hs : s.ok) (x0 : Int) (n : Nat) (hn : n < 65536) :
    Calls Try.prog 6 #[.agg (sl s), .int .i64 x0, .int .u16 n] w fun e w' => e = .returned (.bool true) ∧ Below w.heap.size w w' := by
  have ns := sl_ne s
  have n0 := sl_ne sl0
  have B0 := Blk.new w 32 (sl s)
  have X0 : Ext Non w (w.alloc (.cells (sl s) 32)) := (Ext.refl Non w).alloc _
  go_enter Try.func6, Try.ntmps6
  go_upto_region 1 with (fail)
  generalize w.alloc (.cells (sl s) 32) = v at *
  go_wp2_with fail
  have ctr := shown_calls v
  with_reducible refine Calls.mono ctr ?_
  clear ctr
  rintro e w1 ⟨rfl, x1⟩
  have l1 := load_sl hs (B0.extN_ x1)
  go_wp2_with fail
  have ctr := right_calls w1 hs
  with_reducible refine Calls.mono ctr ?_
  clear ctr
  rintro e w2 ⟨rfl, x2⟩
  clear l1
  have X2 := x1.transN x2
  rcases ence_cases s with ⟨hr, e⟩ | ⟨hr, e⟩
  · rw [e]
    by_cases hn0 : n = 0
    · subst hn0
      go_wp2_with fail
      go_ret
      exact ⟨rfl, (X0.transN X2).belowN⟩
    · have hni : ¬ (n : Int) = 0 := by omega
      have hnb : ((n : Int) == 0) = false := beq_eq_false_iff_ne.2 hni
      obtain ⟨m, hm0, hma⟩ := and16_at x0
      obtain ⟨f, hf⟩ : ∃ f, m % 8 = f := ⟨_, rfl⟩
      have hf8 : f < 8 := by rw [← hf]; exact Nat.mod_lt _ (by omega)
      have em1 : (m : Int).tmod 8 = (f : Int) := by rw [← hf]; rfl
      have em2 : (m : Int) % 8 = (f : Int) := by rw [← hf]; rfl
      have T2 := Blk.new w2 32 (sl s)
      have X3 : Ext Non v (w2.alloc (.cells (sl s) 32)) := X2.alloc _
      have hg : v.heap.size ≤ w2.heap.size := X2.size
      have l2 := load_sl hs ((B0.extN_ X2))
      have B3 := B0.extN_ X3
      clear hf e x1 x2
      go_upto_block 0 with (fail)
      clear l2 em1 em2 hm0 hma
      have T3 := T2
      generalize w2.alloc (.cells (sl s) 32) = v3 at *
      generalize w2.heap.size = g at *
      clear T2 X2
      go_cut [] from 24 (fun wc => ∃ t, t.ok ∧ Blk wc g 32 (sl t) ∧ right t = wantF s t f ∧ Ext Non v wc)
      case first =>
        have w32 : IntKind.u32.wrap (n : Int) = (n : Int) := by rw [IntKind.wrap_u32]; omega
        have w64 : IntKind.u64.wrap (n : Int) = (n : Int) := by rw [IntKind.wrap_u64]; omega
        obtain ⟨j, hj'⟩ : ∃ j, n % 16 = j := ⟨_, rfl⟩
        have hj : j < 16 := by rw [← hj']; exact Nat.mod_lt _ (by omega)
        have ej1 : (n : Int).tmod 16 = (j : Int) := by rw [← hj']; rfl
        have ej2 : (n : Int) % 16 = (j : Int) := by rw [← hj']; rfl
        have ji : (j : Int) < 16 := by omega
        obtain ⟨r, hr'⟩ : ∃ r, n % 255 = r := ⟨_, rfl⟩
        have hrr : r < 255 := by rw [← hr']; exact Nat.mod_lt _ (by omega)
        have er1 : (n : Int).tmod 255 = (r : Int) := by rw [← hr']; rfl
        have er2 : (n : Int) % 255 = (r : Int) := by rw [← hr']; rfl
        have wr8 : IntKind.u8.wrap (r : Int) = (r : Int) := by rw [IntKind.wrap_u8]; omega
        have wr9 : IntKind.u8.wrap ((r : Int) + 1) = (r : Int) + 1 := by rw [IntKind.wrap_u8]; omega
        obtain ⟨x, hxn⟩ : ∃ x : UInt8, x.toNat = r + 1 := ⟨UInt8.ofNat (r + 1), by simp; omega⟩
        have hxe : (x.toNat : Int) = (r : Int) + 1 := by omega
        have hx : x ≠ 0 := fun h => by rw [h] at hxn; simp at hxn
        have HXE := Lib.hid hxe
        clear hj' hr' hxn hxe
        have hfc : f = 0 ∨ f = 1 ∨ f = 2 ∨ f = 3 ∨ f = 4 ∨ f = 5 ∨ f = 6 ∨ f = 7 := by omega
        rcases hfc with rfl | rfl | rfl | rfl | rfl | rfl | rfl | rfl
        · as_aux_lemma =>
          have cc := (T3.cell 1).trans (sl_get1 hs)
          have ff := T3.frozen 1
          have T4 := T3.set_ 1 (.int .u16 n)
          rw [sl_set1] at T4
          have X4 : Ext Non v (v3.setCell ⟨g, 1, none⟩ (.int .u16 n)) := X3.setCell (p := ⟨g, 1, none⟩) (.inl hg) (.int .u16 n)
          have okt : ({ s with next := n } : Sl).ok := ⟨hn, hs.box, hs.who, hs.epoch, hs.nonce, hs.mac, hs.lo, hs.hi, hs.delay⟩
          have hw := want0 hr n hn0
          go_wp2_with fail
          go_meet
          case rel => exact ⟨_, okt, T4, hw, X4⟩
        · as_aux_lemma =>
          have cc := (T3.cell 2).trans (sl_get2 hs)
          have ff := T3.frozen 2
          have T4 := T3.set_ 2 (.int .u16 n)
          rw [sl_set2] at T4
          have X4 : Ext Non v (v3.setCell ⟨g, 2, none⟩ (.int .u16 n)) := X3.setCell (p := ⟨g, 2, none⟩) (.inl hg) (.int .u16 n)
          have okt : ({ s with box := n } : Sl).ok := ⟨hs.next, hn, hs.who, hs.epoch, hs.nonce, hs.mac, hs.lo, hs.hi, hs.delay⟩
          have hw := want1 hr n hn0
          go_wp2_with fail
          go_meet
          case rel => exact ⟨_, okt, T4, hw, X4⟩
        · as_aux_lemma =>
          have cc := (T3.cell 3).trans (sl_get3 hs)
          have ff := T3.frozen 3
          have T4 := T3.set_ 3 (.int .u16 n)
          rw [sl_set3] at T4
          have X4 : Ext Non v (v3.setCell ⟨g, 3, none⟩ (.int .u16 n)) := X3.setCell (p := ⟨g, 3, none⟩) (.inl hg) (.int .u16 n)
          have okt : ({ s with who := n } : Sl).ok := ⟨hs.next, hs.box, hn, hs.epoch, hs.nonce, hs.mac, hs.lo, hs.hi, hs.delay⟩
          have hw := want2 hr n hn0
          go_wp2_with fail
          go_meet
          case rel => exact ⟨_, okt, T4, hw, X4⟩
        · as_aux_lemma =>
          have cc := (T3.cell 4).trans (sl_get4 hs)
          have ff := T3.frozen 4
          have T4 := T3.set_ 4 (.int .u32 n)
          rw [sl_set4] at T4
          have X4 : Ext Non v (v3.setCell ⟨g, 4, none⟩ (.int .u32 n)) := X3.setCell (p := ⟨g, 4, none⟩) (.inl hg) (.int .u32 n)
          have okt : ({ s with epoch := n } : Sl).ok := ⟨hs.next, hs.box, hs.who, (Nat.lt_trans hn (by decide)), hs.nonce, hs.mac, hs.lo, hs.hi, hs.delay⟩
          have hw := want3 hr n hn0
          go_wp2_with fail
          go_meet
          case rel => exact ⟨_, okt, T4, hw, X4⟩
        · as_aux_lemma =>
          have cc : v3.cell? ⟨g, 5 + j, none⟩ = some (.int .u8 (((s.nonce).getD j 0).toNat : Int)) := by
            have hsub := (Blk.sub T3 _ _ _ (slL_nonce s) 5 (by simp [bvs_length, hs.nonce])).at_ (k := j) (u := .int .u8 (((s.nonce).getD j 0).toNat : Int)) (by rw [show (s.nonce).getD j 0 = (s.nonce)[j]'(by rw [hs.nonce]; exact hj) from by simp [List.getD, hs.nonce, hj]]; exact bvs_get _ j (by rw [hs.nonce]; exact hj))
            obtain ⟨a, e, hc⟩ := hsub
            injection e with e
            subst e
            rw [addr_add] at hc
            exact hc
          have ff := T3.frozen (5 + j)
          have T4 := T3.set_ (5 + j) (.int .u8 (x.toNat : Int))
          rw [sl_setn hs j hj] at T4
          have X4 : Ext Non v (v3.setCell ⟨g, 5 + j, none⟩ (.int .u8 (x.toNat : Int))) := X3.setCell (p := ⟨g, 5 + j, none⟩) (.inl hg) (.int .u8 (x.toNat : Int))
          have okt : ({ s with nonce := s.nonce.set j x } : Sl).ok := ⟨hs.next, hs.box, hs.who, hs.epoch, (List.length_set.trans hs.nonce), hs.mac, hs.lo, hs.hi, hs.delay⟩
          have hw := want4 hr hs j hj x hx
          rw [HXE.out] at T4 X4
          have ad : (⟨g, 5, none⟩ : Addr).add j = ⟨g, 5 + j, none⟩ := addr_add g 5 j
          go_wp2_with fail
          go_meet
          case rel => exact ⟨_, okt, T4, hw, X4⟩
        · as_aux_lemma =>
          have cc : v3.cell? ⟨g, 21 + j, none⟩ = some (.int .u8 (((s.mac).getD j 0).toNat : Int)) := by
            have hsub := (Blk.sub T3 _ _ _ (slL_mac s) 21 (by simp [bvs_length, hs.nonce])).at_ (k := j) (u := .int .u8 (((s.mac).getD j 0).toNat : Int)) (by rw [show (s.mac).getD j 0 = (s.mac)[j]'(by rw [hs.mac]; exact hj) from by simp [List.getD, hs.mac, hj]]; exact bvs_get _ j (by rw [hs.mac]; exact hj))
            obtain ⟨a, e, hc⟩ := hsub
            injection e with e
            subst e
            rw [addr_add] at hc
            exact hc
          have ff := T3.frozen (21 + j)
          have T4 := T3.set_ (21 + j) (.int .u8 (x.toNat : Int))
          rw [sl_setm hs j hj] at T4
          have X4 : Ext Non v (v3.setCell ⟨g, 21 + j, none⟩ (.int .u8 (x.toNat : Int))) := X3.setCell (p := ⟨g, 21 + j, none⟩) (.inl hg) (.int .u8 (x.toNat : Int))
          have okt : ({ s with mac := s.mac.set j x } : Sl).ok := ⟨hs.next, hs.box, hs.who, hs.epoch, hs.nonce, (List.length_set.trans hs.mac), hs.lo, hs.hi, hs.delay⟩
          have hw := want5 hr hs j hj x hx
          rw [HXE.out] at T4 X4
          have ad : (⟨g, 21, none⟩ : Addr).add j = ⟨g, 21 + j, none⟩ := addr_add g 21 j
          go_wp2_with fail
          go_meet
          case rel => exact ⟨_, okt, T4, hw, X4⟩
        · as_aux_lemma =>
          have cc := (T3.cell 37).trans (sl_get37 hs)
          have ff := T3.frozen 37
          have T4 := T3.set_ 37 (.int .u64 n)
          rw [sl_set37 hs] at T4
          have X4 : Ext Non v (v3.setCell ⟨g, 37, none⟩ (.int .u64 n)) := X3.setCell (p := ⟨g, 37, none⟩) (.inl hg) (.int .u64 n)
          have okt : ({ s with lo := n } : Sl).ok := ⟨hs.next, hs.box, hs.who, hs.epoch, hs.nonce, hs.mac, (Nat.lt_trans hn (by decide)), hs.hi, hs.delay⟩
          have hw := want6 hr n
          go_wp2_with fail
          go_meet
          case rel => exact ⟨_, okt, T4, hw, X4⟩
        · as_aux_lemma =>
          have cc := (T3.cell 39).trans (sl_get39 hs)
          have ff := T3.frozen 39
          have T4 := T3.set_ 39 (.int .u32 n)
          rw [sl_set39 hs] at T4
          have X4 : Ext Non v (v3.setCell ⟨g, 39, none⟩ (.int .u32 n)) := X3.setCell (p := ⟨g, 39, none⟩) (.inl hg) (.int .u32 n)
          have okt : ({ s with delay := n } : Sl).ok := ⟨hs.next, hs.box, hs.who, hs.epoch, hs.nonce, hs.mac, hs.lo, hs.hi, (Nat.lt_trans hn (by decide))⟩
          have hw := want7 hr n
          go_wp2_with fail
          go_meet
          case rel => exact ⟨_, okt, T4, hw, X4⟩
      case rest =>
        obtain ⟨t, okt, T, hw, X⟩ := hcut
        clear T3 X3 B3
        have c0 := ((B0.extN_ X).cell 0).trans (sl_get0 hs)
        have t37 := (T.cell 37).trans (sl_get37 okt)
        have t38 := (T.cell 38).trans (sl_get38 okt)
        have lt := load_sl okt T
        have nt := sl_ne t
        clear T B0 hg
        cases hl : s.last
        · rw [hl] at c0
          have hfc : f = 1 ∨ (f ≠ 1 ∧ f < 6) ∨ 6 ≤ f := by omega
          rcases hfc with rfl | ⟨h1, h2⟩ | h2
          · have k6 : (1 : Int) < 6 := by omega
            by_cases hlo : t.lo ≤ t.hi
            · as_aux_lemma =>
              have he : ence t = 1 := by
                unfold ence
                rw [hw]
                unfold wantF
                simp [hl, hlo]
              have li : (t.lo : Int) ≤ (t.hi : Int) := by omega
              go_wp2_with fail
              have ctr := right_calls wc okt
              with_reducible refine Calls.mono ctr ?_
              clear ctr
              rintro e w9 ⟨rfl, x9⟩
              rw [he]
              go_wp2_with fail
              go_ret
              exact ⟨rfl, (X0.transN (X.transN x9)).belowN⟩
            · as_aux_lemma =>
              have he : ence t = 1 := by
                unfold ence
                rw [hw]
                unfold wantF
                simp [hl, hlo]
              have li : ¬ (t.lo : Int) ≤ (t.hi : Int) := by omega
              go_wp2_with fail
              have ctr := right_calls wc okt
              with_reducible refine Calls.mono ctr ?_
              clear ctr
              rintro e w9 ⟨rfl, x9⟩
              rw [he]
              go_wp2_with fail
              go_ret
              exact ⟨rfl, (X0.transN (X.transN x9)).belowN⟩
          · have k1 : ¬ (f : Int) = 1 := by omega
            have k1b : ((f : Int) == 1) = false := beq_eq_false_iff_ne.2 k1
            have k1c : ((f : Int) != 1) = true := by rw [bne, k1b]; rfl
            have k6 : (f : Int) < 6 := by omega
            by_cases hlo : t.lo ≤ t.hi
            · as_aux_lemma =>
              have he : ence t = 0 := by
                unfold ence
                rw [hw]
                unfold wantF
                simp [hl, hlo, h1, h2]
              have li : (t.lo : Int) ≤ (t.hi : Int) := by omega
              go_wp2_with fail
              have ctr := right_calls wc okt
              with_reducible refine Calls.mono ctr ?_
              clear ctr
              rintro e w9 ⟨rfl, x9⟩
              rw [he]
              go_wp2_with fail
              go_ret
              exact ⟨rfl, (X0.transN (X.transN x9)).belowN⟩
            · as_aux_lemma =>
              have he : ence t = 1 := by
                unfold ence
                rw [hw]
                unfold wantF
                simp [hl, hlo, h1, h2]
              have li : ¬ (t.lo : Int) ≤ (t.hi : Int) := by omega
              go_wp2_with fail
              have ctr := right_calls wc okt
              with_reducible refine Calls.mono ctr ?_
              clear ctr
              rintro e w9 ⟨rfl, x9⟩
              rw [he]
              go_wp2_with fail
              go_ret
              exact ⟨rfl, (X0.transN (X.transN x9)).belowN⟩
          · have h1 : f ≠ 1 := by omega
            have k1 : ¬ (f : Int) = 1 := by omega
            have k1b : ((f : Int) == 1) = false := beq_eq_false_iff_ne.2 k1
            have k1c : ((f : Int) != 1) = true := by rw [bne, k1b]; rfl
            have k6 : ¬ (f : Int) < 6 := by omega
            by_cases hlo : t.lo ≤ t.hi
            · as_aux_lemma =>
              have he : ence t = 0 := by
                unfold ence
                rw [hw]
                unfold wantF
                simp [hl, hlo, h1, show ¬ f < 6 from by omega]
              have li : (t.lo : Int) ≤ (t.hi : Int) := by omega
              go_wp2_with fail
              have ctr := right_calls wc okt
              with_reducible refine Calls.mono ctr ?_
              clear ctr
              rintro e w9 ⟨rfl, x9⟩
              rw [he]
              go_wp2_with fail
              go_ret
              exact ⟨rfl, (X0.transN (X.transN x9)).belowN⟩
            · as_aux_lemma =>
              have he : ence t = 1 := by
                unfold ence
                rw [hw]
                unfold wantF
                simp [hl, hlo, h1, show ¬ f < 6 from by omega]
              have li : ¬ (t.lo : Int) ≤ (t.hi : Int) := by omega
              go_wp2_with fail
              have ctr := right_calls wc okt
              with_reducible refine Calls.mono ctr ?_
              clear ctr
              rintro e w9 ⟨rfl, x9⟩
              rw [he]
              go_wp2_with fail
              go_ret
              exact ⟨rfl, (X0.transN (X.transN x9)).belowN⟩
        · rw [hl] at c0
          have hfc : f = 1 ∨ (f ≠ 1 ∧ f < 6) ∨ 6 ≤ f := by omega
          rcases hfc with rfl | ⟨h1, h2⟩ | h2
          · have k6 : (1 : Int) < 6 := by omega
            by_cases hlo : t.lo ≤ t.hi
            · as_aux_lemma =>
              have he : ence t = 0 := by
                unfold ence
                rw [hw]
                unfold wantF
                simp [hl, hlo]
              have li : (t.lo : Int) ≤ (t.hi : Int) := by omega
              go_wp2_with fail
              have ctr := right_calls wc okt
              with_reducible refine Calls.mono ctr ?_
              clear ctr
              rintro e w9 ⟨rfl, x9⟩
              rw [he]
              go_wp2_with fail
              go_ret
              exact ⟨rfl, (X0.transN (X.transN x9)).belowN⟩
            · as_aux_lemma =>
              have he : ence t = 1 := by
                unfold ence
                rw [hw]
                unfold wantF
                simp [hl, hlo]
              have li : ¬ (t.lo : Int) ≤ (t.hi : Int) := by omega
              go_wp2_with fail
              have ctr := right_calls wc okt
              with_reducible refine Calls.mono ctr ?_
              clear ctr
              rintro e w9 ⟨rfl, x9⟩
              rw [he]
              go_wp2_with fail
              go_ret
              exact ⟨rfl, (X0.transN (X.transN x9)).belowN⟩
          · have k1 : ¬ (f : Int) = 1 := by omega
            have k1b : ((f : Int) == 1) = false := beq_eq_false_iff_ne.2 k1
            have k1c : ((f : Int) != 1) = true := by rw [bne, k1b]; rfl
            have k6 : (f : Int) < 6 := by omega
            by_cases hlo : t.lo ≤ t.hi
            · as_aux_lemma =>
              have he : ence t = 1 := by
                unfold ence
                rw [hw]
                unfold wantF
                simp [hl, hlo, h1, h2]
              have li : (t.lo : Int) ≤ (t.hi : Int) := by omega
              go_wp2_with fail
              have ctr := right_calls wc okt
              with_reducible refine Calls.mono ctr ?_
              clear ctr
              rintro e w9 ⟨rfl, x9⟩
              rw [he]
              go_wp2_with fail
              go_ret
              exact ⟨rfl, (X0.transN (X.transN x9)).belowN⟩
            · as_aux_lemma =>
              have he : ence t = 1 := by
                unfold ence
                rw [hw]
                unfold wantF
                simp [hl, hlo, h1, h2]
              have li : ¬ (t.lo : Int) ≤ (t.hi : Int) := by omega
              go_wp2_with fail
              have ctr := right_calls wc okt
              with_reducible refine Calls.mono ctr ?_
              clear ctr
              rintro e w9 ⟨rfl, x9⟩
              rw [he]
              go_wp2_with fail
              go_ret
              exact ⟨rfl, (X0.transN (X.transN x9)).belowN⟩
          · have h1 : f ≠ 1 := by omega
            have k1 : ¬ (f : Int) = 1 := by omega
            have k1b : ((f : Int) == 1) = false := beq_eq_false_iff_ne.2 k1
            have k1c : ((f : Int) != 1) = true := by rw [bne, k1b]; rfl
            have k6 : ¬ (f : Int) < 6 := by omega
            by_cases hlo : t.lo ≤ t.hi
            · as_aux_lemma =>
              have he : ence t = 0 := by
                unfold ence
                rw [hw]
                unfold wantF
                simp [hl, hlo, h1, show ¬ f < 6 from by omega]
              have li : (t.lo : Int) ≤ (t.hi : Int) := by omega
              go_wp2_with fail
              have ctr := right_calls wc okt
              with_reducible refine Calls.mono ctr ?_
              clear ctr
              rintro e w9 ⟨rfl, x9⟩
              rw [he]
              go_wp2_with fail
              go_ret
              exact ⟨rfl, (X0.transN (X.transN x9)).belowN⟩
            · as_aux_lemma =>
              have he : ence t = 1 := by
                unfold ence
                rw [hw]
                unfold wantF
                simp [hl, hlo, h1, show ¬ f < 6 from by omega]
              have li : ¬ (t.lo : Int) ≤ (t.hi : Int) := by omega
              go_wp2_with fail
              have ctr := right_calls wc okt
              with_reducible refine Calls.mono ctr ?_
              clear ctr
              rintro e w9 ⟨rfl, x9⟩
              rw [he]
              go_wp2_with fail
              go_ret
              exact ⟨rfl, (X0.transN (X.transN x9)).belowN⟩
  · rw [e]
    go_wp2_with fail
    go_ret
    exact ⟨rfl, (X0.transN X2).belowN⟩
end Go.Proofs.Ytgfjpoopghdilaa
