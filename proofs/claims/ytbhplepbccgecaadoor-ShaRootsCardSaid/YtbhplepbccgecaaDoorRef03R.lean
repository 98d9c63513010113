/- The document's roots: digits, times, above, Root, Prime hand back what the plain lists say. -/
import Derived.Test.YtbhplepbccgecaaDoorRootP
import Derived.Test.YtbhplepbccgecaaDoorShaG
import Derived.Test.YtbhplepbccgecaaDoorSeq
import Derived.Test.YtbhplepbccgecaaDoorRow
namespace Go.Proofs.YtbhplepbccgecaaDoor
open Go.RowKit

def u64v (n : Nat) : Value := .int .u64 (n : Int)
def L64 (l : List Nat) : List Value := l.map u64v
theorem L64_len (l : List Nat) : (L64 l).length = l.length := by simp [L64]
theorem L64_get (l : List Nat) (i : Nat) (h : i < l.length) : (L64 l)[i]? = some (.int .u64 (l.getD i 0 : Int)) := by
  simp [L64, u64v, h]
theorem L64_set (l : List Nat) (i v : Nat) : (L64 l).toArray.setIfInBounds i (.int .u64 (v : Int)) = (L64 (l.set i v)).toArray := by
  simp [L64, u64v, List.map_set]
theorem u64_one (l : List Nat) : ∀ u ∈ L64 l, u.oneCell' = true := by
  intro u hu
  simp only [L64, List.mem_map] at hu
  obtain ⟨c, _, rfl⟩ := hu
  rfl
theorem u64info : (Tryd.prog.info? 32).map (fun i => (i.zero, i.size, i.bytes)) = some (some (.int .u64 0), 1, 8) := by kernel_rfl
@[go_sem] theorem run_mk64 (w : World) (n : Int) (h0 : 0 ≤ n) (h : n ≤ 1000000) :
    (Instr.makeSlice 52 (.int .i64 n) (.int .i64 n)).run Tryd.prog w = .ok (.slice (some ⟨w.heap.size, 0, none⟩) n.toNat n.toNat) (w.alloc (.cells (L64 (List.replicate n.toNat 0)).toArray 32)) := by
  obtain ⟨i0, hi0, hz0, hz1, hz2⟩ := info_parts u64info
  have := run_make (P := Tryd.prog) w 52 32 i0 _ Tryd.underlying52 hi0 hz0 .i64 .i64 n n h0 (Int.le_refl _) (by rw [hz2]; omega) (by omega)
  rw [this, hz1, Nat.mul_one]
  show Result.ok _ (w.alloc (.cells (madeCells #[.int .u64 0] n.toNat) _)) = _
  rw [show madeCells #[.int .u64 0] n.toNat = (L64 (List.replicate n.toNat 0)).toArray from by
    apply Array.toList_inj.1
    rw [toList_madeCells_one]
    simp [L64, u64v]]

theorem digits_calls (w : World) (n : Nat) (hn : n < 18446744073709551616) :
    Calls Tryd.prog 26 #[.int .u64 (n : Int)] w fun e w' => ∃ g, e = .returned (.slice (some ⟨g, 0, none⟩) 4 4) ∧ w.heap.size ≤ g ∧ Blk w' g 32 (L64 (digL n)).toArray ∧ Ext Non w w' := by
  have q0 : IntKind.u64.wrap ((n : Int) / 65536) = (n : Int) / 65536 := by rw [IntKind.wrap_u64]; omega
  have q1 : IntKind.u64.wrap ((n : Int) / 4294967296) = (n : Int) / 4294967296 := by rw [IntKind.wrap_u64]; omega
  have q2 : IntKind.u64.wrap ((n : Int) / 281474976710656) = (n : Int) / 281474976710656 := by rw [IntKind.wrap_u64]; omega
  go_enter Tryd.func26, Tryd.ntmps26
  go_wp2_with fail
  go_ret
  exact ⟨w.heap.size, rfl, Nat.le_refl _, by simpa [digL, L64, u64v] using Blk.new w 32 _, (Ext.refl _ _).alloc _⟩

set_option maxRecDepth 100000 in
set_option maxHeartbeats 600000 in
theorem above_calls (w : World) (D D' : Nat → Prop) (A B : Option Addr) (a b : List Nat) (c d na nb : Nat) (ha : a.length = na) (hb : b.length = nb) (hna : na ≤ 1000) (hnb : nb ≤ 1000) (ra : Rd w D A (L64 a)) (rb : Rd w D' B (L64 b)) :
    Calls Tryd.prog 28 #[.slice A na c, .slice B nb d] w fun e w' => e = .returned (.bool (abvL a b (max na nb))) ∧ Ext Non w w' := by
  obtain ⟨m, hm⟩ : ∃ m, max na nb = m := ⟨_, rfl⟩
  have hm2 : m ≤ 1000 := by omega
  go_enter Tryd.func28, Tryd.ntmps28
  go_wp2_with fail
  go_loopw [5] (fun i wr => ∃ j : Nat, j ≤ m ∧ i = .int .i64 j ∧ abvL a b m = abvL a b j ∧ Ext Non w wr) (fun i _ => (intOf i).toNat)
  case atStart => exact ⟨m, Nat.le_refl _, rfl, rfl, Ext.refl _ _⟩
  case round =>
    obtain ⟨j, hj, rfl, hab, X⟩ := hrel
    cases j with
    | zero =>
      have Hab := Lib.hid hab
      clear hab
      go_wp2_with fail
      go_ret
      exact ⟨by rw [hm, Hab.out]; rfl, X⟩
    | succ j =>
      have i1 : (0 : Int) < ((j + 1 : Nat) : Int) := by omega
      have e1 : IntKind.i64.wrap (((j + 1 : Nat) : Int) - 1) = (j : Int) := by rw [IntKind.wrap_i64]; omega
      have Hab := Lib.hid hab
      clear hab
      rcases Nat.lt_or_ge j na with h1 | h1 <;> rcases Nat.lt_or_ge j nb with h2 | h2
      · -- a b
        have j1 : ((j + 1 : Nat) : Int) ≤ (na : Int) := by omega
        have j3 : (j : Int) < (na : Int) := by omega
        obtain ⟨hA, ca⟩ := (ra.extN X).ix (L64_get a j (by omega))
        have j2 : ((j + 1 : Nat) : Int) ≤ (nb : Int) := by omega
        have j4 : (j : Int) < (nb : Int) := by omega
        obtain ⟨hB, cb⟩ := (rb.extN X).ix (L64_get b j (by omega))
        obtain ⟨x, hx⟩ : ∃ x, a.getD j 0 = x := ⟨_, rfl⟩
        obtain ⟨y, hy⟩ : ∃ y, b.getD j 0 = y := ⟨_, rfl⟩
        have hst : abvL a b (j + 1) = if (x : Nat) = y then abvL a b j else decide ((x : Nat) > y) := by
          show (if a.getD j 0 = b.getD j 0 then abvL a b j else decide (a.getD j 0 > b.getD j 0)) = _
          rw [hx, hy]
        rw [hx] at ca
        rw [hy] at cb
        have HS := Lib.hid hst
        have HX := Lib.hid X
        clear hst X ra rb 
        by_cases hxy : (x : Nat) = y
        · have k1 : ((x : Int) != (y : Int)) = false := by simp <;> omega
          have hst := HS.out
          rw [if_pos hxy] at hst
          have HA := Lib.hid (Hab.out.trans hst)
          clear hst HS Hab
          go_wp2_with fail
          exact ⟨⟨j, by omega, by go_num, HA.out, HX.out⟩, by simp [intOf]⟩
        · have k1 : ((x : Int) != (y : Int)) = true := by simp <;> omega
          have hst := HS.out
          rw [if_neg hxy] at hst
          have HA := Lib.hid (Hab.out.trans hst)
          clear hst HS Hab
          go_wp2_with fail
          go_ret
          exact ⟨by rw [hm, HA.out]; simp, HX.out⟩
      · -- a -
        have j1 : ((j + 1 : Nat) : Int) ≤ (na : Int) := by omega
        have j3 : (j : Int) < (na : Int) := by omega
        obtain ⟨hA, ca⟩ := (ra.extN X).ix (L64_get a j (by omega))
        have j2 : (nb : Int) < ((j + 1 : Nat) : Int) := by omega
        have zb : b.getD j 0 = 0 := by rw [List.getD_eq_getElem?_getD, List.getElem?_eq_none (by omega)]; rfl
        obtain ⟨x, hx⟩ : ∃ x, a.getD j 0 = x := ⟨_, rfl⟩
        have hst : abvL a b (j + 1) = if (x : Nat) = 0 then abvL a b j else decide ((x : Nat) > 0) := by
          show (if a.getD j 0 = b.getD j 0 then abvL a b j else decide (a.getD j 0 > b.getD j 0)) = _
          rw [hx, zb]
        rw [hx] at ca
        have HS := Lib.hid hst
        have HX := Lib.hid X
        clear hst X ra rb 
        by_cases hxy : (x : Nat) = 0
        · have k1 : ((x : Int) != (0 : Int)) = false := by simp <;> omega
          have hst := HS.out
          rw [if_pos hxy] at hst
          have HA := Lib.hid (Hab.out.trans hst)
          clear hst HS Hab
          go_wp2_with fail
          exact ⟨⟨j, by omega, by go_num, HA.out, HX.out⟩, by simp [intOf]⟩
        · have k1 : ((x : Int) != (0 : Int)) = true := by simp <;> omega
          have hst := HS.out
          rw [if_neg hxy] at hst
          have HA := Lib.hid (Hab.out.trans hst)
          clear hst HS Hab
          go_wp2_with fail
          go_ret
          exact ⟨by rw [hm, HA.out]; simp, HX.out⟩
      · -- - b
        have j1 : (na : Int) < ((j + 1 : Nat) : Int) := by omega
        have za : a.getD j 0 = 0 := by rw [List.getD_eq_getElem?_getD, List.getElem?_eq_none (by omega)]; rfl
        have j2 : ((j + 1 : Nat) : Int) ≤ (nb : Int) := by omega
        have j4 : (j : Int) < (nb : Int) := by omega
        obtain ⟨hB, cb⟩ := (rb.extN X).ix (L64_get b j (by omega))
        obtain ⟨y, hy⟩ : ∃ y, b.getD j 0 = y := ⟨_, rfl⟩
        have hst : abvL a b (j + 1) = if (0 : Nat) = y then abvL a b j else decide ((0 : Nat) > y) := by
          show (if a.getD j 0 = b.getD j 0 then abvL a b j else decide (a.getD j 0 > b.getD j 0)) = _
          rw [za, hy]
        rw [hy] at cb
        have HS := Lib.hid hst
        have HX := Lib.hid X
        clear hst X ra rb 
        by_cases hxy : (0 : Nat) = y
        · have k1 : ((0 : Int) != (y : Int)) = false := by simp <;> omega
          have hst := HS.out
          rw [if_pos hxy] at hst
          have HA := Lib.hid (Hab.out.trans hst)
          clear hst HS Hab
          go_wp2_with fail
          exact ⟨⟨j, by omega, by go_num, HA.out, HX.out⟩, by simp [intOf]⟩
        · have k1 : ((0 : Int) != (y : Int)) = true := by simp <;> omega
          have hst := HS.out
          rw [if_neg hxy] at hst
          have HA := Lib.hid (Hab.out.trans hst)
          clear hst HS Hab
          go_wp2_with fail
          go_ret
          exact ⟨by rw [hm, HA.out]; simp, HX.out⟩
      · exfalso
        omega

/-- All digits are less than 2^64. -/
def Lt64 (l : List Nat) : Prop := ∀ n, l.getD n 0 < 18446744073709551616
theorem Lt64.set_ {l : List Nat} (h : Lt64 l) (i v : Nat) (hv : v < 18446744073709551616) : Lt64 (l.set i v) := by
  intro n
  rw [List.getD_eq_getElem?_getD, List.getElem?_set]
  have := h n
  rw [List.getD_eq_getElem?_getD] at this
  split
  · split
    · exact hv
    · simp
  · exact this
theorem tIn_lt (a b : List Nat) (i : Nat) : ∀ k {o}, Lt64 o → Lt64 (tIn a b i k o)
  | 0, _, h => h
  | k + 1, _, h => (tIn_lt a b i k h).set_ _ _ (Nat.mod_lt _ (by decide))
theorem tOut_lt (a b : List Nat) : ∀ i {o}, Lt64 o → Lt64 (tOut a b i o)
  | 0, _, h => h
  | i + 1, _, h => tIn_lt a b i _ (tOut_lt a b i h)
theorem tCar_lt : ∀ i {o}, Lt64 o → Lt64 (tCar i o)
  | 0, _, h => h
  | i + 1, _, h => ((tCar_lt i h).set_ _ _ (Nat.mod_lt _ (by decide))).set_ _ _ (by omega)
set_option maxRecDepth 100000 in
set_option maxHeartbeats 600000 in
/-- A product. -/
theorem times_calls (w : World) (D D' : Nat → Prop) (A B : Option Addr) (a b : List Nat) (c d na nb : Nat) (ha : a.length = na) (hb : b.length = nb) (hna : na ≤ 1000) (hnb : nb ≤ 1000) (ra : Rd w D A (L64 a)) (rb : Rd w D' B (L64 b)) :
    Calls Tryd.prog 27 #[.slice A na c, .slice B nb d] w fun e w' => ∃ g, e = .returned (.slice (some ⟨g, 0, none⟩) (na + nb) (na + nb)) ∧ w.heap.size ≤ g ∧ Blk w' g 32 (L64 (timesL a b)).toArray ∧ Ext Non w w' := by
  obtain ⟨m, hm⟩ : ∃ m, na + nb = m := ⟨_, rfl⟩
  have e0 : IntKind.i64.wrap ((na : Int) + (nb : Int)) = (m : Int) := by rw [IntKind.wrap_i64]; omega
  have e1 : (0 : Int) ≤ (m : Int) ∧ (m : Int) ≤ 1000000 := by omega
  have B0 := Blk.new w 32 (L64 (List.replicate m 0)).toArray
  have X0 : Ext Non w (w.alloc (.cells (L64 (List.replicate m 0)).toArray 32)) := (Ext.refl _ _).alloc _
  have hsz : w.heap.size < (w.alloc (.cells (L64 (List.replicate m 0)).toArray 32)).heap.size := by simp
  generalize hg : w.heap.size = g at B0 hsz
  have HG := Lib.hid hg
  have HM := Lib.hid hm
  obtain ⟨z, hz⟩ : ∃ z, List.replicate m 0 = z := ⟨_, rfl⟩
  have lz : z.length = m := by rw [← hz]; simp
  have ht : timesL a b = tCar (m - 1) (tOut a b na z) := by rw [← hz, ← hm, ← ha, ← hb]; rfl
  have HT := Lib.hid ht
  have HZ := Lib.hid hz
  clear hz ht
  go_enter Tryd.func27, Tryd.ntmps27
  go_wp2_with fail
  rw [HZ.out] at B0 X0 hsz ⊢
  generalize w.alloc (.cells (L64 z).toArray 32) = w1 at *
  go_loopw [6] (fun v wr => ∃ i : Nat, i ≤ na ∧ v = .int .i64 i ∧ Blk wr g 32 (L64 (tOut a b i z)).toArray ∧ Ext Non w wr) (fun v _ => na - (intOf v).toNat)
  case atStart => exact ⟨0, by omega, rfl, B0, X0⟩
  case round =>
    clear B0 X0 hsz
    obtain ⟨i, hi, rfl, BB, X⟩ := hrel
    by_cases hin : i < na
    · have i1 : (i : Int) < (na : Int) := by omega
      go_wp2_with fail
      go_loopw [7] (fun v wr => ∃ k : Nat, k ≤ nb ∧ v = .int .i64 k ∧ Blk wr g 32 (L64 (tIn a b i k (tOut a b i z))).toArray ∧ Ext Non w wr) (fun v _ => nb - (intOf v).toNat)
      case atStart => exact ⟨0, by omega, rfl, BB, X⟩
      case round =>
        clear BB X
        obtain ⟨k, hk, rfl, BB, X⟩ := hrel
        by_cases hkn : k < nb
        · have k1 : (k : Int) < (nb : Int) := by omega
          obtain ⟨o, ho⟩ : ∃ o, tIn a b i k (tOut a b i z) = o := ⟨_, rfl⟩
          have lo : o.length = m := by rw [← ho, tIn_len, tOut_len, lz]
          obtain ⟨q, hq⟩ : ∃ q, i + k = q := ⟨_, rfl⟩
          have q1 : q < m := by omega
          have q2 : (q : Int) < (m : Int) := by omega
          have e2 : IntKind.i64.wrap ((i : Int) + (k : Int)) = (q : Int) := by rw [IntKind.wrap_i64]; omega
          obtain ⟨hA, ca⟩ := (ra.extN X).ix (L64_get a i (by omega))
          obtain ⟨hB, cb⟩ := (rb.extN X).ix (L64_get b k (by omega))
          rw [ho] at BB
          have co : wr.cell? ⟨g, q, none⟩ = some (.int .u64 (o.getD q 0 : Int)) := by rw [BB.cell, List.getElem?_toArray]; exact L64_get _ _ (by omega)
          have fo := BB.frozen q
          obtain ⟨u, hu⟩ : ∃ u, (o.getD q 0 + a.getD i 0 * b.getD k 0) % 18446744073709551616 = u := ⟨_, rfl⟩
          obtain ⟨v, hv⟩ : ∃ v, (a.getD i 0 * b.getD k 0) % 18446744073709551616 = v := ⟨_, rfl⟩
          have e3 : IntKind.u64.wrap ((a.getD i 0 : Int) * (b.getD k 0 : Int)) = (v : Int) := by rw [IntKind.wrap_u64, ← Int.natCast_mul]; omega
          have e4 : IntKind.u64.wrap ((o.getD q 0 : Int) + (v : Int)) = (u : Int) := by rw [IntKind.wrap_u64]; omega
          have hst : tIn a b i (k + 1) (tOut a b i z) = o.set q u := by
            rw [← hu, ← hq, ← ho]
            rfl
          have B2 := BB.set_ q (.int .u64 (u : Int))
          rw [L64_set, ← hst] at B2
          have X2 : Ext Non w (wr.setCell ⟨g, q, none⟩ (.int .u64 (u : Int))) := X.setCell (.inl (by rw [← HG.out]; exact Nat.le_refl _)) _
          generalize o.getD q 0 = x at *
          generalize a.getD i 0 = y at *
          generalize b.getD k 0 = t at *
          have H2 := Lib.hid B2
          have HX := Lib.hid X2
          clear hu hv hst B2 X2 BB X ho hq lo
          go_wp2_with fail
          refine wp_region_tail 20 (by kernel_rfl) (by kernel_rfl) ?_
          simp only [List.take_succ_cons, List.take_zero, List.drop_succ_cons, List.drop_zero]
          repeat still_step
          refine wpStill_nil ?_
          go_wp2_with fail
          exact ⟨⟨k + 1, by omega, by go_num, H2.out.drew, HX.out.drew⟩, by simp [intOf]; omega⟩
        · have k1 : (nb : Int) ≤ (k : Int) := by omega
          obtain rfl : k = nb := by omega
          have HB := Lib.hid BB
          clear BB
          go_wp2_with fail
          refine ⟨⟨i + 1, by omega, by go_num, ?_, X⟩, by simp [intOf]; omega⟩
          have := HB.out
          rw [← hb] at this
          exact this
    · have i1 : (na : Int) ≤ (i : Int) := by omega
      obtain rfl : i = na := by omega
      go_wp2_with fail
      clear ra rb
      go_loopw [8] (fun v wr => ∃ j : Nat, j ≤ m - 1 ∧ v = .int .i64 j ∧ Blk wr g 32 (L64 (tCar j (tOut a b i z))).toArray ∧ Ext Non w wr) (fun v _ => m - (intOf v).toNat)
      case atStart => exact ⟨0, by omega, rfl, BB, X⟩
      case round =>
        clear BB X
        obtain ⟨j, hj, rfl, BB, X⟩ := hrel
        obtain ⟨q, hq⟩ : ∃ q, j + 1 = q := ⟨_, rfl⟩
        have e2 : IntKind.i64.wrap ((j : Int) + 1) = (q : Int) := by rw [IntKind.wrap_i64]; omega
        by_cases hjm : j < m - 1
        · have j1 : (q : Int) < (m : Int) := by omega
          have j2 : (j : Int) < (m : Int) := by omega
          obtain ⟨o, ho⟩ : ∃ o, tCar j (tOut a b i z) = o := ⟨_, rfl⟩
          have lo : o.length = m := by rw [← ho, tCar_len, tOut_len, lz]
          rw [ho] at BB
          have co : wr.cell? ⟨g, j, none⟩ = some (.int .u64 (o.getD j 0 : Int)) := by rw [BB.cell, List.getElem?_toArray]; exact L64_get _ _ (by omega)
          have cp : wr.cell? ⟨g, q, none⟩ = some (.int .u64 (o.getD q 0 : Int)) := by rw [BB.cell, List.getElem?_toArray]; exact L64_get _ _ (by omega)
          have fo := BB.frozen j
          have fp := BB.frozen q
          obtain ⟨u, hu⟩ : ∃ u, (o.getD q 0 + o.getD j 0 / 65536) % 18446744073709551616 = u := ⟨_, rfl⟩
          obtain ⟨v, hv⟩ : ∃ v, o.getD j 0 % 65536 = v := ⟨_, rfl⟩
          have hlt : o.getD j 0 < 18446744073709551616 := by
            rw [← ho]
            exact tCar_lt j (tOut_lt a b i (by rw [← HZ.out]; intro n; rw [List.getD_eq_getElem?_getD, List.getElem?_replicate]; split <;> simp)) j
          have e3 : IntKind.u64.wrap ((o.getD j 0 : Int) / 65536) = (o.getD j 0 : Int) / 65536 := by rw [IntKind.wrap_u64]; omega
          have e4 : IntKind.u64.wrap ((o.getD q 0 : Int) + (o.getD j 0 : Int) / 65536) = (u : Int) := by rw [IntKind.wrap_u64]; omega
          have e5 : (o.getD j 0 : Int) % 65536 = (v : Int) := by omega
          have hst : tCar (j + 1) (tOut a b i z) = (o.set q u).set j v := by
            rw [← hu, ← hv, ← ho, ← hq]
            rfl
          have B2 := BB.set_ q (.int .u64 (u : Int))
          rw [L64_set] at B2
          have c2 : (wr.setCell ⟨g, q, none⟩ (.int .u64 (u : Int))).cell? ⟨g, j, none⟩ = some (.int .u64 (o.getD j 0 : Int)) := by
            rw [B2.cell, List.getElem?_toArray, L64_get _ _ (by simp; omega)]
            simp [List.getD_eq_getElem?_getD, List.getElem?_set, show q ≠ j from by omega]
          have f2 := B2.frozen j
          have B3 := B2.set_ j (.int .u64 (v : Int))
          rw [L64_set, ← hst] at B3
          have X3 : Ext Non w ((wr.setCell ⟨g, q, none⟩ (.int .u64 (u : Int))).setCell ⟨g, j, none⟩ (.int .u64 (v : Int))) := (X.setCell (.inl (by rw [← HG.out]; exact Nat.le_refl _)) _).setCell (.inl (by rw [← HG.out]; exact Nat.le_refl _)) _
          generalize o.getD q 0 = x at *
          generalize o.getD j 0 = y at *
          have H3 := Lib.hid B3
          have HX := Lib.hid X3
          clear hu hv hst B3 B2 X3 BB X ho lo
          go_wp2_with fail
          refine wp_region_tail 14 (by kernel_rfl) (by kernel_rfl) ?_
          simp only [List.take_succ_cons, List.take_zero, List.drop_succ_cons, List.drop_zero]
          repeat still_step
          refine wpStill_nil ?_
          go_wp2_with fail
          exact ⟨⟨j + 1, by omega, by go_num, H3.out.drew, HX.out.drew⟩, by simp [intOf]; omega⟩
        · have j1 : (m : Int) ≤ (q : Int) := by omega
          obtain rfl : j = m - 1 := by omega
          have HB := Lib.hid BB
          clear BB
          go_wp2_with fail
          go_ret
          rw [HM.out]
          exact ⟨g, rfl, Nat.le_refl _, by rw [HT.out]; exact HB.out, X⟩

set_option maxRecDepth 100000 in
set_option maxHeartbeats 600000 in
/-- The i-th prime. -/
theorem prime_calls (w : World) (i0 : Nat) (hi0 : i0 < 64) :
    Calls Tryd.prog 16 #[.int .i64 (i0 : Int)] w fun e w' => e = .returned (.int .u64 (prL.getD i0 0 : Int)) ∧ Ext Non w w' := by
  obtain ⟨p1, p2, p3, p4⟩ := prime_at i0 hi0
  obtain ⟨p, hp⟩ : ∃ p, prL.getD i0 0 = p := ⟨_, rfl⟩
  rw [hp] at p1 p2 p3 p4
  have Hp := Lib.hid hp
  clear hp
  go_enter Tryd.func16, Tryd.ntmps16
  go_wp2_with fail
  go_loopw [0, 3] (fun v u wr => ∃ k : Nat, k ≤ p - 1 ∧ v = .int .i64 ((i0 : Int) - (cntP k : Int)) ∧ u = .int .u64 ((k + 1 : Nat) : Int) ∧ Ext Non w wr) (fun _ u _ => 1000 - (intOf u).toNat)
  case atStart => exact ⟨0, by omega, by simp [cntP], rfl, Ext.refl _ _⟩
  case round =>
    obtain ⟨k, hk, rfl, rfl, X⟩ := hrel
    by_cases hkp : k = p - 1
    · have hc : cntP k = i0 + 1 := by
        have : cntP (p - 2 + 1) = cntP (p - 2) + if isPk (p - 2 + 2) (p - 2) then 1 else 0 := rfl
        rw [show p - 2 + 2 = p from by omega, p2, p1, show p - 2 + 1 = k from by omega] at this
        exact this
      have i1 : (i0 : Int) - ((i0 + 1 : Nat) : Int) = -1 := by omega
      rw [hc, i1]
      have k2 : k + 1 = p := by omega
      rw [k2]
      clear hc
      go_wp2_with fail
      go_ret
      exact ⟨by rw [Hp.out]; rfl, X⟩
    · have hc : cntP k ≤ i0 := by rw [← p1]; exact cntP_mono _ _ (by omega)
      obtain ⟨q, hq⟩ : ∃ q : Nat, (i0 : Int) - (cntP k : Int) = (q : Int) := ⟨i0 - cntP k, by omega⟩
      have q0 : (0 : Int) ≤ (q : Int) := by omega
      obtain ⟨n, hn⟩ : ∃ n, k + 2 = n := ⟨_, rfl⟩
      obtain ⟨m, hm⟩ : ∃ m, k + 1 = m := ⟨_, rfl⟩
      have e1 : IntKind.u64.wrap ((m : Int) + 1) = (n : Int) := by rw [IntKind.wrap_u64]; omega
      have hq64 : q ≤ 63 := by omega
      rw [hq, hm]
      have HQ := Lib.hid hq
      clear hq
      go_wp2_with fail
      go_loopw [4, 5] (fun v u wr => ∃ j : Nat, j ≤ k ∧ v = .bool (isPk n j) ∧ u = .int .u64 ((j + 2 : Nat) : Int) ∧ Ext Non w wr) (fun _ u _ => 1000 - (intOf u).toNat)
      case atStart => exact ⟨0, by omega, rfl, rfl, X⟩
      case round =>
        clear X
        obtain ⟨j, hj, rfl, rfl, X⟩ := hrel
        obtain ⟨r, hr⟩ : ∃ r, j + 2 = r := ⟨_, rfl⟩
        have hst : isPk n (j + 1) = (isPk n j && n % r != 0) := by rw [← hr]; rfl
        rw [hr]
        by_cases hjk : j < k
        · have r1 : (r : Int) < (n : Int) := by omega
          have r0 : (r : Int) ≠ 0 := by omega
          have e2 : IntKind.u64.wrap ((r : Int) + 1) = ((j + 1 + 2 : Nat) : Int) := by rw [IntKind.wrap_u64]; omega
          have e3 : ((n : Int) % (r : Int) != 0) = (n % r != 0) := by
            rw [show (n : Int) % (r : Int) = ((n % r : Nat) : Int) from rfl]
            cases h : n % r <;> simp
            omega
          generalize hb : (n % r != 0) = b at *
          have HST := Lib.hid hst
          clear hst hb
          cases hv : isPk n j
          · have HV := Lib.hid hv
            clear hv
            go_wp2_with fail
            exact ⟨⟨j + 1, by omega, by rw [HST.out, HV.out]; rfl, rfl, X⟩, by simp [intOf]; omega⟩
          · have HV := Lib.hid hv
            clear hv
            go_wp2_with fail
            exact ⟨⟨j + 1, by omega, by rw [HST.out, HV.out]; rfl, rfl, X⟩, by simp [intOf]; omega⟩
        · have r1 : (n : Int) ≤ (r : Int) := by omega
          obtain rfl : j = k := by omega
          have hc2 : cntP (j + 1) = cntP j + if isPk n j then 1 else 0 := by rw [← hn]; rfl
          clear hst
          cases hv : isPk n j
          · rw [hv] at hc2
            have HC := Lib.hid hc2
            clear hc2 hv
            go_wp2_with fail
            exact ⟨⟨j + 1, by omega, by rw [HC.out, ← HQ.out]; simp, by rw [← hn], X⟩, by simp [intOf]; omega⟩
          · rw [hv] at hc2
            have e4 : IntKind.i64.wrap ((q : Int) - 1) = (q : Int) - 1 := by rw [IntKind.wrap_i64]; omega
            have HC := Lib.hid hc2
            clear hc2 hv
            go_wp2_with fail
            exact ⟨⟨j + 1, by omega, by have := HQ.out; rw [HC.out]; congr 1; simp; omega, by rw [← hn], X⟩, by simp [intOf]; omega⟩
end Go.Proofs.YtbhplepbccgecaaDoor
