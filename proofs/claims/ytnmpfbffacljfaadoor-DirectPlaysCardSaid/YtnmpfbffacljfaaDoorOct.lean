/- Contracts of package octets. -/
import Derived.Test.YtnmpfbffacljfaaDoorWrt
namespace Go.Proofs.YtnmpfbffacljfaaDoor
open Go.RowKit

/-! ### Reader -/
/-- A reader at block p: what is left of it lies at A (blocks of D). -/
structure Rdr (w : World) (p : Nat) (D : Nat → Prop) (l : List UInt8) : Prop where
  ex : ∃ A c, Blk w p 105 #[.slice A l.length c] ∧ Rd w D A (bvs l) ∧ l.length ≤ c ∧ l.length ≤ 70368744177664

section
variable {S D D' : Nat → Prop} {w w' : World} {p : Nat} {l : List UInt8}
theorem Rdr.lt (h : Rdr w p D l) : p < w.heap.size := let ⟨_, _, hb, _⟩ := h.ex; hb.lt
theorem Rdr.ext (h : Rdr w p D l) (hx : Ext S w w') (hp : ¬ S p) (hS : ∀ k, D k → ¬ S k) : Rdr w' p D l :=
  let ⟨A, c, hb, hr, hc⟩ := h.ex
  ⟨A, c, hb.ext hx hp, hr.ext hx hS, hc⟩
theorem Rdr.extN (h : Rdr w p D l) (hx : Ext Non w w') : Rdr w' p D l := h.ext hx (fun h => h) (fun _ _ h => h)
theorem Rdr.imp (h : Rdr w p D l) (hD : ∀ k, k < w.heap.size → D k → D' k) : Rdr w p D' l :=
  let ⟨A, c, hb, hr, hc⟩ := h.ex
  ⟨A, c, hb, hr.imp hD, hc⟩
end

theorem read_calls {w : World} {D : Nat → Prop} {A : Option Addr} {l : List UInt8} (c n : Nat) (hr : Rd w D A (bvs l)) (hn : l.length = n) (hl : l.length ≤ 70368744177664) :
    Calls Tryd.prog 41 #[.slice A n c] w fun e w' => ∃ p, e = .returned (.pointer (some ⟨p, 0, none⟩)) ∧ Rdr w' p (fun k => w.heap.size ≤ k ∧ k < p) l ∧ w.heap.size ≤ p ∧ Ext Non w w' := by
  go_enter Tryd.func41, Tryd.ntmps41
  go_wp2_with (go_at_call 54; refine (clone_calls c n hr hn hl).mono ?_; rintro e w1 ⟨A', c', rfl, hown, hx⟩)
  go_ret
  refine ⟨w1.heap.size, by simp, ⟨A', c', by rw [hn]; exact Blk.new _ _ _, ?_, hown.len.1, hl⟩, hx.size, hx.alloc _⟩
  refine (hown.rd.extN ((Ext.refl Non w1).alloc _)).imp ?_
  intro k _ hk
  exact hown.lt hk

/-- Bytes: n below 0; more than there are; else. -/
theorem bytes_arg {w : World} (p : Nat) (n : Int) (hn : n < 0) :
    Calls Tryd.prog 84 #[.pointer (some ⟨p, 0, none⟩), .int .i64 n] w fun e w' => e = .returned (.tuple #[.slice none 0 0, .int .i64 1]) ∧ w = w' := by
  go_enter Tryd.func84, Tryd.ntmps84
  go_wp2
  go_ret2
  exact ⟨rfl, rfl⟩

theorem bytes_short {w : World} {D : Nat → Prop} {p : Nat} {l : List UInt8} (hr : Rdr w p D l) (n : Int) (hn : (l.length : Int) < n) :
    Calls Tryd.prog 84 #[.pointer (some ⟨p, 0, none⟩), .int .i64 n] w fun e w' => e = .returned (.tuple #[.slice none 0 0, .int .i64 2]) ∧ w = w' := by
  obtain ⟨A, c, hb, _, _⟩ := hr.ex
  have hc := hb.cell 0
  have h0 : ¬ n < 0 := by omega
  go_enter Tryd.func84, Tryd.ntmps84
  go_wp2
  go_ret2
  exact ⟨rfl, rfl⟩

theorem bytes_ok {w : World} {D : Nat → Prop} {p : Nat} {l : List UInt8} (hr : Rdr w p D l) (hp : ¬ D p) (n : Int) (k : Nat) (hk : n = k) (hn : k ≤ l.length) :
    Calls Tryd.prog 84 #[.pointer (some ⟨p, 0, none⟩), .int .i64 n] w fun e w' =>
      ∃ A' c', e = .returned (.tuple #[.slice A' k c', .int .i64 0]) ∧ OwB w' w.heap.size A' c' (l.take k) ∧ Rdr w' p D (l.drop k) ∧ Ext (One p) w w' := by
  subst hk
  obtain ⟨A, c, hb, hrd, hlc, hl⟩ := hr.ex
  have hc := hb.cell 0
  have h0 : ¬ (k : Int) < 0 := by omega
  have h1 : ¬ (l.length : Int) < (k : Int) := by omega
  go_enter Tryd.func84, Tryd.ntmps84
  go_wp2_with (go_at_call 54; refine (clone_calls (l := l.take k) c k (by rw [show bvs (l.take k) = (bvs l).take k from by simp [bvs]]; exact hrd.take k) (by simp; omega) (by simp; omega)).mono ?_; rintro e w1 ⟨A', c', rfl, hown, hx⟩; have hb1 := hb.extN_ hx; have hc1 := hb1.cell 0; have hf1 := hb1.frozen 0)
  go_wp2
  go_ret2
  have hlen : l.length - k = (l.drop k).length := by simp
  refine ⟨A', c', rfl, ?_, ⟨cut A k c, c - k, ?_, ?_, by simp; omega, by simp; omega⟩, ?_⟩
  · refine hown.ext ((Ext.refl Non w1).setN 0 _) ?_
    rintro k' hk rfl
    exact absurd (hown.lt hk).1 (by have := hb.lt; omega)
  · rw [← hlen]; exact hb1.set_ 0 _
  · refine Rd.ext ?_ ((Ext.refl Non w1).setN 0 _) (D := D) ?_
    · rw [show bvs (l.drop k) = (bvs l).drop k from by simp [bvs]]; exact (hrd.extN hx).cut (by rw [bvs_length]; exact hlc)
    · rintro k' hk rfl; exact hp hk
  · exact hx.setN 0 _

set_option maxRecDepth 10000 in
theorem take32_calls {w : World} {D : Nat → Prop} {p : Nat} {l : List UInt8} (hr : Rdr w p D l) (hp : ¬ D p) (hk : 4 ≤ l.length) :
    Calls Tryd.prog 69 #[.pointer (some ⟨p, 0, none⟩), .int .i64 4] w fun e w' =>
      e = .returned (.tuple #[.int .u32 (num (l.take 4)), .int .i64 0]) ∧ Rdr w' p D (l.drop 4) ∧ Ext (One p) w w' := by
  have hlt8 := num_lt 4 (l.take 4) (by simp; omega)
  have hend : num (l.take 4) < 4294967296 := Nat.lt_of_lt_of_le hlt8 (by decide)
  clear hlt8
  go_enter Tryd.func69, Tryd.ntmps69
  go_wp2_with (go_at_call 84; refine (bytes_ok hr hp _ 4 rfl hk).mono ?_; rintro e w1 ⟨A', c', rfl, hown, hr1, hx⟩)
  go_loop [7, 18] (fun a i => ∃ j : Nat, j ≤ 4 ∧ i = .int .i64 j ∧ a = .int .u64 (num (l.take j))) (fun _ i => 4 - (intOf i).toNat)
  case atStart => exact ⟨0, Nat.zero_le _, rfl, rfl⟩
  case round =>
    obtain ⟨j, hj, rfl, rfl⟩ := hrel
    by_cases hlt : j < 4
    · obtain ⟨hA, hc⟩ := hown.rd.ix (bvs_get (l.take 4) j (by simp; omega))
      rw [List.getElem_take] at hc
      have hn := num_lt j (l.take j) (by simp; omega)
      have hp8 : 256 ^ j ≤ 256 ^ 7 := Nat.pow_le_pow_right (by omega) (by omega)
      have hc8 := l[j].toNat_lt
      have hst := u64_step (num (l.take j)) l[j].toNat (by omega) (by omega)
      have hnt := num_take l j (by omega)
      clear hp8
      go_wp2
      exact ⟨⟨j + 1, by omega, by go_num, by rw [hnt]; go_num⟩, by simp [intOf]; omega⟩
    · obtain rfl : j = 4 := by omega
      go_wp2
      go_ret2
      exact ⟨rfl, by simpa using hr1, hx⟩
theorem take32_short {w : World} {D : Nat → Prop} {p : Nat} {l : List UInt8} (hr : Rdr w p D l) (hk : l.length < 4) :
    Calls Tryd.prog 69 #[.pointer (some ⟨p, 0, none⟩), .int .i64 4] w fun e w' =>
      e = .returned (.tuple #[.int .u32 0, .int .i64 2]) ∧ w = w' := by
  go_enter Tryd.func69, Tryd.ntmps69
  go_wp2_with (go_at_call 84; refine (bytes_short hr _ (by omega)).mono ?_; rintro e w1 ⟨rfl, rfl⟩)
  go_loop [7, 18] (fun a i => i = .int .i64 0 ∧ a = .int .u64 0) (fun _ i => 0)
  case atStart => exact ⟨rfl, rfl⟩
  case round =>
    obtain ⟨rfl, rfl⟩ := hrel
    go_wp2
    go_ret2
    exact ⟨rfl, rfl⟩
theorem u32_calls {w : World} {D : Nat → Prop} {p : Nat} {l : List UInt8} (hr : Rdr w p D l) (hp : ¬ D p) (hk : 4 ≤ l.length) :
    Calls Tryd.prog 56 #[.pointer (some ⟨p, 0, none⟩)] w fun e w' =>
      e = .returned (.tuple #[.int .u32 (num (l.take 4)), .int .i64 0]) ∧ Rdr w' p D (l.drop 4) ∧ Ext (One p) w w' := by
  go_enter Tryd.func56, Tryd.ntmps56
  go_wp2_with (go_at_call 69; refine (take32_calls hr hp hk).mono ?_; rintro e w1 ⟨rfl, hr1, hx⟩)
  go_ret2
  exact ⟨rfl, by simpa using hr1, hx⟩
theorem u32_short {w : World} {D : Nat → Prop} {p : Nat} {l : List UInt8} (hr : Rdr w p D l) (hk : l.length < 4) :
    Calls Tryd.prog 56 #[.pointer (some ⟨p, 0, none⟩)] w fun e w' =>
      e = .returned (.tuple #[.int .u32 0, .int .i64 2]) ∧ w = w' := by
  go_enter Tryd.func56, Tryd.ntmps56
  go_wp2_with (go_at_call 69; refine (take32_short hr hk).mono ?_; rintro e w1 ⟨rfl, rfl⟩)
  go_ret2
  exact ⟨rfl, rfl⟩
set_option maxRecDepth 10000 in
theorem take16_calls {w : World} {D : Nat → Prop} {p : Nat} {l : List UInt8} (hr : Rdr w p D l) (hp : ¬ D p) (hk : 2 ≤ l.length) :
    Calls Tryd.prog 68 #[.pointer (some ⟨p, 0, none⟩), .int .i64 2] w fun e w' =>
      e = .returned (.tuple #[.int .u16 (num (l.take 2)), .int .i64 0]) ∧ Rdr w' p D (l.drop 2) ∧ Ext (One p) w w' := by
  have hlt8 := num_lt 2 (l.take 2) (by simp; omega)
  have hend : num (l.take 2) < 65536 := Nat.lt_of_lt_of_le hlt8 (by decide)
  clear hlt8
  go_enter Tryd.func68, Tryd.ntmps68
  go_wp2_with (go_at_call 84; refine (bytes_ok hr hp _ 2 rfl hk).mono ?_; rintro e w1 ⟨A', c', rfl, hown, hr1, hx⟩)
  go_loop [7, 18] (fun a i => ∃ j : Nat, j ≤ 2 ∧ i = .int .i64 j ∧ a = .int .u64 (num (l.take j))) (fun _ i => 2 - (intOf i).toNat)
  case atStart => exact ⟨0, Nat.zero_le _, rfl, rfl⟩
  case round =>
    obtain ⟨j, hj, rfl, rfl⟩ := hrel
    by_cases hlt : j < 2
    · obtain ⟨hA, hc⟩ := hown.rd.ix (bvs_get (l.take 2) j (by simp; omega))
      rw [List.getElem_take] at hc
      have hn := num_lt j (l.take j) (by simp; omega)
      have hp8 : 256 ^ j ≤ 256 ^ 7 := Nat.pow_le_pow_right (by omega) (by omega)
      have hc8 := l[j].toNat_lt
      have hst := u64_step (num (l.take j)) l[j].toNat (by omega) (by omega)
      have hnt := num_take l j (by omega)
      clear hp8
      go_wp2
      exact ⟨⟨j + 1, by omega, by go_num, by rw [hnt]; go_num⟩, by simp [intOf]; omega⟩
    · obtain rfl : j = 2 := by omega
      go_wp2
      go_ret2
      exact ⟨rfl, by simpa using hr1, hx⟩
theorem take16_short {w : World} {D : Nat → Prop} {p : Nat} {l : List UInt8} (hr : Rdr w p D l) (hk : l.length < 2) :
    Calls Tryd.prog 68 #[.pointer (some ⟨p, 0, none⟩), .int .i64 2] w fun e w' =>
      e = .returned (.tuple #[.int .u16 0, .int .i64 2]) ∧ w = w' := by
  go_enter Tryd.func68, Tryd.ntmps68
  go_wp2_with (go_at_call 84; refine (bytes_short hr _ (by omega)).mono ?_; rintro e w1 ⟨rfl, rfl⟩)
  go_loop [7, 18] (fun a i => i = .int .i64 0 ∧ a = .int .u64 0) (fun _ i => 0)
  case atStart => exact ⟨rfl, rfl⟩
  case round =>
    obtain ⟨rfl, rfl⟩ := hrel
    go_wp2
    go_ret2
    exact ⟨rfl, rfl⟩
theorem u16_calls {w : World} {D : Nat → Prop} {p : Nat} {l : List UInt8} (hr : Rdr w p D l) (hp : ¬ D p) (hk : 2 ≤ l.length) :
    Calls Tryd.prog 55 #[.pointer (some ⟨p, 0, none⟩)] w fun e w' =>
      e = .returned (.tuple #[.int .u16 (num (l.take 2)), .int .i64 0]) ∧ Rdr w' p D (l.drop 2) ∧ Ext (One p) w w' := by
  go_enter Tryd.func55, Tryd.ntmps55
  go_wp2_with (go_at_call 68; refine (take16_calls hr hp hk).mono ?_; rintro e w1 ⟨rfl, hr1, hx⟩)
  go_ret2
  exact ⟨rfl, by simpa using hr1, hx⟩
theorem u16_short {w : World} {D : Nat → Prop} {p : Nat} {l : List UInt8} (hr : Rdr w p D l) (hk : l.length < 2) :
    Calls Tryd.prog 55 #[.pointer (some ⟨p, 0, none⟩)] w fun e w' =>
      e = .returned (.tuple #[.int .u16 0, .int .i64 2]) ∧ w = w' := by
  go_enter Tryd.func55, Tryd.ntmps55
  go_wp2_with (go_at_call 68; refine (take16_short hr hk).mono ?_; rintro e w1 ⟨rfl, rfl⟩)
  go_ret2
  exact ⟨rfl, rfl⟩

theorem put32_calls {w : World} {base p : Nat} {g : Option Nat} {l : List UInt8} (hW : Wr w base p g l) (hbase : base ≤ w.heap.size) (x : Nat) (hx : (x : Int) ≤ 4294967295) (hlen : l.length ≤ 70368744170000) :
    Calls Tryd.prog 51 #[.pointer (some ⟨p, 0, none⟩), .int .u32 x, .int .i64 4] w fun e w' => e = .returned (.pointer (some ⟨p, 0, none⟩)) ∧ ∃ g', WStep w base p g w' g' (l ++ be 4 x) := by
  go_enter Tryd.func51, Tryd.ntmps51
  go_wp2
  go_loopw [7] (fun t wr => ∃ (k : Nat) (g1 : Option Nat) (l1 : List UInt8), k ≤ 4 ∧ t = .int .i64 ((k : Int) - 1) ∧ WStep w base p g wr g1 l1 ∧ l1 ++ be k x = l ++ be 4 x ∧ l1.length ≤ l.length + 4) (fun t _ => (intOf t + 1).toNat)
  case atStart => exact ⟨4, g, l, Nat.le_refl _, rfl, WStep.refl hW, rfl, by omega⟩
  case round =>
    obtain ⟨k, g1, l1, hk, rfl, hs, heq, hl1⟩ := hrel
    have HEQ := Lib.hid heq
    clear heq
    cases k with
    | zero =>
      go_wp2
      go_ret
      have he : l1 = l ++ be 4 x := by have := HEQ.out; rwa [be, List.append_nil] at this
      exact ⟨rfl, g1, he ▸ hs⟩
    | succ k =>
      have e1 : ((k + 1 : Nat) : Int) - 1 = (k : Int) := by omega
      rw [e1]
      obtain ⟨A, c, hb, ho, hg⟩ := hs.wr.ex
      have hne := hs.wr.ne
      have hc := hb.cell 0
      obtain ⟨b8, hby, HB⟩ := be_byte x k
      have hxw : IntKind.u64.wrap (x : Int) = x := IntWalk.u64_in _ (by omega)
      have h8 : IntKind.i64.wrap (8 * (k : Int)) = 8 * k := IntWalk.i64_in _ (by omega)
      have hbw : base ≤ wr.heap.size := Nat.le_trans hbase hs.ext.size
      have hpl := hb.lt
      go_wp2
      go_region_law ((refine step_ap8 (by rfl) _ _ (by rfl) l1.length (by rfl) ((ho.alloc _).drew) rfl 1 1 (by rfl) (D := fun _ => True) (m := [b8]) (rd_new1 wr _ b8) rfl (by simp; omega) (by simp; omega) ?_; intro A' c' w1 ho1 hx1 hob; have hb1 := Blk.ext ((hb.alloc _).drew) hx1 (by rw [hg]; exact hne); have hc1 := hb1.cell 0; have hf1 := hb1.frozen 0))
      all_goals
        subst hg
        have hput := WStep.put hb.lt hne (((Ext.refl Non wr).alloc _).drew) hx1 ho1 hob hb1 rfl (l1.length + 1) rfl
        have HQ := HEQ.out
        have HB' := HB.out
        have HR : Hid (∃ (j : Nat) (g2 : Option Nat) (l2 : List UInt8), j ≤ 4 ∧ Value.int .i64 ((k : Int) - 1) = .int .i64 ((j : Int) - 1) ∧ WStep w base p g (w1.setCell ⟨p, 0, none⟩ (.slice A' (l1.length + 1) c')) g2 l2 ∧ l2 ++ be j x = l ++ be 4 x ∧ l2.length ≤ l.length + 4) := by
          refine ⟨k, ob A', l1 ++ [b8], by omega, rfl, hs.trans hput, ?_, ?_⟩
          · rw [← HQ, ← HB', be, List.append_assoc]; rfl
          · have := congrArg List.length HQ
            simp only [List.length_append, be_length, List.length_singleton] at this ⊢
            omega
        clear HQ HB' hput
        go_wp2
        exact ⟨HR.out, by simp [intOf]⟩
theorem wu32_calls {w : World} {base p : Nat} {g : Option Nat} {l : List UInt8} (hW : Wr w base p g l) (hbase : base ≤ w.heap.size) (x : Nat) (hx : (x : Int) ≤ 4294967295) (hlen : l.length ≤ 70368744170000) :
    Calls Tryd.prog 37 #[.pointer (some ⟨p, 0, none⟩), .int .u32 x] w fun e w' => e = .returned (.pointer (some ⟨p, 0, none⟩)) ∧ ∃ g', WStep w base p g w' g' (l ++ be 4 x) := by
  go_enter Tryd.func37, Tryd.ntmps37
  go_wp2_with (go_at_call 51; refine (put32_calls hW hbase x hx hlen).mono ?_; rintro e w1 ⟨rfl, g', hs⟩)
  go_ret
  exact ⟨rfl, g', hs⟩
theorem put16_calls {w : World} {base p : Nat} {g : Option Nat} {l : List UInt8} (hW : Wr w base p g l) (hbase : base ≤ w.heap.size) (x : Nat) (hx : (x : Int) ≤ 65535) (hlen : l.length ≤ 70368744170000) :
    Calls Tryd.prog 50 #[.pointer (some ⟨p, 0, none⟩), .int .u16 x, .int .i64 2] w fun e w' => e = .returned (.pointer (some ⟨p, 0, none⟩)) ∧ ∃ g', WStep w base p g w' g' (l ++ be 2 x) := by
  go_enter Tryd.func50, Tryd.ntmps50
  go_wp2
  go_loopw [7] (fun t wr => ∃ (k : Nat) (g1 : Option Nat) (l1 : List UInt8), k ≤ 2 ∧ t = .int .i64 ((k : Int) - 1) ∧ WStep w base p g wr g1 l1 ∧ l1 ++ be k x = l ++ be 2 x ∧ l1.length ≤ l.length + 2) (fun t _ => (intOf t + 1).toNat)
  case atStart => exact ⟨2, g, l, Nat.le_refl _, rfl, WStep.refl hW, rfl, by omega⟩
  case round =>
    obtain ⟨k, g1, l1, hk, rfl, hs, heq, hl1⟩ := hrel
    have HEQ := Lib.hid heq
    clear heq
    cases k with
    | zero =>
      go_wp2
      go_ret
      have he : l1 = l ++ be 2 x := by have := HEQ.out; rwa [be, List.append_nil] at this
      exact ⟨rfl, g1, he ▸ hs⟩
    | succ k =>
      have e1 : ((k + 1 : Nat) : Int) - 1 = (k : Int) := by omega
      rw [e1]
      obtain ⟨A, c, hb, ho, hg⟩ := hs.wr.ex
      have hne := hs.wr.ne
      have hc := hb.cell 0
      obtain ⟨b8, hby, HB⟩ := be_byte x k
      have hxw : IntKind.u64.wrap (x : Int) = x := IntWalk.u64_in _ (by omega)
      have h8 : IntKind.i64.wrap (8 * (k : Int)) = 8 * k := IntWalk.i64_in _ (by omega)
      have hbw : base ≤ wr.heap.size := Nat.le_trans hbase hs.ext.size
      have hpl := hb.lt
      go_wp2
      go_region_law ((refine step_ap8 (by rfl) _ _ (by rfl) l1.length (by rfl) ((ho.alloc _).drew) rfl 1 1 (by rfl) (D := fun _ => True) (m := [b8]) (rd_new1 wr _ b8) rfl (by simp; omega) (by simp; omega) ?_; intro A' c' w1 ho1 hx1 hob; have hb1 := Blk.ext ((hb.alloc _).drew) hx1 (by rw [hg]; exact hne); have hc1 := hb1.cell 0; have hf1 := hb1.frozen 0))
      all_goals
        subst hg
        have hput := WStep.put hb.lt hne (((Ext.refl Non wr).alloc _).drew) hx1 ho1 hob hb1 rfl (l1.length + 1) rfl
        have HQ := HEQ.out
        have HB' := HB.out
        have HR : Hid (∃ (j : Nat) (g2 : Option Nat) (l2 : List UInt8), j ≤ 2 ∧ Value.int .i64 ((k : Int) - 1) = .int .i64 ((j : Int) - 1) ∧ WStep w base p g (w1.setCell ⟨p, 0, none⟩ (.slice A' (l1.length + 1) c')) g2 l2 ∧ l2 ++ be j x = l ++ be 2 x ∧ l2.length ≤ l.length + 2) := by
          refine ⟨k, ob A', l1 ++ [b8], by omega, rfl, hs.trans hput, ?_, ?_⟩
          · rw [← HQ, ← HB', be, List.append_assoc]; rfl
          · have := congrArg List.length HQ
            simp only [List.length_append, be_length, List.length_singleton] at this ⊢
            omega
        clear HQ HB' hput
        go_wp2
        exact ⟨HR.out, by simp [intOf]⟩
theorem wu16_calls {w : World} {base p : Nat} {g : Option Nat} {l : List UInt8} (hW : Wr w base p g l) (hbase : base ≤ w.heap.size) (x : Nat) (hx : (x : Int) ≤ 65535) (hlen : l.length ≤ 70368744170000) :
    Calls Tryd.prog 36 #[.pointer (some ⟨p, 0, none⟩), .int .u16 x] w fun e w' => e = .returned (.pointer (some ⟨p, 0, none⟩)) ∧ ∃ g', WStep w base p g w' g' (l ++ be 2 x) := by
  go_enter Tryd.func36, Tryd.ntmps36
  go_wp2_with (go_at_call 50; refine (put16_calls hW hbase x hx hlen).mono ?_; rintro e w1 ⟨rfl, g', hs⟩)
  go_ret
  exact ⟨rfl, g', hs⟩

end Go.Proofs.YtnmpfbffacljfaaDoor
