/- Bytes of the program's own making; contracts of package octets. -/
import Derived.Test.YtkgnhkkmingenaaMem
import Derived.Test.YtkgnhkkmingenaaBit
import Derived.Test.YtkgnhkkmingenaaProg
namespace Go.Proofs.Ytkgnhkkmingenaa
open Go.RowKit

def ob (A : Option Addr) : Option Nat := A.map (·.block)
theorem ownBlock_ob (A : Option Addr) (n c : Nat) : (Value.slice A n c).ownBlock = ob A := by cases A <;> rfl

/-- Bytes that the call owns, from block 'base' on. -/
def OwB (w : World) (base : Nat) (A : Option Addr) (c : Nat) (l : List UInt8) : Prop := w.ownsRow base 5 1 (.slice A l.length c) l.length (bvs l)

section
variable {S : Nat → Prop} {w w' : World} {base : Nat} {A : Option Addr} {c : Nat} {l : List UInt8}
theorem OwB.rd (h : OwB w base A c l) : Rd w (fun k => ob A = some k) A (bvs l) := by
  have := own_block_of h
  rwa [ownBlock_ob] at this
theorem OwB.len (h : OwB w base A c l) : l.length ≤ c ∧ c ≤ maxLen := own_len h
theorem OwB.ext (h : OwB w base A c l) (hx : Ext S w w') (hS : ∀ k, ob A = some k → ¬ S k) : OwB w' base A c l := own_ext h hx (by rw [ownBlock_ob]; exact hS)
theorem OwB.extN (h : OwB w base A c l) (hx : Ext Non w w') : OwB w' base A c l := h.ext hx (fun _ _ h => h)
theorem OwB.lt (h : OwB w base A c l) {k : Nat} (hk : ob A = some k) : base ≤ k ∧ k < w.heap.size := World.ownsRow.lt h k (by rw [ownBlock_ob]; exact hk)
theorem OwB.lower (h : OwB w base A c l) {base' : Nat} (hb : ∀ k, ob A = some k → base' ≤ k) : OwB w base' A c l := own_lower h (by rw [ownBlock_ob]; exact hb)
theorem OwB.nil (w : World) (base : Nat) : OwB w base none 0 [] := World.ownsRow_nil w base 5 1
theorem OwB.alloc (h : OwB w base A c l) (o : Obj) : OwB (w.alloc o) base A c l := World.ownsRow.alloc h o
theorem OwB.drew (h : OwB w base A c l) : OwB w.drew base A c l := h
theorem OwB.blk (h : OwB w base A c l) {k : Nat} (hk : ob A = some k) : ∃ cs, Blk w k 5 cs ∧ A = some ⟨k, 0, none⟩ ∧ cs.size = c ∧ cs.toList.take l.length = bvs l := by
  rcases h.2 with ⟨hv, h0⟩ | ⟨g, cap, cur, hv, hb, hg, hnc, hcm, hsz, ht⟩
  · injection hv with hA
    subst hA
    cases hk
  · injection hv with hA _ hc
    subst hA hc
    have : g = k := by simpa [ob] using hk
    subst this
    exact ⟨cur, hg, rfl, by simpa using hsz, by simpa using ht⟩
end

theorem u8info : (Try.prog.info? 5).map (fun i => (i.zero, i.size, i.bytes)) = some (some (.int .u8 0), 1, 1) := by kernel_rfl

section
variable {w : World} {ops : Array Oper} {rest : List Oper} {o : Oper} {a : Act} {Q : Exit → Act → World → Prop}

theorem run_ap8 (ty : TypeId) {base : Nat} {A : Option Addr} {c : Nat} {l : List UInt8} (hown : OwB w base A c l) {D : Nat → Prop} {B : Option Addr} {m : List UInt8} (hr : Rd w D B (bvs m)) (d n k : Nat) (hn : l.length = n) (hk : m.length = k)
    (hlen : l.length + m.length ≤ 70368744177664) (hbase : base ≤ w.heap.size) :
    ∃ A' c' w', (Builtin.append_ #[22, 22] ty #[.slice A n c, .slice B k d]).run Try.prog w = .ok (.slice A' (n + k) c') w' ∧ OwB w' base A' c' (l ++ m) ∧
      Ext (fun k => ob A = some k) w w' ∧ (ob A' = ob A ∨ ob A' = some w.heap.size) := by
  subst hn hk
  obtain ⟨i0, hi0, hz0, hz1, hz2⟩ := info_parts u8info
  obtain ⟨v', w', hrun, h2, h3, h4⟩ := run_append_any (P := Try.prog) w base 22 ty 5 i0 _ 1 1 Try.underlying22 hi0 hz0 hz1 hz2 rfl (by omega) _ _ _ hown D B m.length d (bvs m) (by rw [bvs_length]; omega) hr (bvs_one m)
    (by simp only [maxLen]; omega) (by omega) hbase
  rw [ownBlock_ob] at h3 h4
  have hv : ∃ A' c', v' = .slice A' (l.length + m.length) c' := by
    rcases h2.2 with ⟨hv, h0⟩ | ⟨g, cap, cur, hv, _⟩
    · exact ⟨none, 0, by rw [hv, h0]⟩
    · exact ⟨_, _, hv⟩
  obtain ⟨A', c', rfl⟩ := hv
  rw [ownBlock_ob] at h4
  refine ⟨A', c', w', hrun, ?_, ?_, h4⟩
  · unfold OwB
    rw [bvs_append, List.length_append]
    exact h2
  · exact (Ext.of_grown h3).imp (fun k _ hk => hk)

theorem wp_ap8 (hgd : o.guard = none) (s x : Operand) (ho : o.op = .call { callee := .builtin .append, args := #[s, x], argTypes := #[22, 22] })
    {base : Nat} {A : Option Addr} {c : Nat} {l : List UInt8} (n : Nat) (hs : a.eval s = .slice A n c) (hown : OwB w base A c l) (hn : l.length = n)
    {D : Nat → Prop} {B : Option Addr} {m : List UInt8} (k d : Nat) (hx : a.eval x = .slice B k d) (hr : Rd w D B (bvs m)) (hk : m.length = k)
    (hlen : l.length + m.length ≤ 70368744177664) (hbase : base ≤ w.heap.size)
    (h : ∀ A' c' w', OwB w' base A' c' (l ++ m) → Ext (fun k => ob A = some k) w w' → (ob A' = ob A ∨ ob A' = some w.heap.size) →
      wpList Try.prog ops Q rest (a.put o.dst (.slice A' (n + k) c')) w') : wpList Try.prog ops Q (o :: rest) a w := by
  obtain ⟨A', c', w', hrun, h2, h3, h4⟩ := run_ap8 o.type hown hr d n k hn hk hlen hbase
  refine wpList_plain hgd fun K hK => ?_
  unfold Oper.wp execOp
  simp only [ho, resolve, invoke, builtin, Sem.run_bind, Sem.run_pure, Result.andThen_ok, List.map_toArray, List.map_cons, List.map_nil, hs, hx, hrun]
  exact hK _ _ (h A' c' w' h2 h3 h4)

theorem step_ap8 {K : Act → World → Prop} {E : Prop} (hgd : o.guard = none) (s x : Operand) (ho : o.op = .call { callee := .builtin .append, args := #[s, x], argTypes := #[22, 22] })
    {base : Nat} {A : Option Addr} {c : Nat} {l : List UInt8} (n : Nat) (hs : a.eval s = .slice A n c) (hown : OwB w base A c l) (hn : l.length = n)
    {D : Nat → Prop} {B : Option Addr} {m : List UInt8} (k d : Nat) (hx : a.eval x = .slice B k d) (hr : Rd w D B (bvs m)) (hk : m.length = k)
    (hlen : l.length + m.length ≤ 70368744177664) (hbase : base ≤ w.heap.size)
    (h : ∀ A' c' w', OwB w' base A' c' (l ++ m) → Ext (fun k => ob A = some k) w w' → (ob A' = ob A ∨ ob A' = some w.heap.size) →
      K (a.put o.dst (.slice A' (n + k) c')) w') : if Region.wanted o (yielded ops a.tmps) = true then Oper.wp Try.prog o a w K Q else E := by
  obtain ⟨A', c', w', hrun, h2, h3, h4⟩ := run_ap8 o.type hown hr d n k hn hk hlen hbase
  have hw : Region.wanted o (yielded ops a.tmps) = true := by simp [Region.wanted, hgd]
  rw [if_pos hw]
  unfold Oper.wp execOp
  simp only [ho, resolve, invoke, builtin, Sem.run_bind, Sem.run_pure, Result.andThen_ok, List.map_toArray, List.map_cons, List.map_nil, hs, hx, hrun]
  exact h A' c' w' h2 h3 h4
end

/-! ### make([]byte, n), make([]byte, n, c) -/
/-- Noughts. -/
def zeros (n : Nat) : List UInt8 := List.replicate n 0
theorem zeros_length (n : Nat) : (zeros n).length = n := by simp [zeros]
theorem bvs_zeros (n : Nat) : bvs (zeros n) = List.replicate n (.int .u8 0) := by simp [bvs, zeros, bv]
def zrow (n : Nat) : Array Value := (bvs (zeros n)).toArray
theorem zrow_size (n : Nat) : (zrow n).size = n := by simp [zrow, bvs, zeros]
theorem zrow_eq (n : Nat) : madeCells #[.int .u8 0] n = zrow n := by
  apply Array.toList_inj.1
  rw [toList_madeCells_one, zrow, bvs_zeros]
@[go_sem] theorem run_mk8 (w : World) (kl kc : IntKind) (n c : Int) (h0 : 0 ≤ n) (h1 : n ≤ c) (h : c ≤ 70368744177664) :
    (Instr.makeSlice 22 (.int kl n) (.int kc c)).run Try.prog w = .ok (.slice (some ⟨w.heap.size, 0, none⟩) n.toNat c.toNat) (w.alloc (.cells (zrow c.toNat) 5)) := by
  obtain ⟨i0, hi0, hz0, hz1, hz2⟩ := info_parts u8info
  have := run_make (P := Try.prog) w 22 5 i0 _ Try.underlying22 hi0 hz0 kl kc n c h0 h1 (by rw [hz2]; omega) (by omega)
  rw [this, hz1, Nat.mul_one]
  show Result.ok _ (w.alloc (.cells (madeCells #[.int .u8 0] c.toNat) _)) = _
  rw [zrow_eq]
theorem own_zeros (w : World) (base : Nat) (hb : base ≤ w.heap.size) (k : Nat) (hk : k ≤ 70368744177664) : OwB (w.alloc (.cells (zrow k) 5)) base (some ⟨w.heap.size, 0, none⟩) k (zeros k) := by
  refine ⟨by simp [bvs], .inr ⟨w.heap.size, k, zrow k, by rw [zeros_length], hb, heap_alloc_new w _, by rw [zeros_length]; exact Nat.le_refl _, by simp only [maxLen]; omega, by rw [zrow_size]; omega, ?_⟩⟩
  rw [zeros_length, Nat.mul_one]
  show (bvs (zeros k)).take k = _
  exact List.take_of_length_le (by simp [bvs, zeros])

/-! ### slices.Clone -/
theorem clone_calls {w : World} {D : Nat → Prop} {A : Option Addr} {l : List UInt8} (c n : Nat) (hr : Rd w D A (bvs l)) (hn : l.length = n) (hl : l.length ≤ 70368744177664) :
    Calls Try.prog 30 #[.slice A n c] w fun e w' => ∃ A' c', e = .returned (.slice A' n c') ∧ OwB w' w.heap.size A' c' l ∧ Ext Non w w' := by
  have he := fun (W : World) => Lib.run_eql_slice_nil (P := Try.prog) W
  cases A with
  | none =>
    have hl0 : l = [] := by
      rcases hr with h | ⟨a, h, _⟩
      · simpa [bvs] using h
      · cases h
    subst hl0
    obtain rfl : 0 = n := hn
    go_enter Try.func30, Try.ntmps30
    go_wp2
    go_ret
    exact ⟨none, 0, rfl, OwB.nil _ _, Ext.refl _ _⟩
  | some a =>
    have ha0 : OwB (w.alloc (.cells #[] 5)) w.heap.size (some ⟨w.heap.size, 0, none⟩) 0 [] := World.ownsRow_made w #[] 0 (Nat.le_refl _) (by simp [maxLen]) rfl
    have hx0 : Ext Non w (w.alloc (.cells #[] 5)) := (Ext.refl _ w).alloc _
    go_enter Try.func30, Try.ntmps30
    go_wp2_with (at_builtin; refine wp_ap8 rfl (.tmp 5) (.tmp 6) rfl 0 rfl ha0 rfl n c rfl (hr.extN hx0) hn (by simpa using hl) (by simp) ?_; intro A' c' w' hown hx hob)
    go_ret
    refine ⟨A', c', by simp, hown, hx0.trans hx ?_⟩
    intro i hi hk
    simp [ob] at hk
    omega

/-! ### Reader -/
/-- A reader at block p: what is left of it lies at A (blocks of D). -/
structure Rdr (w : World) (p : Nat) (D : Nat → Prop) (l : List UInt8) : Prop where
  ex : ∃ A c, Blk w p 81 #[.slice A l.length c] ∧ Rd w D A (bvs l) ∧ l.length ≤ c ∧ l.length ≤ 70368744177664

section
variable {S D D' : Nat → Prop} {w w' : World} {p : Nat} {l : List UInt8}
theorem Rdr.lt (h : Rdr w p D l) : p < w.heap.size := let ⟨_, _, hb, _⟩ := h.ex; hb.lt
theorem Rdr.ext (h : Rdr w p D l) (hx : Ext S w w') (hp : ¬ S p) (hS : ∀ k, D k → ¬ S k) : Rdr w' p D l :=
  let ⟨A, c, hb, hr, hc⟩ := h.ex
  ⟨A, c, hb.ext hx hp, hr.ext hx hS, hc⟩
theorem Rdr.extN (h : Rdr w p D l) (hx : Ext Non w w') : Rdr w' p D l := h.ext hx (fun h => h) (fun _ _ h => h)
theorem Rdr.imp (h : Rdr w p D l) (hD : ∀ k, k < w.heap.size → D k → D' k) : Rdr w p D' l :=
  let ⟨A, c, hb, hr, hc⟩ := h.ex
  ⟨A, c, hb, hr.imp hD, hc⟩
end

theorem read_calls {w : World} {D : Nat → Prop} {A : Option Addr} {l : List UInt8} (c n : Nat) (hr : Rd w D A (bvs l)) (hn : l.length = n) (hl : l.length ≤ 70368744177664) :
    Calls Try.prog 17 #[.slice A n c] w fun e w' => ∃ p, e = .returned (.pointer (some ⟨p, 0, none⟩)) ∧ Rdr w' p (fun k => w.heap.size ≤ k ∧ k < p) l ∧ w.heap.size ≤ p ∧ Ext Non w w' := by
  go_enter Try.func17, Try.ntmps17
  go_wp2_with (go_at_call 30; refine (clone_calls c n hr hn hl).mono ?_; rintro e w1 ⟨A', c', rfl, hown, hx⟩)
  go_ret
  refine ⟨w1.heap.size, by simp, ⟨A', c', by rw [hn]; exact Blk.new _ _ _, ?_, hown.len.1, hl⟩, hx.size, hx.alloc _⟩
  refine (hown.rd.extN ((Ext.refl Non w1).alloc _)).imp ?_
  intro k _ hk
  exact hown.lt hk

theorem left_calls {w : World} {D : Nat → Prop} {p : Nat} {l : List UInt8} (hr : Rdr w p D l) :
    Calls Try.prog 22 #[.pointer (some ⟨p, 0, none⟩)] w fun e w' => e = .returned (.int .i64 l.length) ∧ w = w' := by
  obtain ⟨A, c, hb, _, _⟩ := hr.ex
  have hc := hb.cell 0
  go_enter Try.func22, Try.ntmps22
  go_wp2
  go_ret
  exact ⟨rfl, rfl⟩

theorem rdone_calls {w : World} {D : Nat → Prop} {p : Nat} {l : List UInt8} (hr : Rdr w p D l) :
    Calls Try.prog 25 #[.pointer (some ⟨p, 0, none⟩)] w fun e w' => e = .returned (.int .i64 (if l = [] then 0 else 3)) ∧ w = w' := by
  obtain ⟨A, c, hb, _, _⟩ := hr.ex
  have hc := hb.cell 0
  by_cases h0 : l = []
  · subst h0
    go_enter Try.func25, Try.ntmps25
    go_wp2
    go_ret
    exact ⟨rfl, rfl⟩
  · have hpos : 0 < l.length := by cases l <;> simp_all
    have hif : (if l = [] then (0 : Int) else 3) = 3 := if_neg h0
    rw [hif]
    clear hif h0
    go_enter Try.func25, Try.ntmps25
    go_wp2
    go_ret
    exact ⟨rfl, rfl⟩

/-- Bytes: n below 0; more than there are; else. -/
theorem bytes_arg {w : World} (p : Nat) (n : Int) (hn : n < 0) :
    Calls Try.prog 23 #[.pointer (some ⟨p, 0, none⟩), .int .i64 n] w fun e w' => e = .returned (.tuple #[.slice none 0 0, .int .i64 1]) ∧ w = w' := by
  go_enter Try.func23, Try.ntmps23
  go_wp2
  go_ret2
  exact ⟨rfl, rfl⟩

theorem bytes_short {w : World} {D : Nat → Prop} {p : Nat} {l : List UInt8} (hr : Rdr w p D l) (n : Int) (hn : (l.length : Int) < n) :
    Calls Try.prog 23 #[.pointer (some ⟨p, 0, none⟩), .int .i64 n] w fun e w' => e = .returned (.tuple #[.slice none 0 0, .int .i64 2]) ∧ w = w' := by
  obtain ⟨A, c, hb, _, _⟩ := hr.ex
  have hc := hb.cell 0
  have h0 : ¬ n < 0 := by omega
  go_enter Try.func23, Try.ntmps23
  go_wp2
  go_ret2
  exact ⟨rfl, rfl⟩

theorem bytes_ok {w : World} {D : Nat → Prop} {p : Nat} {l : List UInt8} (hr : Rdr w p D l) (hp : ¬ D p) (n : Int) (k : Nat) (hk : n = k) (hn : k ≤ l.length) :
    Calls Try.prog 23 #[.pointer (some ⟨p, 0, none⟩), .int .i64 n] w fun e w' =>
      ∃ A' c', e = .returned (.tuple #[.slice A' k c', .int .i64 0]) ∧ OwB w' w.heap.size A' c' (l.take k) ∧ Rdr w' p D (l.drop k) ∧ Ext (One p) w w' := by
  subst hk
  obtain ⟨A, c, hb, hrd, hlc, hl⟩ := hr.ex
  have hc := hb.cell 0
  have h0 : ¬ (k : Int) < 0 := by omega
  have h1 : ¬ (l.length : Int) < (k : Int) := by omega
  go_enter Try.func23, Try.ntmps23
  go_wp2_with (go_at_call 30; refine (clone_calls (l := l.take k) c k (by rw [show bvs (l.take k) = (bvs l).take k from by simp [bvs]]; exact hrd.take k) (by simp; omega) (by simp; omega)).mono ?_; rintro e w1 ⟨A', c', rfl, hown, hx⟩; have hb1 := hb.extN_ hx; have hc1 := hb1.cell 0; have hf1 := hb1.frozen 0)
  go_wp2
  go_ret2
  have hlen : l.length - k = (l.drop k).length := by simp
  refine ⟨A', c', rfl, ?_, ⟨cut A k c, c - k, ?_, ?_, by simp; omega, by simp; omega⟩, ?_⟩
  · refine hown.ext ((Ext.refl Non w1).setN 0 _) ?_
    rintro k' hk rfl
    exact absurd (hown.lt hk).1 (by have := hb.lt; omega)
  · rw [← hlen]; exact hb1.set_ 0 _
  · refine Rd.ext ?_ ((Ext.refl Non w1).setN 0 _) (D := D) ?_
    · rw [show bvs (l.drop k) = (bvs l).drop k from by simp [bvs]]; exact (hrd.extN hx).cut (by rw [bvs_length]; exact hlc)
    · rintro k' hk rfl; exact hp hk
  · exact hx.setN 0 _

/-- Rest. -/
theorem rest_calls {w : World} {D : Nat → Prop} {p : Nat} {l : List UInt8} (hr : Rdr w p D l) (hp : ¬ D p) (n : Nat) (hn : l.length = n) :
    Calls Try.prog 24 #[.pointer (some ⟨p, 0, none⟩)] w fun e w' =>
      ∃ A' c', e = .returned (.slice A' n c') ∧ OwB w' w.heap.size A' c' l ∧ Rdr w' p D [] ∧ Ext (One p) w w' := by
  subst hn
  obtain ⟨A, c, hb, hrd, hlc, hl⟩ := hr.ex
  have hc := hb.cell 0
  go_enter Try.func24, Try.ntmps24
  go_wp2_with (go_at_call 23; refine (bytes_ok hr hp _ l.length rfl (Nat.le_refl _)).mono ?_; rintro e w1 ⟨A', c', rfl, hown, hr1, hx⟩)
  go_ret
  exact ⟨A', c', rfl, by simpa using hown, by simpa using hr1, hx⟩

/-! ### numbers -/
/-- The number of bytes, the highest first. -/
def num (l : List UInt8) : Nat := l.foldl (fun n c => n * 256 + c.toNat) 0
theorem num_snoc (l : List UInt8) (c : UInt8) : num (l ++ [c]) = num l * 256 + c.toNat := by simp [num]
theorem num_lt : ∀ (k : Nat) (l : List UInt8), l.length = k → num l < 256 ^ k
  | 0, l, h => by
    have : l = [] := List.eq_nil_of_length_eq_zero h
    subst this
    simp [num]
  | k + 1, l, h => by
    have hne : l ≠ [] := by intro e; subst e; simp at h
    have e := List.dropLast_concat_getLast hne
    rw [← e, num_snoc, Nat.pow_succ]
    have := num_lt k l.dropLast (by simp [h])
    have := (l.getLast hne).toNat_lt
    omega

theorem num_take (l : List UInt8) (j : Nat) (h : j < l.length) : num (l.take (j + 1)) = num (l.take j) * 256 + l[j].toNat := by
  rw [List.take_succ_eq_append_getElem h, num_snoc]

set_option maxRecDepth 10000 in
theorem take64_calls {w : World} {D : Nat → Prop} {p : Nat} {l : List UInt8} (hr : Rdr w p D l) (hp : ¬ D p) (hk : 8 ≤ l.length) :
    Calls Try.prog 39 #[.pointer (some ⟨p, 0, none⟩), .int .i64 8] w fun e w' =>
      e = .returned (.tuple #[.int .u64 (num (l.take 8)), .int .i64 0]) ∧ Rdr w' p D (l.drop 8) ∧ Ext (One p) w w' := by
  have hlt8 := num_lt 8 (l.take 8) (by simp; omega)
  have hend : num (l.take 8) < 18446744073709551616 := Nat.lt_of_lt_of_le hlt8 (by decide)
  clear hlt8
  go_enter Try.func39, Try.ntmps39
  go_wp2_with (go_at_call 23; refine (bytes_ok hr hp _ 8 rfl hk).mono ?_; rintro e w1 ⟨A', c', rfl, hown, hr1, hx⟩)
  go_loop [7, 18] (fun a i => ∃ j : Nat, j ≤ 8 ∧ i = .int .i64 j ∧ a = .int .u64 (num (l.take j))) (fun _ i => 8 - (intOf i).toNat)
  case atStart => exact ⟨0, Nat.zero_le _, rfl, rfl⟩
  case round =>
    obtain ⟨j, hj, rfl, rfl⟩ := hrel
    by_cases hlt : j < 8
    · obtain ⟨hA, hc⟩ := hown.rd.ix (bvs_get (l.take 8) j (by simp; omega))
      rw [List.getElem_take] at hc
      have hn := num_lt j (l.take j) (by simp; omega)
      have hp8 : 256 ^ j ≤ 256 ^ 7 := Nat.pow_le_pow_right (by omega) (by omega)
      have hc8 := l[j].toNat_lt
      have hst := u64_step (num (l.take j)) l[j].toNat (by omega) (by omega)
      have hnt := num_take l j (by omega)
      clear hp8
      go_wp2
      exact ⟨⟨j + 1, by omega, by go_num, by rw [hnt]; go_num⟩, by simp [intOf]; omega⟩
    · obtain rfl : j = 8 := by omega
      go_wp2
      go_ret2
      exact ⟨rfl, by simpa using hr1, hx⟩
theorem take64_short {w : World} {D : Nat → Prop} {p : Nat} {l : List UInt8} (hr : Rdr w p D l) (hk : l.length < 8) :
    Calls Try.prog 39 #[.pointer (some ⟨p, 0, none⟩), .int .i64 8] w fun e w' =>
      e = .returned (.tuple #[.int .u64 0, .int .i64 2]) ∧ w = w' := by
  go_enter Try.func39, Try.ntmps39
  go_wp2_with (go_at_call 23; refine (bytes_short hr _ (by omega)).mono ?_; rintro e w1 ⟨rfl, rfl⟩)
  go_loop [7, 18] (fun a i => i = .int .i64 0 ∧ a = .int .u64 0) (fun _ i => 0)
  case atStart => exact ⟨rfl, rfl⟩
  case round =>
    obtain ⟨rfl, rfl⟩ := hrel
    go_wp2
    go_ret2
    exact ⟨rfl, rfl⟩
theorem u64_calls {w : World} {D : Nat → Prop} {p : Nat} {l : List UInt8} (hr : Rdr w p D l) (hp : ¬ D p) (hk : 8 ≤ l.length) :
    Calls Try.prog 26 #[.pointer (some ⟨p, 0, none⟩)] w fun e w' =>
      e = .returned (.tuple #[.int .u64 (num (l.take 8)), .int .i64 0]) ∧ Rdr w' p D (l.drop 8) ∧ Ext (One p) w w' := by
  go_enter Try.func26, Try.ntmps26
  go_wp2_with (go_at_call 39; refine (take64_calls hr hp hk).mono ?_; rintro e w1 ⟨rfl, hr1, hx⟩)
  go_ret2
  exact ⟨rfl, by simpa using hr1, hx⟩
theorem u64_short {w : World} {D : Nat → Prop} {p : Nat} {l : List UInt8} (hr : Rdr w p D l) (hk : l.length < 8) :
    Calls Try.prog 26 #[.pointer (some ⟨p, 0, none⟩)] w fun e w' =>
      e = .returned (.tuple #[.int .u64 0, .int .i64 2]) ∧ w = w' := by
  go_enter Try.func26, Try.ntmps26
  go_wp2_with (go_at_call 39; refine (take64_short hr hk).mono ?_; rintro e w1 ⟨rfl, rfl⟩)
  go_ret2
  exact ⟨rfl, rfl⟩
set_option maxRecDepth 10000 in
theorem take32_calls {w : World} {D : Nat → Prop} {p : Nat} {l : List UInt8} (hr : Rdr w p D l) (hp : ¬ D p) (hk : 4 ≤ l.length) :
    Calls Try.prog 35 #[.pointer (some ⟨p, 0, none⟩), .int .i64 4] w fun e w' =>
      e = .returned (.tuple #[.int .u32 (num (l.take 4)), .int .i64 0]) ∧ Rdr w' p D (l.drop 4) ∧ Ext (One p) w w' := by
  have hlt8 := num_lt 4 (l.take 4) (by simp; omega)
  have hend : num (l.take 4) < 4294967296 := Nat.lt_of_lt_of_le hlt8 (by decide)
  clear hlt8
  go_enter Try.func35, Try.ntmps35
  go_wp2_with (go_at_call 23; refine (bytes_ok hr hp _ 4 rfl hk).mono ?_; rintro e w1 ⟨A', c', rfl, hown, hr1, hx⟩)
  go_loop [7, 18] (fun a i => ∃ j : Nat, j ≤ 4 ∧ i = .int .i64 j ∧ a = .int .u64 (num (l.take j))) (fun _ i => 4 - (intOf i).toNat)
  case atStart => exact ⟨0, Nat.zero_le _, rfl, rfl⟩
  case round =>
    obtain ⟨j, hj, rfl, rfl⟩ := hrel
    by_cases hlt : j < 4
    · obtain ⟨hA, hc⟩ := hown.rd.ix (bvs_get (l.take 4) j (by simp; omega))
      rw [List.getElem_take] at hc
      have hn := num_lt j (l.take j) (by simp; omega)
      have hp8 : 256 ^ j ≤ 256 ^ 7 := Nat.pow_le_pow_right (by omega) (by omega)
      have hc8 := l[j].toNat_lt
      have hst := u64_step (num (l.take j)) l[j].toNat (by omega) (by omega)
      have hnt := num_take l j (by omega)
      clear hp8
      go_wp2
      exact ⟨⟨j + 1, by omega, by go_num, by rw [hnt]; go_num⟩, by simp [intOf]; omega⟩
    · obtain rfl : j = 4 := by omega
      go_wp2
      go_ret2
      exact ⟨rfl, by simpa using hr1, hx⟩
theorem take32_short {w : World} {D : Nat → Prop} {p : Nat} {l : List UInt8} (hr : Rdr w p D l) (hk : l.length < 4) :
    Calls Try.prog 35 #[.pointer (some ⟨p, 0, none⟩), .int .i64 4] w fun e w' =>
      e = .returned (.tuple #[.int .u32 0, .int .i64 2]) ∧ w = w' := by
  go_enter Try.func35, Try.ntmps35
  go_wp2_with (go_at_call 23; refine (bytes_short hr _ (by omega)).mono ?_; rintro e w1 ⟨rfl, rfl⟩)
  go_loop [7, 18] (fun a i => i = .int .i64 0 ∧ a = .int .u64 0) (fun _ i => 0)
  case atStart => exact ⟨rfl, rfl⟩
  case round =>
    obtain ⟨rfl, rfl⟩ := hrel
    go_wp2
    go_ret2
    exact ⟨rfl, rfl⟩
theorem u32_calls {w : World} {D : Nat → Prop} {p : Nat} {l : List UInt8} (hr : Rdr w p D l) (hp : ¬ D p) (hk : 4 ≤ l.length) :
    Calls Try.prog 18 #[.pointer (some ⟨p, 0, none⟩)] w fun e w' =>
      e = .returned (.tuple #[.int .u32 (num (l.take 4)), .int .i64 0]) ∧ Rdr w' p D (l.drop 4) ∧ Ext (One p) w w' := by
  go_enter Try.func18, Try.ntmps18
  go_wp2_with (go_at_call 35; refine (take32_calls hr hp hk).mono ?_; rintro e w1 ⟨rfl, hr1, hx⟩)
  go_ret2
  exact ⟨rfl, by simpa using hr1, hx⟩
theorem u32_short {w : World} {D : Nat → Prop} {p : Nat} {l : List UInt8} (hr : Rdr w p D l) (hk : l.length < 4) :
    Calls Try.prog 18 #[.pointer (some ⟨p, 0, none⟩)] w fun e w' =>
      e = .returned (.tuple #[.int .u32 0, .int .i64 2]) ∧ w = w' := by
  go_enter Try.func18, Try.ntmps18
  go_wp2_with (go_at_call 35; refine (take32_short hr hk).mono ?_; rintro e w1 ⟨rfl, rfl⟩)
  go_ret2
  exact ⟨rfl, rfl⟩
set_option maxRecDepth 10000 in
theorem take16_calls {w : World} {D : Nat → Prop} {p : Nat} {l : List UInt8} (hr : Rdr w p D l) (hp : ¬ D p) (hk : 2 ≤ l.length) :
    Calls Try.prog 37 #[.pointer (some ⟨p, 0, none⟩), .int .i64 2] w fun e w' =>
      e = .returned (.tuple #[.int .u16 (num (l.take 2)), .int .i64 0]) ∧ Rdr w' p D (l.drop 2) ∧ Ext (One p) w w' := by
  have hlt8 := num_lt 2 (l.take 2) (by simp; omega)
  have hend : num (l.take 2) < 65536 := Nat.lt_of_lt_of_le hlt8 (by decide)
  clear hlt8
  go_enter Try.func37, Try.ntmps37
  go_wp2_with (go_at_call 23; refine (bytes_ok hr hp _ 2 rfl hk).mono ?_; rintro e w1 ⟨A', c', rfl, hown, hr1, hx⟩)
  go_loop [7, 18] (fun a i => ∃ j : Nat, j ≤ 2 ∧ i = .int .i64 j ∧ a = .int .u64 (num (l.take j))) (fun _ i => 2 - (intOf i).toNat)
  case atStart => exact ⟨0, Nat.zero_le _, rfl, rfl⟩
  case round =>
    obtain ⟨j, hj, rfl, rfl⟩ := hrel
    by_cases hlt : j < 2
    · obtain ⟨hA, hc⟩ := hown.rd.ix (bvs_get (l.take 2) j (by simp; omega))
      rw [List.getElem_take] at hc
      have hn := num_lt j (l.take j) (by simp; omega)
      have hp8 : 256 ^ j ≤ 256 ^ 7 := Nat.pow_le_pow_right (by omega) (by omega)
      have hc8 := l[j].toNat_lt
      have hst := u64_step (num (l.take j)) l[j].toNat (by omega) (by omega)
      have hnt := num_take l j (by omega)
      clear hp8
      go_wp2
      exact ⟨⟨j + 1, by omega, by go_num, by rw [hnt]; go_num⟩, by simp [intOf]; omega⟩
    · obtain rfl : j = 2 := by omega
      go_wp2
      go_ret2
      exact ⟨rfl, by simpa using hr1, hx⟩
theorem take16_short {w : World} {D : Nat → Prop} {p : Nat} {l : List UInt8} (hr : Rdr w p D l) (hk : l.length < 2) :
    Calls Try.prog 37 #[.pointer (some ⟨p, 0, none⟩), .int .i64 2] w fun e w' =>
      e = .returned (.tuple #[.int .u16 0, .int .i64 2]) ∧ w = w' := by
  go_enter Try.func37, Try.ntmps37
  go_wp2_with (go_at_call 23; refine (bytes_short hr _ (by omega)).mono ?_; rintro e w1 ⟨rfl, rfl⟩)
  go_loop [7, 18] (fun a i => i = .int .i64 0 ∧ a = .int .u64 0) (fun _ i => 0)
  case atStart => exact ⟨rfl, rfl⟩
  case round =>
    obtain ⟨rfl, rfl⟩ := hrel
    go_wp2
    go_ret2
    exact ⟨rfl, rfl⟩
theorem u16_calls {w : World} {D : Nat → Prop} {p : Nat} {l : List UInt8} (hr : Rdr w p D l) (hp : ¬ D p) (hk : 2 ≤ l.length) :
    Calls Try.prog 20 #[.pointer (some ⟨p, 0, none⟩)] w fun e w' =>
      e = .returned (.tuple #[.int .u16 (num (l.take 2)), .int .i64 0]) ∧ Rdr w' p D (l.drop 2) ∧ Ext (One p) w w' := by
  go_enter Try.func20, Try.ntmps20
  go_wp2_with (go_at_call 37; refine (take16_calls hr hp hk).mono ?_; rintro e w1 ⟨rfl, hr1, hx⟩)
  go_ret2
  exact ⟨rfl, by simpa using hr1, hx⟩
theorem u16_short {w : World} {D : Nat → Prop} {p : Nat} {l : List UInt8} (hr : Rdr w p D l) (hk : l.length < 2) :
    Calls Try.prog 20 #[.pointer (some ⟨p, 0, none⟩)] w fun e w' =>
      e = .returned (.tuple #[.int .u16 0, .int .i64 2]) ∧ w = w' := by
  go_enter Try.func20, Try.ntmps20
  go_wp2_with (go_at_call 37; refine (take16_short hr hk).mono ?_; rintro e w1 ⟨rfl, rfl⟩)
  go_ret2
  exact ⟨rfl, rfl⟩
set_option maxRecDepth 10000 in
theorem take8_calls {w : World} {D : Nat → Prop} {p : Nat} {l : List UInt8} (hr : Rdr w p D l) (hp : ¬ D p) (hk : 1 ≤ l.length) :
    Calls Try.prog 38 #[.pointer (some ⟨p, 0, none⟩), .int .i64 1] w fun e w' =>
      e = .returned (.tuple #[.int .u8 (num (l.take 1)), .int .i64 0]) ∧ Rdr w' p D (l.drop 1) ∧ Ext (One p) w w' := by
  have hlt8 := num_lt 1 (l.take 1) (by simp; omega)
  have hend : num (l.take 1) < 256 := Nat.lt_of_lt_of_le hlt8 (by decide)
  clear hlt8
  go_enter Try.func38, Try.ntmps38
  go_wp2_with (go_at_call 23; refine (bytes_ok hr hp _ 1 rfl hk).mono ?_; rintro e w1 ⟨A', c', rfl, hown, hr1, hx⟩)
  go_loop [7, 18] (fun a i => ∃ j : Nat, j ≤ 1 ∧ i = .int .i64 j ∧ a = .int .u64 (num (l.take j))) (fun _ i => 1 - (intOf i).toNat)
  case atStart => exact ⟨0, Nat.zero_le _, rfl, rfl⟩
  case round =>
    obtain ⟨j, hj, rfl, rfl⟩ := hrel
    by_cases hlt : j < 1
    · obtain ⟨hA, hc⟩ := hown.rd.ix (bvs_get (l.take 1) j (by simp; omega))
      rw [List.getElem_take] at hc
      have hn := num_lt j (l.take j) (by simp; omega)
      have hp8 : 256 ^ j ≤ 256 ^ 7 := Nat.pow_le_pow_right (by omega) (by omega)
      have hc8 := l[j].toNat_lt
      have hst := u64_step (num (l.take j)) l[j].toNat (by omega) (by omega)
      have hnt := num_take l j (by omega)
      clear hp8
      go_wp2
      exact ⟨⟨j + 1, by omega, by go_num, by rw [hnt]; go_num⟩, by simp [intOf]; omega⟩
    · obtain rfl : j = 1 := by omega
      go_wp2
      go_ret2
      exact ⟨rfl, by simpa using hr1, hx⟩
theorem take8_short {w : World} {D : Nat → Prop} {p : Nat} {l : List UInt8} (hr : Rdr w p D l) (hk : l.length < 1) :
    Calls Try.prog 38 #[.pointer (some ⟨p, 0, none⟩), .int .i64 1] w fun e w' =>
      e = .returned (.tuple #[.int .u8 0, .int .i64 2]) ∧ w = w' := by
  go_enter Try.func38, Try.ntmps38
  go_wp2_with (go_at_call 23; refine (bytes_short hr _ (by omega)).mono ?_; rintro e w1 ⟨rfl, rfl⟩)
  go_loop [7, 18] (fun a i => i = .int .i64 0 ∧ a = .int .u64 0) (fun _ i => 0)
  case atStart => exact ⟨rfl, rfl⟩
  case round =>
    obtain ⟨rfl, rfl⟩ := hrel
    go_wp2
    go_ret2
    exact ⟨rfl, rfl⟩
theorem u8_calls {w : World} {D : Nat → Prop} {p : Nat} {l : List UInt8} (hr : Rdr w p D l) (hp : ¬ D p) (hk : 1 ≤ l.length) :
    Calls Try.prog 21 #[.pointer (some ⟨p, 0, none⟩)] w fun e w' =>
      e = .returned (.tuple #[.int .u8 (num (l.take 1)), .int .i64 0]) ∧ Rdr w' p D (l.drop 1) ∧ Ext (One p) w w' := by
  go_enter Try.func21, Try.ntmps21
  go_wp2_with (go_at_call 38; refine (take8_calls hr hp hk).mono ?_; rintro e w1 ⟨rfl, hr1, hx⟩)
  go_ret2
  exact ⟨rfl, by simpa using hr1, hx⟩
theorem u8_short {w : World} {D : Nat → Prop} {p : Nat} {l : List UInt8} (hr : Rdr w p D l) (hk : l.length < 1) :
    Calls Try.prog 21 #[.pointer (some ⟨p, 0, none⟩)] w fun e w' =>
      e = .returned (.tuple #[.int .u8 0, .int .i64 2]) ∧ w = w' := by
  go_enter Try.func21, Try.ntmps21
  go_wp2_with (go_at_call 38; refine (take8_short hr hk).mono ?_; rintro e w1 ⟨rfl, rfl⟩)
  go_ret2
  exact ⟨rfl, rfl⟩

/-! ### Writer -/
/-- A writer at block p: it has put l, into a row of its own (block g, if there is one). -/
structure Wr (w : World) (base p : Nat) (g : Option Nat) (l : List UInt8) : Prop where
  ex : ∃ A c, Blk w p 26 #[.slice A l.length c] ∧ OwB w base A c l ∧ ob A = g

/-- Who writes to a writer turns its block and its row. -/
def WrS (p : Nat) (g : Option Nat) : Nat → Prop := fun k => k = p ∨ g = some k

/-- A writer has been written to: it has put l; nobody else is touched. -/
structure WStep (w : World) (base p : Nat) (g : Option Nat) (w' : World) (g' : Option Nat) (l : List UInt8) : Prop where
  wr : Wr w' base p g' l
  ext : Ext (WrS p g) w w'
  row : g' = g ∨ ∃ k, g' = some k ∧ w.heap.size ≤ k

section
variable {S : Nat → Prop} {w w' w'' : World} {base p : Nat} {g g' g'' : Option Nat} {l m : List UInt8}
theorem Wr.lt (h : Wr w base p g l) : p < w.heap.size := let ⟨_, _, hb, _⟩ := h.ex; hb.lt
theorem Wr.ext (h : Wr w base p g l) (hx : Ext S w w') (hp : ¬ S p) (hS : ∀ k, g = some k → ¬ S k) : Wr w' base p g l := by
  obtain ⟨A, c, hb, ho, hg⟩ := h.ex
  exact ⟨A, c, hb.ext hx hp, ho.ext hx (by rw [hg]; exact hS), hg⟩
theorem Wr.extN (h : Wr w base p g l) (hx : Ext Non w w') : Wr w' base p g l := h.ext hx (fun h => h) (fun _ _ h => h)
theorem Wr.row (h : Wr w base p g l) {k : Nat} (hk : g = some k) : base ≤ k ∧ k < w.heap.size := by
  obtain ⟨A, c, hb, ho, hg⟩ := h.ex
  exact ho.lt (by rw [hg]; exact hk)
theorem Wr.ne (h : Wr w base p g l) : g ≠ some p := by
  intro hk
  obtain ⟨A, c, hb, ho, hg⟩ := h.ex
  obtain ⟨cs, hc, _⟩ := ho.blk (k := p) (by rw [hg]; exact hk)
  exact Blk.ne_ hb hc (by decide) rfl
theorem Wr.len (h : Wr w base p g l) : l.length ≤ maxLen := by
  obtain ⟨A, c, hb, ho, hg⟩ := h.ex
  exact Nat.le_trans ho.len.1 ho.len.2
theorem WStep.refl (h : Wr w base p g l) : WStep w base p g w g l := ⟨h, Ext.refl _ _, .inl rfl⟩
theorem WStep.trans {l' : List UInt8} (h : WStep w base p g w' g' l) (k : WStep w' base p g' w'' g'' l') : WStep w base p g w'' g'' l' := by
  refine ⟨k.wr, h.ext.trans k.ext ?_, ?_⟩
  · rintro i hi (rfl | ht)
    · exact .inl rfl
    · rcases h.row with e | ⟨k', e, hk'⟩
      · exact .inr (by rw [← e]; exact ht)
      · rw [e] at ht
        injection ht with ht
        omega
  · rcases k.row with e | ⟨k', e, hk'⟩
    · rcases h.row with e' | ⟨k', e', hk'⟩
      · exact .inl (e.trans e')
      · exact .inr ⟨k', e.trans e', hk'⟩
    · exact .inr ⟨k', e, Nat.le_trans h.ext.size hk'⟩
end

/-- One append, and the store of the new slice. -/
theorem WStep.put {w W0 w1 : World} {base p : Nat} {A A' : Option Addr} {c' : Nat} {l m : List UInt8} {cs : Array Value} (hlt : p < w.heap.size) (hne : ob A ≠ some p) (h0 : Ext Non w W0) (hx1 : Ext (fun k => ob A = some k) W0 w1)
    (ho1 : OwB w1 base A' c' (l ++ m)) (hob : ob A' = ob A ∨ ob A' = some W0.heap.size) (hb1 : Blk w1 p 26 cs) (hcs : cs.size = 1) (n : Nat) (hn : l.length + m.length = n) :
    WStep w base p (ob A) (w1.setCell ⟨p, 0, none⟩ (.slice A' n c')) (ob A') (l ++ m) := by
  have hx2 : Ext (One p) w1 (w1.setCell ⟨p, 0, none⟩ (.slice A' n c')) := (Ext.refl Non w1).setN 0 _
  have hrow : ∀ k, ob A' = some k → ¬ One p k := by
    rintro k hk rfl
    rcases hob with e | e
    · rw [e] at hk; exact hne hk
    · rw [e] at hk; injection hk with hk; have := h0.size; omega
  refine ⟨⟨A', c', ?_, ho1.ext hx2 hrow, rfl⟩, ?_, ?_⟩
  · rw [List.length_append, hn]
    have := hb1.set_ 0 (.slice A' n c')
    have e : cs.setIfInBounds 0 (.slice A' n c') = #[.slice A' n c'] := by
      obtain ⟨l, rfl⟩ : ∃ l, cs = List.toArray l := ⟨cs.toList, by simp⟩
      match l, hcs with
      | [x], _ => rfl
    rwa [e] at this
  · refine ((h0.imp (T := WrS p (ob A)) (fun _ _ h => h.elim)).trans hx1 (fun i _ hi => .inr hi)).trans hx2 (fun i _ hi => .inl hi)
  · rcases hob with e | e
    · exact .inl e
    · exact .inr ⟨_, e, h0.size⟩

theorem wbytes_calls {w : World} {base p : Nat} {g : Option Nat} {l : List UInt8} (hW : Wr w base p g l) (hbase : base ≤ w.heap.size) {D : Nat → Prop} {B : Option Addr} {m : List UInt8} (d n : Nat)
    (hr : Rd w D B (bvs m)) (hn : m.length = n) (hlen : l.length + m.length ≤ 70368744177664) :
    Calls Try.prog 11 #[.pointer (some ⟨p, 0, none⟩), .slice B n d] w fun e w' => e = .returned (.pointer (some ⟨p, 0, none⟩)) ∧ ∃ g', WStep w base p g w' g' (l ++ m) := by
  have hne := hW.ne
  obtain ⟨A, c, hb, ho, hg⟩ := hW.ex
  have hc := hb.cell 0
  go_enter Try.func11, Try.ntmps11
  go_wp2_with (at_builtin; refine wp_ap8 rfl (.tmp 9) (.tmp 10) rfl l.length rfl ho rfl n d rfl hr hn hlen hbase ?_; intro A' c' w1 ho1 hx1 hob; have hb1 := hb.ext hx1 (by rw [hg]; exact hne); have hc1 := hb1.cell 0; have hf1 := hb1.frozen 0)
  go_ret
  subst hn hg
  exact ⟨rfl, ob A', WStep.put hb.lt hne (Ext.refl _ _) hx1 ho1 hob hb1 rfl _ rfl⟩

theorem wdone_calls {w : World} {base p : Nat} {g : Option Nat} {l : List UInt8} (hW : Wr w base p g l) (n : Nat) (hn : l.length = n) (hlen : l.length ≤ 70368744177664) :
    Calls Try.prog 13 #[.pointer (some ⟨p, 0, none⟩)] w fun e w' => ∃ A' c', e = .returned (.slice A' n c') ∧ OwB w' w.heap.size A' c' l ∧ Ext Non w w' := by
  subst hn
  obtain ⟨A, c, hb, ho, hg⟩ := hW.ex
  have hc := hb.cell 0
  go_enter Try.func13, Try.ntmps13
  go_wp2_with (go_at_call 30; refine (clone_calls c l.length ho.rd rfl hlen).mono ?_; rintro e w1 ⟨A', c', rfl, hown, hx⟩)
  go_ret
  exact ⟨A', c', rfl, hown, hx⟩

theorem wzeros_calls {w : World} {base p : Nat} {g : Option Nat} {l : List UInt8} (hW : Wr w base p g l) (hbase : base ≤ w.heap.size) (n : Int) (hlen : l.length + n.toNat ≤ 70368744177664) :
    Calls Try.prog 12 #[.pointer (some ⟨p, 0, none⟩), .int .i64 n] w fun e w' => e = .returned (.pointer (some ⟨p, 0, none⟩)) ∧ ∃ g', WStep w base p g w' g' (l ++ zeros n.toNat) := by
  by_cases h0 : 0 ≤ n
  · have hx : Ext Non w (w.alloc (.cells (zrow n.toNat) 5)) := (Ext.refl _ _).alloc _
    have hz := (own_zeros w w.heap.size (Nat.le_refl _) n.toNat (by omega)).rd
    have hb : n ≤ 70368744177664 := by omega
    go_enter Try.func12, Try.ntmps12
    go_wp2_with (go_at_call 11; refine (wbytes_calls (hW.extN hx) (by simp; omega) _ _ hz (zeros_length _) (by rw [zeros_length]; exact hlen)).mono ?_; rintro e w1 ⟨rfl, g', hs⟩)
    go_ret
    exact ⟨rfl, g', hs.wr, (hx.imp (fun _ _ h => h.elim)).trans' hs.ext, by rcases hs.row with e | ⟨k, e, hk⟩; exact .inl e; exact .inr ⟨k, e, by simp at hk; omega⟩⟩
  · have hx : Ext Non w (w.alloc (.cells (zrow 0) 5)) := (Ext.refl _ _).alloc _
    have hz := (own_zeros w w.heap.size (Nat.le_refl _) 0 (by omega)).rd
    have e0 : n.toNat = 0 := by omega
    rw [e0] at hlen ⊢
    clear e0
    have h0' : n ≤ 0 := by omega
    go_enter Try.func12, Try.ntmps12
    go_wp2_with (go_at_call 11; refine (wbytes_calls (hW.extN hx) (by simp; omega) _ _ hz (zeros_length _) (by rw [zeros_length]; exact hlen)).mono ?_; rintro e w1 ⟨rfl, g', hs⟩)
    go_ret
    exact ⟨rfl, g', hs.wr, (hx.imp (fun _ _ h => h.elim)).trans' hs.ext, by rcases hs.row with e | ⟨k, e, hk⟩; exact .inl e; exact .inr ⟨k, e, by simp at hk; omega⟩⟩

/-- A number as so many bytes, the highest first. -/
def be : Nat → Nat → List UInt8
  | 0, _ => []
  | k + 1, n => UInt8.ofNat (n / 256 ^ k) :: be k n
theorem be_length : ∀ k n, (be k n).length = k
  | 0, _ => rfl
  | k + 1, n => by simp [be, be_length k n]

theorem rd_new1 (w : World) (t : TypeId) (c : UInt8) : Rd (w.alloc (.cells #[.int .u8 (c.toNat : Int)] t)) (fun _ => True) (some ⟨w.heap.size, 0, none⟩) (bvs [c]) :=
  Rd.of_blk (Blk.new w t _) trivial 0 1
/-- What 'byte(n >> (8 * k))' comes to, as a rule that the walk takes. -/
theorem be_byte (x k : Nat) : ∃ b : UInt8, IntKind.u8.wrap ((x : Int) / 2 ^ (8 * (k : Int)).toNat) = (b.toNat : Int) ∧ Hid (UInt8.ofNat (x / 256 ^ k) = b) := by
  refine ⟨UInt8.ofNat (x / 256 ^ k), ?_, rfl⟩
  have h2 : (2 : Int) ^ (8 * k) = ((256 ^ k : Nat) : Int) := by
    rw [Int.pow_mul]
    simp
  have e : (8 * (k : Int)).toNat = 8 * k := by omega
  rw [e, h2, IntKind.wrap_u8, UInt8.toNat_ofNat', ← Int.natCast_ediv]
  omega

theorem put64_calls {w : World} {base p : Nat} {g : Option Nat} {l : List UInt8} (hW : Wr w base p g l) (hbase : base ≤ w.heap.size) (x : Nat) (hx : (x : Int) ≤ 18446744073709551615) (hlen : l.length ≤ 70368744170000) :
    Calls Try.prog 34 #[.pointer (some ⟨p, 0, none⟩), .int .u64 x, .int .i64 8] w fun e w' => e = .returned (.pointer (some ⟨p, 0, none⟩)) ∧ ∃ g', WStep w base p g w' g' (l ++ be 8 x) := by
  go_enter Try.func34, Try.ntmps34
  go_wp2
  go_loopw [7] (fun t wr => ∃ (k : Nat) (g1 : Option Nat) (l1 : List UInt8), k ≤ 8 ∧ t = .int .i64 ((k : Int) - 1) ∧ WStep w base p g wr g1 l1 ∧ l1 ++ be k x = l ++ be 8 x ∧ l1.length ≤ l.length + 8) (fun t _ => (intOf t + 1).toNat)
  case atStart => exact ⟨8, g, l, Nat.le_refl _, rfl, WStep.refl hW, rfl, by omega⟩
  case round =>
    obtain ⟨k, g1, l1, hk, rfl, hs, heq, hl1⟩ := hrel
    have HEQ := Lib.hid heq
    clear heq
    cases k with
    | zero =>
      go_wp2
      go_ret
      have he : l1 = l ++ be 8 x := by have := HEQ.out; rwa [be, List.append_nil] at this
      exact ⟨rfl, g1, he ▸ hs⟩
    | succ k =>
      have e1 : ((k + 1 : Nat) : Int) - 1 = (k : Int) := by omega
      rw [e1]
      obtain ⟨A, c, hb, ho, hg⟩ := hs.wr.ex
      have hne := hs.wr.ne
      have hc := hb.cell 0
      obtain ⟨b8, hby, HB⟩ := be_byte x k
      have hxw : IntKind.u64.wrap (x : Int) = x := IntWalk.u64_in _ (by omega)
      have h8 : IntKind.i64.wrap (8 * (k : Int)) = 8 * k := IntWalk.i64_in _ (by omega)
      have hbw : base ≤ wr.heap.size := Nat.le_trans hbase hs.ext.size
      have hpl := hb.lt
      go_wp2
      go_region_law ((refine step_ap8 (by rfl) _ _ (by rfl) l1.length (by rfl) ((ho.alloc _).drew) rfl 1 1 (by rfl) (D := fun _ => True) (m := [b8]) (rd_new1 wr _ b8) rfl (by simp; omega) (by simp; omega) ?_; intro A' c' w1 ho1 hx1 hob; have hb1 := Blk.ext ((hb.alloc _).drew) hx1 (by rw [hg]; exact hne); have hc1 := hb1.cell 0; have hf1 := hb1.frozen 0))
      all_goals
        subst hg
        have hput := WStep.put hb.lt hne (((Ext.refl Non wr).alloc _).drew) hx1 ho1 hob hb1 rfl (l1.length + 1) rfl
        have HQ := HEQ.out
        have HB' := HB.out
        have HR : Hid (∃ (j : Nat) (g2 : Option Nat) (l2 : List UInt8), j ≤ 8 ∧ Value.int .i64 ((k : Int) - 1) = .int .i64 ((j : Int) - 1) ∧ WStep w base p g (w1.setCell ⟨p, 0, none⟩ (.slice A' (l1.length + 1) c')) g2 l2 ∧ l2 ++ be j x = l ++ be 8 x ∧ l2.length ≤ l.length + 8) := by
          refine ⟨k, ob A', l1 ++ [b8], by omega, rfl, hs.trans hput, ?_, ?_⟩
          · rw [← HQ, ← HB', be, List.append_assoc]; rfl
          · have := congrArg List.length HQ
            simp only [List.length_append, be_length, List.length_singleton] at this ⊢
            omega
        clear HQ HB' hput
        go_wp2
        exact ⟨HR.out, by simp [intOf]⟩
theorem wu64_calls {w : World} {base p : Nat} {g : Option Nat} {l : List UInt8} (hW : Wr w base p g l) (hbase : base ≤ w.heap.size) (x : Nat) (hx : (x : Int) ≤ 18446744073709551615) (hlen : l.length ≤ 70368744170000) :
    Calls Try.prog 16 #[.pointer (some ⟨p, 0, none⟩), .int .u64 x] w fun e w' => e = .returned (.pointer (some ⟨p, 0, none⟩)) ∧ ∃ g', WStep w base p g w' g' (l ++ be 8 x) := by
  go_enter Try.func16, Try.ntmps16
  go_wp2_with (go_at_call 34; refine (put64_calls hW hbase x hx hlen).mono ?_; rintro e w1 ⟨rfl, g', hs⟩)
  go_ret
  exact ⟨rfl, g', hs⟩
theorem put32_calls {w : World} {base p : Nat} {g : Option Nat} {l : List UInt8} (hW : Wr w base p g l) (hbase : base ≤ w.heap.size) (x : Nat) (hx : (x : Int) ≤ 4294967295) (hlen : l.length ≤ 70368744170000) :
    Calls Try.prog 36 #[.pointer (some ⟨p, 0, none⟩), .int .u32 x, .int .i64 4] w fun e w' => e = .returned (.pointer (some ⟨p, 0, none⟩)) ∧ ∃ g', WStep w base p g w' g' (l ++ be 4 x) := by
  go_enter Try.func36, Try.ntmps36
  go_wp2
  go_loopw [7] (fun t wr => ∃ (k : Nat) (g1 : Option Nat) (l1 : List UInt8), k ≤ 4 ∧ t = .int .i64 ((k : Int) - 1) ∧ WStep w base p g wr g1 l1 ∧ l1 ++ be k x = l ++ be 4 x ∧ l1.length ≤ l.length + 4) (fun t _ => (intOf t + 1).toNat)
  case atStart => exact ⟨4, g, l, Nat.le_refl _, rfl, WStep.refl hW, rfl, by omega⟩
  case round =>
    obtain ⟨k, g1, l1, hk, rfl, hs, heq, hl1⟩ := hrel
    have HEQ := Lib.hid heq
    clear heq
    cases k with
    | zero =>
      go_wp2
      go_ret
      have he : l1 = l ++ be 4 x := by have := HEQ.out; rwa [be, List.append_nil] at this
      exact ⟨rfl, g1, he ▸ hs⟩
    | succ k =>
      have e1 : ((k + 1 : Nat) : Int) - 1 = (k : Int) := by omega
      rw [e1]
      obtain ⟨A, c, hb, ho, hg⟩ := hs.wr.ex
      have hne := hs.wr.ne
      have hc := hb.cell 0
      obtain ⟨b8, hby, HB⟩ := be_byte x k
      have hxw : IntKind.u64.wrap (x : Int) = x := IntWalk.u64_in _ (by omega)
      have h8 : IntKind.i64.wrap (8 * (k : Int)) = 8 * k := IntWalk.i64_in _ (by omega)
      have hbw : base ≤ wr.heap.size := Nat.le_trans hbase hs.ext.size
      have hpl := hb.lt
      go_wp2
      go_region_law ((refine step_ap8 (by rfl) _ _ (by rfl) l1.length (by rfl) ((ho.alloc _).drew) rfl 1 1 (by rfl) (D := fun _ => True) (m := [b8]) (rd_new1 wr _ b8) rfl (by simp; omega) (by simp; omega) ?_; intro A' c' w1 ho1 hx1 hob; have hb1 := Blk.ext ((hb.alloc _).drew) hx1 (by rw [hg]; exact hne); have hc1 := hb1.cell 0; have hf1 := hb1.frozen 0))
      all_goals
        subst hg
        have hput := WStep.put hb.lt hne (((Ext.refl Non wr).alloc _).drew) hx1 ho1 hob hb1 rfl (l1.length + 1) rfl
        have HQ := HEQ.out
        have HB' := HB.out
        have HR : Hid (∃ (j : Nat) (g2 : Option Nat) (l2 : List UInt8), j ≤ 4 ∧ Value.int .i64 ((k : Int) - 1) = .int .i64 ((j : Int) - 1) ∧ WStep w base p g (w1.setCell ⟨p, 0, none⟩ (.slice A' (l1.length + 1) c')) g2 l2 ∧ l2 ++ be j x = l ++ be 4 x ∧ l2.length ≤ l.length + 4) := by
          refine ⟨k, ob A', l1 ++ [b8], by omega, rfl, hs.trans hput, ?_, ?_⟩
          · rw [← HQ, ← HB', be, List.append_assoc]; rfl
          · have := congrArg List.length HQ
            simp only [List.length_append, be_length, List.length_singleton] at this ⊢
            omega
        clear HQ HB' hput
        go_wp2
        exact ⟨HR.out, by simp [intOf]⟩
theorem wu32_calls {w : World} {base p : Nat} {g : Option Nat} {l : List UInt8} (hW : Wr w base p g l) (hbase : base ≤ w.heap.size) (x : Nat) (hx : (x : Int) ≤ 4294967295) (hlen : l.length ≤ 70368744170000) :
    Calls Try.prog 19 #[.pointer (some ⟨p, 0, none⟩), .int .u32 x] w fun e w' => e = .returned (.pointer (some ⟨p, 0, none⟩)) ∧ ∃ g', WStep w base p g w' g' (l ++ be 4 x) := by
  go_enter Try.func19, Try.ntmps19
  go_wp2_with (go_at_call 36; refine (put32_calls hW hbase x hx hlen).mono ?_; rintro e w1 ⟨rfl, g', hs⟩)
  go_ret
  exact ⟨rfl, g', hs⟩
theorem put16_calls {w : World} {base p : Nat} {g : Option Nat} {l : List UInt8} (hW : Wr w base p g l) (hbase : base ≤ w.heap.size) (x : Nat) (hx : (x : Int) ≤ 65535) (hlen : l.length ≤ 70368744170000) :
    Calls Try.prog 40 #[.pointer (some ⟨p, 0, none⟩), .int .u16 x, .int .i64 2] w fun e w' => e = .returned (.pointer (some ⟨p, 0, none⟩)) ∧ ∃ g', WStep w base p g w' g' (l ++ be 2 x) := by
  go_enter Try.func40, Try.ntmps40
  go_wp2
  go_loopw [7] (fun t wr => ∃ (k : Nat) (g1 : Option Nat) (l1 : List UInt8), k ≤ 2 ∧ t = .int .i64 ((k : Int) - 1) ∧ WStep w base p g wr g1 l1 ∧ l1 ++ be k x = l ++ be 2 x ∧ l1.length ≤ l.length + 2) (fun t _ => (intOf t + 1).toNat)
  case atStart => exact ⟨2, g, l, Nat.le_refl _, rfl, WStep.refl hW, rfl, by omega⟩
  case round =>
    obtain ⟨k, g1, l1, hk, rfl, hs, heq, hl1⟩ := hrel
    have HEQ := Lib.hid heq
    clear heq
    cases k with
    | zero =>
      go_wp2
      go_ret
      have he : l1 = l ++ be 2 x := by have := HEQ.out; rwa [be, List.append_nil] at this
      exact ⟨rfl, g1, he ▸ hs⟩
    | succ k =>
      have e1 : ((k + 1 : Nat) : Int) - 1 = (k : Int) := by omega
      rw [e1]
      obtain ⟨A, c, hb, ho, hg⟩ := hs.wr.ex
      have hne := hs.wr.ne
      have hc := hb.cell 0
      obtain ⟨b8, hby, HB⟩ := be_byte x k
      have hxw : IntKind.u64.wrap (x : Int) = x := IntWalk.u64_in _ (by omega)
      have h8 : IntKind.i64.wrap (8 * (k : Int)) = 8 * k := IntWalk.i64_in _ (by omega)
      have hbw : base ≤ wr.heap.size := Nat.le_trans hbase hs.ext.size
      have hpl := hb.lt
      go_wp2
      go_region_law ((refine step_ap8 (by rfl) _ _ (by rfl) l1.length (by rfl) ((ho.alloc _).drew) rfl 1 1 (by rfl) (D := fun _ => True) (m := [b8]) (rd_new1 wr _ b8) rfl (by simp; omega) (by simp; omega) ?_; intro A' c' w1 ho1 hx1 hob; have hb1 := Blk.ext ((hb.alloc _).drew) hx1 (by rw [hg]; exact hne); have hc1 := hb1.cell 0; have hf1 := hb1.frozen 0))
      all_goals
        subst hg
        have hput := WStep.put hb.lt hne (((Ext.refl Non wr).alloc _).drew) hx1 ho1 hob hb1 rfl (l1.length + 1) rfl
        have HQ := HEQ.out
        have HB' := HB.out
        have HR : Hid (∃ (j : Nat) (g2 : Option Nat) (l2 : List UInt8), j ≤ 2 ∧ Value.int .i64 ((k : Int) - 1) = .int .i64 ((j : Int) - 1) ∧ WStep w base p g (w1.setCell ⟨p, 0, none⟩ (.slice A' (l1.length + 1) c')) g2 l2 ∧ l2 ++ be j x = l ++ be 2 x ∧ l2.length ≤ l.length + 2) := by
          refine ⟨k, ob A', l1 ++ [b8], by omega, rfl, hs.trans hput, ?_, ?_⟩
          · rw [← HQ, ← HB', be, List.append_assoc]; rfl
          · have := congrArg List.length HQ
            simp only [List.length_append, be_length, List.length_singleton] at this ⊢
            omega
        clear HQ HB' hput
        go_wp2
        exact ⟨HR.out, by simp [intOf]⟩
theorem wu16_calls {w : World} {base p : Nat} {g : Option Nat} {l : List UInt8} (hW : Wr w base p g l) (hbase : base ≤ w.heap.size) (x : Nat) (hx : (x : Int) ≤ 65535) (hlen : l.length ≤ 70368744170000) :
    Calls Try.prog 27 #[.pointer (some ⟨p, 0, none⟩), .int .u16 x] w fun e w' => e = .returned (.pointer (some ⟨p, 0, none⟩)) ∧ ∃ g', WStep w base p g w' g' (l ++ be 2 x) := by
  go_enter Try.func27, Try.ntmps27
  go_wp2_with (go_at_call 40; refine (put16_calls hW hbase x hx hlen).mono ?_; rintro e w1 ⟨rfl, g', hs⟩)
  go_ret
  exact ⟨rfl, g', hs⟩
theorem put8_calls {w : World} {base p : Nat} {g : Option Nat} {l : List UInt8} (hW : Wr w base p g l) (hbase : base ≤ w.heap.size) (x : Nat) (hx : (x : Int) ≤ 255) (hlen : l.length ≤ 70368744170000) :
    Calls Try.prog 33 #[.pointer (some ⟨p, 0, none⟩), .int .u8 x, .int .i64 1] w fun e w' => e = .returned (.pointer (some ⟨p, 0, none⟩)) ∧ ∃ g', WStep w base p g w' g' (l ++ be 1 x) := by
  go_enter Try.func33, Try.ntmps33
  go_wp2
  go_loopw [7] (fun t wr => ∃ (k : Nat) (g1 : Option Nat) (l1 : List UInt8), k ≤ 1 ∧ t = .int .i64 ((k : Int) - 1) ∧ WStep w base p g wr g1 l1 ∧ l1 ++ be k x = l ++ be 1 x ∧ l1.length ≤ l.length + 1) (fun t _ => (intOf t + 1).toNat)
  case atStart => exact ⟨1, g, l, Nat.le_refl _, rfl, WStep.refl hW, rfl, by omega⟩
  case round =>
    obtain ⟨k, g1, l1, hk, rfl, hs, heq, hl1⟩ := hrel
    have HEQ := Lib.hid heq
    clear heq
    cases k with
    | zero =>
      go_wp2
      go_ret
      have he : l1 = l ++ be 1 x := by have := HEQ.out; rwa [be, List.append_nil] at this
      exact ⟨rfl, g1, he ▸ hs⟩
    | succ k =>
      have e1 : ((k + 1 : Nat) : Int) - 1 = (k : Int) := by omega
      rw [e1]
      obtain ⟨A, c, hb, ho, hg⟩ := hs.wr.ex
      have hne := hs.wr.ne
      have hc := hb.cell 0
      obtain ⟨b8, hby, HB⟩ := be_byte x k
      have hxw : IntKind.u64.wrap (x : Int) = x := IntWalk.u64_in _ (by omega)
      have h8 : IntKind.i64.wrap (8 * (k : Int)) = 8 * k := IntWalk.i64_in _ (by omega)
      have hbw : base ≤ wr.heap.size := Nat.le_trans hbase hs.ext.size
      have hpl := hb.lt
      go_wp2
      go_region_law ((refine step_ap8 (by rfl) _ _ (by rfl) l1.length (by rfl) ((ho.alloc _).drew) rfl 1 1 (by rfl) (D := fun _ => True) (m := [b8]) (rd_new1 wr _ b8) rfl (by simp; omega) (by simp; omega) ?_; intro A' c' w1 ho1 hx1 hob; have hb1 := Blk.ext ((hb.alloc _).drew) hx1 (by rw [hg]; exact hne); have hc1 := hb1.cell 0; have hf1 := hb1.frozen 0))
      all_goals
        subst hg
        have hput := WStep.put hb.lt hne (((Ext.refl Non wr).alloc _).drew) hx1 ho1 hob hb1 rfl (l1.length + 1) rfl
        have HQ := HEQ.out
        have HB' := HB.out
        have HR : Hid (∃ (j : Nat) (g2 : Option Nat) (l2 : List UInt8), j ≤ 1 ∧ Value.int .i64 ((k : Int) - 1) = .int .i64 ((j : Int) - 1) ∧ WStep w base p g (w1.setCell ⟨p, 0, none⟩ (.slice A' (l1.length + 1) c')) g2 l2 ∧ l2 ++ be j x = l ++ be 1 x ∧ l2.length ≤ l.length + 1) := by
          refine ⟨k, ob A', l1 ++ [b8], by omega, rfl, hs.trans hput, ?_, ?_⟩
          · rw [← HQ, ← HB', be, List.append_assoc]; rfl
          · have := congrArg List.length HQ
            simp only [List.length_append, be_length, List.length_singleton] at this ⊢
            omega
        clear HQ HB' hput
        go_wp2
        exact ⟨HR.out, by simp [intOf]⟩
theorem wu8_calls {w : World} {base p : Nat} {g : Option Nat} {l : List UInt8} (hW : Wr w base p g l) (hbase : base ≤ w.heap.size) (x : Nat) (hx : (x : Int) ≤ 255) (hlen : l.length ≤ 70368744170000) :
    Calls Try.prog 15 #[.pointer (some ⟨p, 0, none⟩), .int .u8 x] w fun e w' => e = .returned (.pointer (some ⟨p, 0, none⟩)) ∧ ∃ g', WStep w base p g w' g' (l ++ be 1 x) := by
  go_enter Try.func15, Try.ntmps15
  go_wp2_with (go_at_call 33; refine (put8_calls hW hbase x hx hlen).mono ?_; rintro e w1 ⟨rfl, g', hs⟩)
  go_ret
  exact ⟨rfl, g', hs⟩

end Go.Proofs.Ytkgnhkkmingenaa
