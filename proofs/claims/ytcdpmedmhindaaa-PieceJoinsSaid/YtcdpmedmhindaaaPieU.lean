/- Contracts of package piece, as the statements meet them. -/
import Derived.Test.YtcdpmedmhindaaaPieR
namespace Go.Proofs.Ytcdpmedmhindaaa
open Go.RowKit

@[go_sem] theorem store_msg_new (w : World) (x1 x2 x3 : Int) (A : Option Addr) (n c : Nat) :
    (bigStore 55 (.pointer (some ⟨w.heap.size, 0, none⟩)) (.agg #[.int .u32 x1, .int .u16 x2, .int .u16 x3, .slice A n c])).run Try.prog (w.alloc (.cells #[.int .u32 0, .int .u16 0, .int .u16 0, .slice none 0 0] 55)) =
      .ok () (w.alloc (.cells #[.int .u32 x1, .int .u16 x2, .int .u16 x3, .slice A n c] 55)) := by
  rw [Blk.big_store (P := Try.prog) (cs' := #[.int .u32 x1, .int .u16 x2, .int .u16 x3, .slice A n c]) (Blk.new w 55 #[.int .u32 0, .int .u16 0, .int .u16 0, .slice none 0 0]) rfl (by kernel_rfl) (by simp [Value.oneCell']), World.setRow_alloc_new]
@[go_sem] theorem store_pc_new2 (w : World) (o : Obj) (x0 x1 x2 x3 x4 x5 : Int) (A : Option Addr) (n c : Nat) :
    (bigStore 45 (.pointer (some ⟨w.heap.size + 1, 0, none⟩)) (.agg #[.int .i64 x0, .int .u32 x1, .int .u16 x2, .int .u16 x3, .int .i64 x4, .int .i64 x5, .slice A n c])).run Try.prog ((w.alloc o).alloc (.cells #[.int .i64 0, .int .u32 0, .int .u16 0, .int .u16 0, .int .i64 0, .int .i64 0, .slice none 0 0] 45)) =
      .ok () ((w.alloc o).alloc (.cells #[.int .i64 x0, .int .u32 x1, .int .u16 x2, .int .u16 x3, .int .i64 x4, .int .i64 x5, .slice A n c] 45)) := by
  have := store_pc_new (w.alloc o) x0 x1 x2 x3 x4 x5 A n c
  rw [World.size_alloc] at this
  exact this
/-- A piece's bytes. -/
theorem bytes_x (w : World) (ki : Int) (id fr bx : Nat) (pl co : Int) (b : List UInt8) (hid : id < 4294967296) (hfr : fr < 65536) (hbx : bx < 65536) {x1 x2 x3 ez : Int} (h1 : x1 = id) (h2 : x2 = fr) (h3 : x3 = bx) (A : Option Addr) (c n : Nat) (hn : b.length = n) {Dp : Nat → Prop} (hr : Rd w Dp A (bvs b)) (hl : n ≤ maxLen)
    (bs : List UInt8) (er : Nat) (hb : pencb ⟨ki, id, fr, bx, pl, co, b⟩ = bs) (he : pence ⟨ki, id, fr, bx, pl, co, b⟩ = er) (hz : ez = er) :
    Calls Try.prog 27 #[.agg #[.int .i64 ki, .int .u32 x1, .int .u16 x2, .int .u16 x3, .int .i64 pl, .int .i64 co, .slice A n c]] w fun e w' => e = .returned (.tuple #[.agg (ba bs), .int .i64 ez]) ∧ Ext Non w w' := by
  subst h1 h2 h3 hn hb he hz
  exact bytes_calls w ⟨ki, id, fr, bx, pl, co, b⟩ ⟨hid, hfr, hbx⟩ A c hr hl
/-- A take that makes no message whole. -/
theorem take_none {w : World} {D : Nat → Prop} {j : Nat} {J J' : Jn} (H : Jo w D j J) (ki : Int) (id fr bx : Nat) (pl co : Int) (b : List UInt8) (er : Nat) (hj : jtake J ⟨ki, id, fr, bx, pl, co, b⟩ = (J', er, none)) {x1 x2 x3 ez : Int} (h1 : x1 = id) (h2 : x2 = fr) (h3 : x3 = bx) (he : ez = er) (A : Option Addr) (c n : Nat) (hn : b.length = n) {Dp : Nat → Prop} (hr : Rd w Dp A (bvs b)) (hnc : n ≤ c) (hl : n ≤ maxLen) :
    Calls Try.prog 23 #[.pointer (some ⟨j, 0, none⟩), .agg #[.int .i64 ki, .int .u32 x1, .int .u16 x2, .int .u16 x3, .int .i64 pl, .int .i64 co, .slice A n c]] w fun e w' => ∃ D' : Nat → Prop,
      e = .returned (.tuple #[.agg #[.int .u32 0, .int .u16 0, .int .u16 0, .slice none 0 0], .bool false, .int .i64 ez]) ∧ Jo w' D' j J' ∧ (∀ k, D' k → (D k ∨ w.heap.size ≤ k) ∧ k < w'.heap.size) ∧ Ext D w w' := by
  subst h1 h2 h3 hn he
  have ctr := take_calls H ⟨ki, id, fr, bx, pl, co, b⟩ A c hr hl (fun _ => hnc)
  rw [hj] at ctr
  refine ctr.mono ?_
  rintro e w' ⟨D', _, _, rfl, h1, h2, h3, _, _⟩
  exact ⟨fun k => D' k ∧ k < w'.heap.size, rfl, h1.imp (fun k hk h => ⟨h, hk⟩), fun k h => ⟨h2 k h.1, h.2⟩, h3⟩
/-- A take that makes one whole. -/
theorem take_some {w : World} {D : Nat → Prop} {j : Nat} {J J' : Jn} (H : Jo w D j J) (ki : Int) (id fr bx : Nat) (pl co : Int) (b : List UInt8) (m : List UInt8) (hj : jtake J ⟨ki, id, fr, bx, pl, co, b⟩ = (J', 0, some m)) {x1 x2 x3 : Int} (h1 : x1 = id) (h2 : x2 = fr) (h3 : x3 = bx) (A : Option Addr) (c n : Nat) (hn : b.length = n) {Dp : Nat → Prop} (hr : Rd w Dp A (bvs b)) (hnc : n ≤ c) (hl : n ≤ maxLen) (nm : Nat) (hnm : m.length = nm) :
    Calls Try.prog 23 #[.pointer (some ⟨j, 0, none⟩), .agg #[.int .i64 ki, .int .u32 x1, .int .u16 x2, .int .u16 x3, .int .i64 pl, .int .i64 co, .slice A n c]] w fun e w' => ∃ (D' : Nat → Prop) (Am : Option Addr) (cm : Nat),
      e = .returned (.tuple #[.agg #[.int .u32 x1, .int .u16 x2, .int .u16 x3, .slice Am nm cm], .bool true, .int .i64 0]) ∧ Jo w' D' j J' ∧ (∀ k, D' k → (D k ∨ w.heap.size ≤ k) ∧ k < w'.heap.size) ∧ Ext D w w' ∧ OwB w' w.heap.size Am cm m ∧ ∀ k, ob Am = some k → ¬ D' k := by
  subst h1 h2 h3 hn hnm
  have ctr := take_calls H ⟨ki, id, fr, bx, pl, co, b⟩ A c hr hl (fun _ => hnc)
  rw [hj] at ctr
  refine ctr.mono ?_
  rintro e w' ⟨D', Am, cm, rfl, h1, h2, h3, h4, h5⟩
  exact ⟨fun k => D' k ∧ k < w'.heap.size, Am, cm, rfl, h1.imp (fun k hk h => ⟨h, hk⟩), fun k h => ⟨h2 k h.1, h.2⟩, h3, h4, fun k hk h => h5 k hk h.1⟩
/-- The piece of a message's bytes. -/
theorem parse_mpc (w : World) (id fr bx : Nat) (hid : id < 4294967296) (hfr : fr < 65536) (hbx : bx < 65536) {m : List UInt8} (hm : m.length ≤ 4096) (i : Nat) (hi : i < cnt m) {x1 x2 x3 : Int} (h1 : x1 = id) (h2 : x2 = fr) (h3 : x3 = bx) (n nc : Nat) (hn : (pce m i).length = n) (hc : cnt m = nc) :
    Calls Try.prog 26 #[.agg (ba (pcb (mpc id fr bx m i)))] w fun e w' => ∃ A c, e = .returned (.tuple #[.agg #[.int .i64 1, .int .u32 x1, .int .u16 x2, .int .u16 x3, .int .i64 (i : Int), .int .i64 (nc : Int), .slice A n c], .int .i64 0]) ∧ OwB w' w.heap.size A c (pce m i) ∧ Ext Non w w' := by
  subst h1 h2 h3 hn hc
  have hrt := mpc_rt id fr bx hm hi
  have ctr := parse_calls w (prt_len hrt)
  obtain ⟨e1, e2⟩ := pdec_pcb (mpc_ok hid hfr hbx m i) hrt
  rw [e1, e2] at ctr
  exact ctr
theorem split_x {w : World} {D : Nat → Prop} {A : Option Addr} {m : List UInt8} (c n id fr bx : Nat) (hr : Rd w D A (bvs m)) (hD : ∀ k, D k → k < w.heap.size) (hn : m.length = n) (hm : m.length ≤ 4096) (hmc : n ≤ c) (hcm : c ≤ maxLen)
    (hid : id < 4294967296) (hfr : fr < 65536) (hbx : bx < 65536) {x1 x2 x3 : Int} (h1 : x1 = id) (h2 : x2 = fr) (h3 : x3 = bx) (nc : Nat) (hc : cnt m = nc) :
    Calls Try.prog 17 #[.int .u32 x1, .int .u16 x2, .int .u16 x3, .slice A n c] w fun e w' =>
      ∃ A' c', e = .returned (.tuple #[.slice A' nc c', .int .i64 0]) ∧ OwA w' w.heap.size A' c' (pcbs id fr bx m nc) ∧ Ext Non w w' := by
  subst h1 h2 h3 hc
  exact split_calls c n id fr bx hr hD hn hm (by omega) hcm hid hfr hbx
/-- Too long a message. -/
theorem split_full (w : World) (A : Option Addr) (n c : Nat) (x1 x2 x3 : Int) (hn : 4096 < n) :
    Calls Try.prog 17 #[.int .u32 x1, .int .u16 x2, .int .u16 x3, .slice A n c] w fun e w' => e = .returned (.tuple #[.slice none 0 0, .int .i64 8]) ∧ w = w' := by
  have i1 : (4096 : Int) < (n : Int) := by omega
  go_enter Try.func17, Try.ntmps17
  go_wp2
  go_ret2
  exact ⟨rfl, rfl⟩
/-- A new joiner. -/
theorem new_calls (w : World) (room : Int) :
    Calls Try.prog 19 #[.int .i64 room] w fun e w' => ∃ j, e = .returned (.pointer (some ⟨j, 0, none⟩)) ∧ Jo w' (fun k => w.heap.size ≤ k ∧ k < w'.heap.size) j (jn0 room) ∧ Ext Non w w' := by
  refine (newJoiner_calls w room).mono ?_
  rintro e w' ⟨rfl, rfl⟩
  exact ⟨_, rfl, (jo_new w room).imp (fun k hk h => ⟨h, hk⟩), ((Ext.refl Non w).alloc _).alloc _⟩
end Go.Proofs.Ytcdpmedmhindaaa
