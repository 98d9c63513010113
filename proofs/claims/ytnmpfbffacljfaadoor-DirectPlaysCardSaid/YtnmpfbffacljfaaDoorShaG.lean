/- Words of the laws that use sums: parts, copies, what is equal. -/
import Derived.Lib.SlBytesConst
import Derived.Test.YtnmpfbffacljfaaDoorShaT
namespace Go.Proofs.YtnmpfbffacljfaaDoor
open Go.RowKit

/-! ### Parts that a call's own slice literal holds -/
theorem rd_new (w : World) (t : TypeId) (cs : List Value) : Rd (w.alloc (.cells cs.toArray t)) (· < w.heap.size + 1) (some ⟨w.heap.size, 0, none⟩) cs := by
  have := Rd.of_blk (D := (· < w.heap.size + 1)) (Blk.new w t cs.toArray) (Nat.lt_succ_self _) 0 cs.length
  simpa using this
theorem rd_newB (w : World) (t : TypeId) (l : List UInt8) : Rd (w.alloc (.cells (ba l) t)) (· < w.heap.size + 1) (some ⟨w.heap.size, 0, none⟩) (bvs l) := rd_new w t (bvs l)
/-- The bytes of a constant text. -/
theorem rd_mark (w : World) (t : TypeId) (cs : List Value) (fr : Nat × Nat) : Rd (w.alloc (.cells cs.toArray t fr)) (· < w.heap.size + 1) (some ⟨w.heap.size, 0, none⟩) cs :=
  .inr ⟨_, rfl, Nat.lt_succ_self _, fun j u hu => by rw [addr_add, cell_of_row _ _ _ _ _ _ (heap_alloc_new w _)]; simpa using hu⟩
/-- Parts whose slices lie in w, and the row of them that is made last. -/
theorem parts_new {w : World} {D : Nat → Prop} (t : TypeId) (ps : List Part) (hD : ∀ k, D k → k < w.heap.size) (h : ∀ x ∈ ps, Rd w D x.a (bvs x.l) ∧ x.l.length ≤ x.c) :
    Parts (w.alloc (.cells (ps.map Part.val).toArray t)) (· < w.heap.size + 1) (some ⟨w.heap.size, 0, none⟩) ps :=
  ⟨rd_new w t _, fun x hx => ⟨((h x hx).1.extN ((Ext.refl Non w).alloc _)).imp (fun k _ hk => Nat.lt_succ_of_lt (hD k hk)), (h x hx).2⟩⟩

/-! ### Words of the laws -/
@[go_sem ↓] theorem eql_sha (w : World) (x y : List UInt8) : (binOp .eql 82 (.agg (ba (sha x))) (.agg (ba (sha y)))).run Tryd.prog w = .ok (.bool (sha x == sha y)) w :=
  run_eql_bytes w Tryd.underlying82 Tryd.underlying5 s8 Tryd.isAgg5 _ _ (sha_len x) (sha_len y)
@[go_sem ↓] theorem neq_sha (w : World) (x y : List UInt8) : (binOp .neq 82 (.agg (ba (sha x))) (.agg (ba (sha y)))).run Tryd.prog w = .ok (.bool (!(sha x == sha y))) w :=
  run_neq_bytes w Tryd.underlying82 Tryd.underlying5 s8 Tryd.isAgg5 _ _ (sha_len x) (sha_len y)
@[go_sem] theorem store_sha (w : World) (x : List UInt8) : (bigStore 82 (.pointer (some ⟨w.heap.size, 0, none⟩)) (.agg (ba (sha x)))).run Tryd.prog (w.alloc (.cells (zrow 32) 82)) = .ok () (w.alloc (.cells (ba (sha x)) 82)) := by
  rw [Blk.big_store (P := Tryd.prog) (Blk.new w 82 (zrow 32)) (by rw [zrow_size, ba32]) (o_info _ (ba32 x)) (ba_all _), World.setRow_alloc_new]
theorem load_sha {w : World} {g : Nat} {x : List UInt8} (h : Blk w g 82 (ba (sha x))) : (bigLoad 82 (.pointer (some ⟨g, 0, none⟩))).run Tryd.prog w = .ok (.agg (ba (sha x))) w :=
  h.big_load Tryd.underlying82 rfl (o_info _ (ba32 x))
/-- A stream is copied. -/
theorem Strm.copy {w : World} {p : Nat} {l : List UInt8} (h : Strm w p l) : ∃ cs : Array Value, cs ≠ #[] ∧ (bigLoad 100 (.pointer (some ⟨p, 0, none⟩))).run Tryd.prog w = .ok (.agg cs) w ∧
    (bigStore 100 (.pointer (some ⟨w.heap.size, 0, none⟩)) (.agg cs)).run Tryd.prog (w.alloc (.cells strm0 100)) = .ok () (w.alloc (.cells cs 100)) ∧
    Strm (w.alloc (.cells cs 100)) w.heap.size l := by
  obtain ⟨b, h, part, hb, hh, hp, r⟩ := h
  refine ⟨_, row_ne (strm_size (b := b) (n := l.length) hh hp), hb.big_load Tryd.underlying100 rfl (s_info _ (strm_size hh hp)), ?_, b, h, part, Blk.new _ _ _, hh, hp, r⟩
  rw [Blk.big_store (P := Tryd.prog) (Blk.new w 100 strm0) (by rw [strm0_size, strm_size hh hp]) (s_info _ (strm_size hh hp)) strm_all, World.setRow_alloc_new]
theorem strm0_ne : strm0 ≠ #[] := row_ne strm0_size
theorem zrow32_ne : zrow 32 ≠ #[] := row_ne (zrow_size 32)
/-- The sum of parts that a slice literal holds. -/
theorem sumN_calls {w v v' : World} (x : Ext Non w v) (G : Glob w) (hw2 : 2 ≤ w.heap.size) (ps : List Part) (hps : ∀ q ∈ ps, Rd w (· < w.heap.size) q.a (bvs q.l) ∧ q.l.length ≤ q.c) (n : Nat) (hn : ps.length = n)
    (hlen : (allOf ps).length ≤ 562949953421312) (hn6 : n ≤ 1000000) (cells : Array Value) (hc : (ps.map Part.val).toArray = cells) (y : Ext Non (v.alloc (.cells cells 50)) v') (l : List UInt8) (hl : allOf ps = l) :
    Calls Tryd.prog 38 #[.slice (some ⟨v.heap.size, 0, none⟩) n n] v' fun e w' => e = .returned (.agg (ba (sha l))) ∧ Ext Non v' w' := by
  subst hc hl
  have hs := x.size
  have hs2 := y.size
  rw [World.size_alloc] at hs2
  have p1 := (parts_new (w := v) (D := (· < w.heap.size)) 50 ps (fun k hk => Nat.lt_of_lt_of_le hk hs) (fun q hq => ⟨(hps q hq).1.extN x, (hps q hq).2⟩)).extN y
  exact psum_calls n n p1 hn (Nat.le_refl _) ((G.extN (x.alloc _)).extN y) (by omega) (fun k hk => by omega) hlen (by omega)
theorem bvs_take5 (l : List UInt8) (n : Nat) : bvs (l.take n) = (bvs l).take n := by simp [bvs]
end Go.Proofs.YtnmpfbffacljfaaDoor
