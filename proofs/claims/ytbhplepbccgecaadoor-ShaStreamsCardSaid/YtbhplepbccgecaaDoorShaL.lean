/- The sum of parts that a slice of the call's own holds. -/
import Derived.Test.YtbhplepbccgecaaDoorSha03
import Derived.Test.YtbhplepbccgecaaDoorOwV
namespace Go.Proofs.YtbhplepbccgecaaDoor
open Go.RowKit

theorem Ext.ofN {S : Nat → Prop} {w w' : World} (h : Ext Non w w') : Ext S w w' := h.imp (fun _ _ h => False.elim h)
theorem parts_newD {w : World} {D : Nat → Prop} (t : TypeId) (ps : List Part) (h : ∀ x ∈ ps, Rd w D x.a (bvs x.l) ∧ x.l.length ≤ x.c) :
    Parts (w.alloc (.cells (ps.map Part.val).toArray t)) (fun k => D k ∨ k = w.heap.size) (some ⟨w.heap.size, 0, none⟩) ps := by
  refine ⟨?_, fun x hx => ⟨((h x hx).1.extN ((Ext.refl Non w).alloc _)).imp (fun k _ hk => .inl hk), (h x hx).2⟩⟩
  have := Rd.of_blk (D := fun k => D k ∨ k = w.heap.size) (Blk.new w t (ps.map Part.val).toArray) (.inr rfl) 0 (ps.map Part.val).length
  rw [List.drop_zero, List.toList_toArray, List.take_length] at this
  exact this
/-- The bytes of a block. -/
theorem rd_ba {w : World} {g : Nat} {t : TypeId} {l : List UInt8} (h : Blk w g t (ba l)) : Rd w (fun k => k = g) (some ⟨g, 0, none⟩) (bvs l) := by
  have := Rd.of_blk (D := fun k => k = g) h rfl 0 (bvs l).length
  rw [List.drop_zero, show (ba l).toList = bvs l from rfl, List.take_length] at this
  exact this
/-- As sumN_calls, where what lies between may have written to other blocks of the call's own. -/
theorem sumS_calls {S : Nat → Prop} {w v v' : World} (x : Ext Non w v) (G : Glob w) (hw2 : 2 ≤ w.heap.size) (ps : List Part) (hps : ∀ q ∈ ps, Rd w (· < w.heap.size) q.a (bvs q.l) ∧ q.l.length ≤ q.c) (n : Nat) (hn : ps.length = n)
    (hlen : (allOf ps).length ≤ 562949953421312) (hn6 : n ≤ 1000000) (cells : Array Value) (hc : (ps.map Part.val).toArray = cells) (y : Ext S (v.alloc (.cells cells 24)) v') (hS : ∀ k, S k → w.heap.size ≤ k ∧ k < v.heap.size) (l : List UInt8) (hl : allOf ps = l) :
    Calls Tryd.prog 12 #[.slice (some ⟨v.heap.size, 0, none⟩) n n] v' fun e w' => e = .returned (.agg (ba (sha l))) ∧ Ext Non v' w' := by
  subst hc hl
  have hs := x.size
  have hs2 := y.size
  rw [World.size_alloc] at hs2
  have p1 := (parts_newD (w := v) (D := (· < w.heap.size)) 24 ps (fun q hq => ⟨(hps q hq).1.extN x, (hps q hq).2⟩)).ext y (fun k hk h => by have := hS k h; rcases hk with hk | hk <;> omega)
  exact psum_calls n n p1 hn (Nat.le_refl _) ((G.extN (x.alloc _)).ext y (fun h => by have := (hS _ h).1; omega) (fun h => by have := (hS _ h).1; omega)) (by omega) (fun k hk => by rcases hk with hk | hk <;> omega) hlen (by omega)
/-- The sum of parts that lie in a slice of the call's own. -/
theorem sumO_calls {w v : World} (x : Ext Non w v) (G : Glob w) (hw2 : 2 ≤ w.heap.size) (ps : List Part) (hps : ∀ q ∈ ps, Rd w (· < w.heap.size) q.a (bvs q.l) ∧ q.l.length ≤ q.c) {base : Nat} {A : Option Addr} {c : Nat} {xs : List Value}
    (o : OwV 24 v base A c xs) (hxs : ps.map Part.val = xs) (n : Nat) (hn : xs.length = n) (hlen : (allOf ps).length ≤ 562949953421312) (hn6 : n ≤ 1000000) (l : List UInt8) (hl : allOf ps = l) :
    Calls Tryd.prog 12 #[.slice A n c] v fun e w' => e = .returned (.agg (ba (sha l))) ∧ Ext Non v w' := by
  subst hxs hl
  have hs := x.size
  have hc := o.len.1
  have p1 : Parts v (fun k => k < v.heap.size) A ps := ⟨o.rd.imp (fun k hk _ => hk), fun q hq => ⟨((hps q hq).1.extN x).imp (fun k hk _ => hk), (hps q hq).2⟩⟩
  exact psum_calls n c p1 (by simpa using hn) (by omega) (G.extN x) (by omega) (fun k hk => hk) hlen (by omega)
end Go.Proofs.YtbhplepbccgecaaDoor
