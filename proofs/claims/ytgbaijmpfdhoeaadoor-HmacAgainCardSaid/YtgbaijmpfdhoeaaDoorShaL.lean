/- The sum of parts that a slice of the call's own holds. -/
import Derived.Test.YtgbaijmpfdhoeaaDoorShaG
import Derived.Test.YtgbaijmpfdhoeaaDoorDec
import Derived.Test.YtgbaijmpfdhoeaaDoorOwV
namespace Go.Proofs.YtgbaijmpfdhoeaaDoor
open Go.RowKit

theorem Ext.ofN {S : Nat → Prop} {w w' : World} (h : Ext Non w w') : Ext S w w' := h.imp (fun _ _ h => False.elim h)
theorem parts_newD {w : World} {D : Nat → Prop} (t : TypeId) (ps : List Part) (h : ∀ x ∈ ps, Rd w D x.a (bvs x.l) ∧ x.l.length ≤ x.c) :
    Parts (w.alloc (.cells (ps.map Part.val).toArray t)) (fun k => D k ∨ k = w.heap.size) (some ⟨w.heap.size, 0, none⟩) ps := by
  refine ⟨?_, fun x hx => ⟨((h x hx).1.extN ((Ext.refl Non w).alloc _)).imp (fun k _ hk => .inl hk), (h x hx).2⟩⟩
  have := Rd.of_blk (D := fun k => D k ∨ k = w.heap.size) (Blk.new w t (ps.map Part.val).toArray) (.inr rfl) 0 (ps.map Part.val).length
  rw [List.drop_zero, List.toList_toArray, List.take_length] at this
  exact this
/-- The bytes of a block. -/
theorem rd_ba {w : World} {g : Nat} {t : TypeId} {l : List UInt8} (h : Blk w g t (ba l)) : Rd w (fun k => k = g) (some ⟨g, 0, none⟩) (bvs l) := by
  have := Rd.of_blk (D := fun k => k = g) h rfl 0 (bvs l).length
  rw [List.drop_zero, show (ba l).toList = bvs l from rfl, List.take_length] at this
  exact this
/-- As sumN_calls, where what lies between may have written to other blocks of the call's own. -/
theorem sumS_calls {S : Nat → Prop} {w v v' : World} (x : Ext Non w v) (G : Glob w) (hw2 : 2 ≤ w.heap.size) (ps : List Part) (hps : ∀ q ∈ ps, Rd w (· < w.heap.size) q.a (bvs q.l) ∧ q.l.length ≤ q.c) (n : Nat) (hn : ps.length = n)
    (hlen : (allOf ps).length ≤ 562949953421312) (hn6 : n ≤ 1000000) (cells : Array Value) (hc : (ps.map Part.val).toArray = cells) (y : Ext S (v.alloc (.cells cells 22)) v') (hS : ∀ k, S k → w.heap.size ≤ k ∧ k < v.heap.size) (l : List UInt8) (hl : allOf ps = l) :
    Calls Tryd.prog 13 #[.slice (some ⟨v.heap.size, 0, none⟩) n n] v' fun e w' => e = .returned (.agg (ba (sha l))) ∧ Ext Non v' w' := by
  subst hc hl
  have hs := x.size
  have hs2 := y.size
  rw [World.size_alloc] at hs2
  have p1 := (parts_newD (w := v) (D := (· < w.heap.size)) 22 ps (fun q hq => ⟨(hps q hq).1.extN x, (hps q hq).2⟩)).ext y (fun k hk h => by have := hS k h; rcases hk with hk | hk <;> omega)
  exact psum_calls n n p1 hn (Nat.le_refl _) ((G.extN (x.alloc _)).ext y (fun h => by have := (hS _ h).1; omega) (fun h => by have := (hS _ h).1; omega)) (by omega) (fun k hk => by rcases hk with hk | hk <;> omega) hlen (by omega)
/-- The sum of parts that lie in a slice of the call's own. -/
theorem sumO_calls {w v : World} (x : Ext Non w v) (G : Glob w) (hw2 : 2 ≤ w.heap.size) (ps : List Part) (hps : ∀ q ∈ ps, Rd w (· < w.heap.size) q.a (bvs q.l) ∧ q.l.length ≤ q.c) {base : Nat} {A : Option Addr} {c : Nat} {xs : List Value}
    (o : OwV 22 v base A c xs) (hxs : ps.map Part.val = xs) (n : Nat) (hn : xs.length = n) (hlen : (allOf ps).length ≤ 562949953421312) (hn6 : n ≤ 1000000) (l : List UInt8) (hl : allOf ps = l) :
    Calls Tryd.prog 13 #[.slice A n c] v fun e w' => e = .returned (.agg (ba (sha l))) ∧ Ext Non v w' := by
  subst hxs hl
  have hs := x.size
  have hc := o.len.1
  have p1 : Parts v (fun k => k < v.heap.size) A ps := ⟨o.rd.imp (fun k hk _ => hk), fun q hq => ⟨((hps q hq).1.extN x).imp (fun k hk _ => hk), (hps q hq).2⟩⟩
  exact psum_calls n c p1 (by simpa using hn) (by omega) (G.extN x) (by omega) (fun k hk => hk) hlen (by omega)
/-- Slices of bytes that came in. -/
theorem Dec.parts {w : World} {A : Option Addr} {len cap : Nat} (h : Dec Tryd.prog w 30 [.slice A len cap]) : ∃ ps : List Part, ps.length = len ∧ len ≤ cap ∧ cap ≤ maxLen ∧
    (∀ q ∈ ps, q.l.length ≤ q.c ∧ Rd w (· < w.heap.size) q.a (bvs q.l)) ∧ Rd w (· < w.heap.size) A (ps.map Part.val) := by
  obtain ⟨A0, len0, cap0, ps, e, h1, h2, h3, h4, h5⟩ := h.row Tryd.underlying30 rfl Part.val (fun q => q.l.length ≤ q.c ∧ Rd w (· < w.heap.size) q.a (bvs q.l)) (fun cs hd => by
    obtain ⟨A1, n1, c1, l1, rfl, hl, hc, _, hr⟩ := hd.bytes Tryd.underlying22 Tryd.underlying5 rfl
    exact ⟨⟨A1, c1, l1⟩, by simp [Part.val, hl], by show l1.length ≤ c1; omega, hr⟩)
  injection e with e _
  injection e with e1 e2 e3
  subst e1 e2 e3
  exact ⟨ps, h1, h2, h3, h4, h5⟩
theorem allOf_snoc1 (ps : List Part) (q : Part) : allOf (ps ++ [q]) = allOf ps ++ q.l := by simp [allOf]
theorem allOf_bound (ps : List Part) (m : Nat) (h : ∀ q ∈ ps, q.l.length ≤ m) : (allOf ps).length ≤ m * ps.length := by
  induction ps with
  | nil => simp [allOf]
  | cons q ps ih =>
    have h1 := h q (List.mem_cons_self ..)
    have h2 := ih (fun x hx => h x (List.mem_cons_of_mem _ hx))
    have h3 : allOf (q :: ps) = q.l ++ allOf ps := by simp [allOf]
    rw [h3, List.length_append, List.length_cons, Nat.mul_succ]
    omega
/-- Parts of the call's own that lie apart from the row of them. -/
def Mine (w : World) (base : Nat) (A : Option Addr) (m : Nat) (ps : List Part) : Prop :=
  ∀ q ∈ ps, Rd w (fun k => base ≤ k ∧ k < w.heap.size ∧ ¬ ob A = some k) q.a (bvs q.l) ∧ q.l.length ≤ q.c ∧ q.l.length ≤ m
theorem Mine.ext {w w' : World} {base : Nat} {A : Option Addr} {m : Nat} {ps : List Part} (M : Mine w base A m ps) (x : Ext Non w w') : Mine w' base A m ps := fun q hq => by
  obtain ⟨h1, h2, h3⟩ := M q hq
  have := x.size
  exact ⟨(h1.extN x).imp (fun k _ hk => ⟨hk.1, by omega, hk.2.2⟩), h2, h3⟩
theorem Mine.snoc {wr w5 w7 : World} {base : Nat} {A A2 : Option Addr} {m : Nat} {ps : List Part} (M : Mine wr base A m ps) (hA : ∀ k, ob A = some k → k < wr.heap.size) (x5 : Ext Non wr w5) (x7 : Ext (fun k => ob A = some k) w5 w7)
    (hob : ob A2 = ob A ∨ ob A2 = some w5.heap.size) (hb : base ≤ wr.heap.size) (q : Part) (hq : Rd w7 (fun k => wr.heap.size ≤ k ∧ k < w5.heap.size) q.a (bvs q.l)) (hc : q.l.length ≤ q.c) (hm : q.l.length ≤ m) : Mine w7 base A2 m (ps ++ [q]) := by
  have h5 := x5.size
  have h7 := x7.size
  intro y hy
  rcases List.mem_append.1 hy with h | h
  · obtain ⟨h1, h2, h3⟩ := M y h
    refine ⟨(((h1.extN x5).ext x7 (fun k hk => hk.2.2)).imp (fun k _ hk => ⟨hk.1, by omega, fun h => ?_⟩)), h2, h3⟩
    rcases hob with e | e
    · exact hk.2.2 (by rw [← e]; exact h)
    · rw [e] at h
      have : w5.heap.size = k := Option.some.inj h
      omega
  · rw [List.mem_singleton.1 h]
    refine ⟨hq.imp (fun k _ hk => ⟨by omega, by omega, fun h => ?_⟩), hc, hm⟩
    rcases hob with e | e
    · have := hA k (by rw [← e]; exact h)
      omega
    · rw [e] at h
      have : w5.heap.size = k := Option.some.inj h
      omega
theorem rd_mark1 (w : World) (t : TypeId) (cs : List Value) (fr : Nat × Nat) : Rd (w.alloc (.cells cs.toArray t fr)) (fun k => k = w.heap.size) (some ⟨w.heap.size, 0, none⟩) cs :=
  .inr ⟨_, rfl, rfl, fun j u hu => by rw [addr_add, cell_of_row _ _ _ _ _ _ (heap_alloc_new w _)]; simpa using hu⟩
end Go.Proofs.YtgbaijmpfdhoeaaDoor
