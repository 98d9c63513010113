/- A writer, and what it has put: contracts that name no row (its row lies behind it). -/
import Derived.Test.YtnmpfbffacljfaaDoorOct
import Derived.Test.YtnmpfbffacljfaaDoorRow
namespace Go.Proofs.YtnmpfbffacljfaaDoor
open Go.RowKit

/-- A writer at p that has put l; its row, if it has one, is younger. -/
def WrB (w : World) (p : Nat) (l : List UInt8) : Prop := ∃ g, Wr w (p + 1) p g l
def Frm (p : Nat) : Nat → Prop := fun k => p ≤ k
section
variable {w w' : World} {p : Nat} {l m : List UInt8}
theorem WrB.lt (h : WrB w p l) : p + 1 ≤ w.heap.size := let ⟨_, h⟩ := h; h.lt
theorem WrB.new (w : World) : WrB (w.alloc (.cells #[.slice none 0 0] 79)) w.heap.size [] := ⟨none, none, 0, Blk.new w _ _, OwB.nil _ _, rfl⟩
theorem WrB.drew (h : WrB w p l) : WrB w.drew p l := let ⟨g, A, c, hb, ho, hg⟩ := h; ⟨g, A, c, hb, ho, hg⟩
theorem WrB.extN (h : WrB w p l) (x : Ext Non w w') : WrB w' p l := let ⟨g, h⟩ := h; ⟨g, h.extN x⟩
theorem WrB.of {g g' : Option Nat} (hw : Wr w (p + 1) p g l) (h : WStep w (p + 1) p g w' g' m) : WrB w' p m ∧ Ext (Frm p) w w' :=
  ⟨⟨g', h.wr⟩, h.ext.imp (fun k _ hk => by
    rcases hk with h | h
    · exact Nat.le_of_eq h.symm
    · exact Nat.le_of_succ_le (hw.row h).1)⟩
theorem wrb32 (h : WrB w p l) (x : Nat) (hx : x < 4294967296) (hl : l.length ≤ 70368744170000) : Calls Tryd.prog 37 #[.pointer (some ⟨p, 0, none⟩), .int .u32 x] w fun e w' => e = .returned (.pointer (some ⟨p, 0, none⟩)) ∧ WrB w' p (l ++ be 4 x) ∧ Ext (Frm p) w w' := by
  obtain ⟨g, h⟩ := h
  refine (wu32_calls h h.lt x (by omega) hl).mono ?_
  rintro e w' ⟨rfl, g', S⟩
  exact ⟨rfl, WrB.of h S⟩
theorem wrb16 (h : WrB w p l) (x : Nat) (hx : x < 65536) (hl : l.length ≤ 70368744170000) : Calls Tryd.prog 36 #[.pointer (some ⟨p, 0, none⟩), .int .u16 x] w fun e w' => e = .returned (.pointer (some ⟨p, 0, none⟩)) ∧ WrB w' p (l ++ be 2 x) ∧ Ext (Frm p) w w' := by
  obtain ⟨g, h⟩ := h
  refine (wu16_calls h h.lt x (by omega) hl).mono ?_
  rintro e w' ⟨rfl, g', S⟩
  exact ⟨rfl, WrB.of h S⟩
theorem wrbB (h : WrB w p l) {D : Nat → Prop} {B : Option Addr} (d n : Nat) (hr : Rd w D B (bvs m)) (hn : m.length = n) (hl : l.length + m.length ≤ 70368744177664) :
    Calls Tryd.prog 40 #[.pointer (some ⟨p, 0, none⟩), .slice B n d] w fun e w' => e = .returned (.pointer (some ⟨p, 0, none⟩)) ∧ WrB w' p (l ++ m) ∧ Ext (Frm p) w w' := by
  obtain ⟨g, h⟩ := h
  refine (wbytes_calls h h.lt d n hr hn hl).mono ?_
  rintro e w' ⟨rfl, g', S⟩
  exact ⟨rfl, WrB.of h S⟩
theorem wrbD (h : WrB w p l) (n : Nat) (hn : l.length = n) (hl : l.length ≤ 70368744177664) : Calls Tryd.prog 39 #[.pointer (some ⟨p, 0, none⟩)] w fun e w' => ∃ A' c', e = .returned (.slice A' n c') ∧ OwB w' w.heap.size A' c' l ∧ Ext Non w w' := by
  obtain ⟨g, h⟩ := h
  exact wdone_calls h n hn hl
end
theorem Ext.allocW {S : Nat → Prop} (w : World) (o : Obj) : Ext S w.drew (w.alloc o).drew := (Ext.refl S w.drew).alloc o
theorem Ext.offN {S : Nat → Prop} {w w' : World} (x : Ext Non w w') : Ext S w w' := x.imp (fun _ _ h => h.elim)
theorem Ext.frm {a b c : World} {p : Nat} (X : Ext Non a b) (x : Ext (Frm p) b c) (hp : a.heap.size ≤ p) : Ext Non a c := X.trans x (fun i hi h => by have h : p ≤ i := h; omega)
theorem Blk.frm {w w' : World} {p g : Nat} {t : TypeId} {cs : Array Value} (B : Blk w g t cs) (x : Ext (Frm p) w w') (hp : g < p) : Blk w' g t cs := B.ext x (fun h => by have h : p ≤ g := h; omega)
/-- Bytes within a block. -/
theorem Blk.sub {w : World} {g : Nat} {t : TypeId} {cs : List Value} (hb : Blk w g t cs.toArray) (pre : List Value) (l : List UInt8) (post : List Value) (e : cs = pre ++ (bvs l ++ post)) (o : Nat) (ho : pre.length = o) : Rd w (fun k => k = g) (some ⟨g, o, none⟩) (bvs l) := by
  have := Rd.of_blk (D := fun k => k = g) hb rfl o l.length
  have e2 : ((cs.toArray.toList).drop o).take l.length = bvs l := by
    rw [e, ← ho]
    simp [bvs]
  rwa [e2] at this
set_option maxRecDepth 100000 in
/-- copy of bytes into a block. -/
theorem copy_in {w : World} {g : Nat} {t : TypeId} {pre post : List Value} {dst m : List UInt8} (hb : Blk w g t (pre ++ (bvs dst ++ post)).toArray) {D : Nat → Prop} {A : Option Addr} (hr : Rd w D A (bvs m)) (o L n c k : Nat) (ho : pre.length = o) (hL : dst.length = L) (hn : m.length = n) (hk : k = Nat.min n L) :
    ∃ w', (∀ ty, (Builtin.copy_ #[50, 50] ty #[.slice (some ⟨g, o, none⟩) L L, .slice A n c]).run Tryd.prog w = .ok (.int .i64 (k : Int)) w') ∧ Blk w' g t (pre ++ (bvs (m.take k ++ dst.drop k) ++ post)).toArray ∧ Ext (One g) w w' := by
  have s8 : (Tryd.prog.info? 5).map (·.size) = some 1 := by kernel_rfl
  have hk1 : k ≤ n := by rw [hk]; exact Nat.min_le_left _ _
  have hk2 : k ≤ L := by rw [hk]; exact Nat.min_le_right _ _
  have hcl : (m.take k).length = k := by simp; omega
  rcases A with _ | a
  · have hm : m = [] := by
      rcases hr with h | ⟨a, h, _⟩
      · simpa [bvs] using h
      · cases h
    subst hm
    obtain rfl : n = 0 := by simpa using hn.symm
    obtain rfl : k = 0 := by omega
    refine ⟨w, fun ty => ?_, by simpa using hb, Ext.refl _ _⟩
    obtain ⟨i, hi, hi1⟩ := Option.map_eq_some_iff.1 s8
    simp [Builtin.copy_, run_underlying (P := Tryd.prog) Tryd.underlying50, sizeOf, typeInfo, hi]
    rfl
  · have hsrc : ∀ j v, (bvs (m.take k))[j]? = some v → w.cell? (a.add j) = some v := fun j v hv => by
      have hj : j < k := by have := (List.getElem?_eq_some_iff.1 hv).1; rw [bvs_length, hcl] at this; exact this
      have hv' : (bvs m)[j]? = some v := by
        rw [← hv]
        simp [bvs, hj]
      obtain ⟨a', e, hcell⟩ := hr.at_ hv'
      injection e with e
      subst e
      exact hcell
    have := fun ty => run_copy_row (P := Tryd.prog) w 50 50 ty 5 g o L L a n c _ t (bvs (m.take k)) Tryd.underlying50 s8 hb (by rw [bvs_length, hcl, hk]) hsrc (by rw [bvs_length, hcl]; simp [bvs_length]; omega) (bvs_one _)
    simp only [bvs_length, hcl] at this
    refine ⟨_, this, ?_, (Ext.refl (One g) w).setRow (.inr rfl) _⟩
    have hb2 := hb.setRow (pre ++ (bvs (m.take k ++ dst.drop k) ++ post)).toArray
    have e : (List.take o (pre ++ (bvs dst ++ post)).toArray.toList ++ bvs (m.take k) ++ List.drop (o + k) (pre ++ (bvs dst ++ post)).toArray.toList).toArray = (pre ++ (bvs (m.take k ++ dst.drop k) ++ post)).toArray := by
      congr 1
      rw [← ho]
      have hkd : k - dst.length = 0 := by omega
      simp [List.take_append, List.drop_append, bvs_append, bvs_length, hkd, bvs]
    rw [e]
    exact hb2
end Go.Proofs.YtnmpfbffacljfaaDoor
