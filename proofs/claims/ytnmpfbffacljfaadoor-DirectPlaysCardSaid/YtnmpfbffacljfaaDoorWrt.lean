/- Contracts of package octets: Clone, the writer's Bytes and Done. -/
import Derived.Test.YtnmpfbffacljfaaDoorByte
namespace Go.Proofs.YtnmpfbffacljfaaDoor
open Go.RowKit

/-! ### slices.Clone -/
theorem clone_calls {w : World} {D : Nat → Prop} {A : Option Addr} {l : List UInt8} (c n : Nat) (hr : Rd w D A (bvs l)) (hn : l.length = n) (hl : l.length ≤ 70368744177664) :
    Calls Tryd.prog 54 #[.slice A n c] w fun e w' => ∃ A' c', e = .returned (.slice A' n c') ∧ OwB w' w.heap.size A' c' l ∧ Ext Non w w' := by
  have he := fun (W : World) => Lib.run_eql_slice_nil (P := Tryd.prog) W
  cases A with
  | none =>
    have hl0 : l = [] := by
      rcases hr with h | ⟨a, h, _⟩
      · simpa [bvs] using h
      · cases h
    subst hl0
    obtain rfl : 0 = n := hn
    go_enter Tryd.func54, Tryd.ntmps54
    go_wp2
    go_ret
    exact ⟨none, 0, rfl, OwB.nil _ _, Ext.refl _ _⟩
  | some a =>
    have ha0 : OwB (w.alloc (.cells #[] 5)) w.heap.size (some ⟨w.heap.size, 0, none⟩) 0 [] := World.ownsRow_made w #[] 0 (Nat.le_refl _) (by simp [maxLen]) rfl
    have hx0 : Ext Non w (w.alloc (.cells #[] 5)) := (Ext.refl _ w).alloc _
    go_enter Tryd.func54, Tryd.ntmps54
    go_wp2_with (at_builtin; refine wp_ap8 rfl (.tmp 5) (.tmp 6) rfl 0 rfl ha0 rfl n c rfl (hr.extN hx0) hn (by simpa using hl) (by simp) ?_; intro A' c' w' hown hx hob)
    go_ret
    refine ⟨A', c', by simp, hown, hx0.trans hx ?_⟩
    intro i hi hk
    simp [ob] at hk
    omega

/-! ### Writer -/
/-- A writer at block p: it has put l, into a row of its own (block g, if there is one). -/
structure Wr (w : World) (base p : Nat) (g : Option Nat) (l : List UInt8) : Prop where
  ex : ∃ A c, Blk w p 79 #[.slice A l.length c] ∧ OwB w base A c l ∧ ob A = g

/-- Who writes to a writer turns its block and its row. -/
def WrS (p : Nat) (g : Option Nat) : Nat → Prop := fun k => k = p ∨ g = some k

/-- A writer has been written to: it has put l; nobody else is touched. -/
structure WStep (w : World) (base p : Nat) (g : Option Nat) (w' : World) (g' : Option Nat) (l : List UInt8) : Prop where
  wr : Wr w' base p g' l
  ext : Ext (WrS p g) w w'
  row : g' = g ∨ ∃ k, g' = some k ∧ w.heap.size ≤ k

section
variable {S : Nat → Prop} {w w' w'' : World} {base p : Nat} {g g' g'' : Option Nat} {l m : List UInt8}
theorem Wr.lt (h : Wr w base p g l) : p < w.heap.size := let ⟨_, _, hb, _⟩ := h.ex; hb.lt
theorem Wr.ext (h : Wr w base p g l) (hx : Ext S w w') (hp : ¬ S p) (hS : ∀ k, g = some k → ¬ S k) : Wr w' base p g l := by
  obtain ⟨A, c, hb, ho, hg⟩ := h.ex
  exact ⟨A, c, hb.ext hx hp, ho.ext hx (by rw [hg]; exact hS), hg⟩
theorem Wr.extN (h : Wr w base p g l) (hx : Ext Non w w') : Wr w' base p g l := h.ext hx (fun h => h) (fun _ _ h => h)
theorem Wr.row (h : Wr w base p g l) {k : Nat} (hk : g = some k) : base ≤ k ∧ k < w.heap.size := by
  obtain ⟨A, c, hb, ho, hg⟩ := h.ex
  exact ho.lt (by rw [hg]; exact hk)
theorem Wr.ne (h : Wr w base p g l) : g ≠ some p := by
  intro hk
  obtain ⟨A, c, hb, ho, hg⟩ := h.ex
  obtain ⟨cs, hc, _⟩ := ho.blk (k := p) (by rw [hg]; exact hk)
  exact Blk.ne_ hb hc (by decide) rfl
theorem Wr.len (h : Wr w base p g l) : l.length ≤ maxLen := by
  obtain ⟨A, c, hb, ho, hg⟩ := h.ex
  exact Nat.le_trans ho.len.1 ho.len.2
theorem WStep.refl (h : Wr w base p g l) : WStep w base p g w g l := ⟨h, Ext.refl _ _, .inl rfl⟩
theorem WStep.trans {l' : List UInt8} (h : WStep w base p g w' g' l) (k : WStep w' base p g' w'' g'' l') : WStep w base p g w'' g'' l' := by
  refine ⟨k.wr, h.ext.trans k.ext ?_, ?_⟩
  · rintro i hi (rfl | ht)
    · exact .inl rfl
    · rcases h.row with e | ⟨k', e, hk'⟩
      · exact .inr (by rw [← e]; exact ht)
      · rw [e] at ht
        injection ht with ht
        omega
  · rcases k.row with e | ⟨k', e, hk'⟩
    · rcases h.row with e' | ⟨k', e', hk'⟩
      · exact .inl (e.trans e')
      · exact .inr ⟨k', e.trans e', hk'⟩
    · exact .inr ⟨k', e, Nat.le_trans h.ext.size hk'⟩
end

/-- One append, and the store of the new slice. -/
theorem WStep.put {w W0 w1 : World} {base p : Nat} {A A' : Option Addr} {c' : Nat} {l m : List UInt8} {cs : Array Value} (hlt : p < w.heap.size) (hne : ob A ≠ some p) (h0 : Ext Non w W0) (hx1 : Ext (fun k => ob A = some k) W0 w1)
    (ho1 : OwB w1 base A' c' (l ++ m)) (hob : ob A' = ob A ∨ ob A' = some W0.heap.size) (hb1 : Blk w1 p 79 cs) (hcs : cs.size = 1) (n : Nat) (hn : l.length + m.length = n) :
    WStep w base p (ob A) (w1.setCell ⟨p, 0, none⟩ (.slice A' n c')) (ob A') (l ++ m) := by
  have hx2 : Ext (One p) w1 (w1.setCell ⟨p, 0, none⟩ (.slice A' n c')) := (Ext.refl Non w1).setN 0 _
  have hrow : ∀ k, ob A' = some k → ¬ One p k := by
    rintro k hk rfl
    rcases hob with e | e
    · rw [e] at hk; exact hne hk
    · rw [e] at hk; injection hk with hk; have := h0.size; omega
  refine ⟨⟨A', c', ?_, ho1.ext hx2 hrow, rfl⟩, ?_, ?_⟩
  · rw [List.length_append, hn]
    have := hb1.set_ 0 (.slice A' n c')
    have e : cs.setIfInBounds 0 (.slice A' n c') = #[.slice A' n c'] := by
      obtain ⟨l, rfl⟩ : ∃ l, cs = List.toArray l := ⟨cs.toList, by simp⟩
      match l, hcs with
      | [x], _ => rfl
    rwa [e] at this
  · refine ((h0.imp (T := WrS p (ob A)) (fun _ _ h => h.elim)).trans hx1 (fun i _ hi => .inr hi)).trans hx2 (fun i _ hi => .inl hi)
  · rcases hob with e | e
    · exact .inl e
    · exact .inr ⟨_, e, h0.size⟩

theorem wbytes_calls {w : World} {base p : Nat} {g : Option Nat} {l : List UInt8} (hW : Wr w base p g l) (hbase : base ≤ w.heap.size) {D : Nat → Prop} {B : Option Addr} {m : List UInt8} (d n : Nat)
    (hr : Rd w D B (bvs m)) (hn : m.length = n) (hlen : l.length + m.length ≤ 70368744177664) :
    Calls Tryd.prog 40 #[.pointer (some ⟨p, 0, none⟩), .slice B n d] w fun e w' => e = .returned (.pointer (some ⟨p, 0, none⟩)) ∧ ∃ g', WStep w base p g w' g' (l ++ m) := by
  have hne := hW.ne
  obtain ⟨A, c, hb, ho, hg⟩ := hW.ex
  have hc := hb.cell 0
  go_enter Tryd.func40, Tryd.ntmps40
  go_wp2_with (at_builtin; refine wp_ap8 rfl (.tmp 9) (.tmp 10) rfl l.length rfl ho rfl n d rfl hr hn hlen hbase ?_; intro A' c' w1 ho1 hx1 hob; have hb1 := hb.ext hx1 (by rw [hg]; exact hne); have hc1 := hb1.cell 0; have hf1 := hb1.frozen 0)
  go_ret
  subst hn hg
  exact ⟨rfl, ob A', WStep.put hb.lt hne (Ext.refl _ _) hx1 ho1 hob hb1 rfl _ rfl⟩

theorem wdone_calls {w : World} {base p : Nat} {g : Option Nat} {l : List UInt8} (hW : Wr w base p g l) (n : Nat) (hn : l.length = n) (hlen : l.length ≤ 70368744177664) :
    Calls Tryd.prog 39 #[.pointer (some ⟨p, 0, none⟩)] w fun e w' => ∃ A' c', e = .returned (.slice A' n c') ∧ OwB w' w.heap.size A' c' l ∧ Ext Non w w' := by
  subst hn
  obtain ⟨A, c, hb, ho, hg⟩ := hW.ex
  have hc := hb.cell 0
  go_enter Tryd.func39, Tryd.ntmps39
  go_wp2_with (go_at_call 54; refine (clone_calls c l.length ho.rd rfl hlen).mono ?_; rintro e w1 ⟨A', c', rfl, hown, hx⟩)
  go_ret
  exact ⟨A', c', rfl, hown, hx⟩

end Go.Proofs.YtnmpfbffacljfaaDoor
