/- Package direct: has, key, compare; the functions that are handed on. -/
import Derived.Test.YtnmpfbffacljfaaDoorDirP
import Derived.Test.YtnmpfbffacljfaaDoorMapR
import Derived.Test.YtnmpfbffacljfaaDoorOwO
import Derived.Test.YtnmpfbffacljfaaDoorSeqP
import Derived.Test.YtnmpfbffacljfaaDoorWrb
import Derived.Sort.Grow
import Derived.Shelf.Abstract
namespace Go.Proofs.YtnmpfbffacljfaaDoor
open Go.RowKit

/-- Draws and new blocks, nothing else. -/
def Gr (w w' : World) : Prop := ∃ q os, w' = Go.Sort.grow (w.drewN q) os
section
variable {w w' v : World}
theorem Gr.refl (w : World) : Gr w w := ⟨0, #[], by rw [Go.Sort.grow_empty]; rfl⟩
theorem Gr.alloc (h : Gr v w) (o : Obj) : Gr v (w.alloc o) := by
  obtain ⟨q, os, rfl⟩ := h
  exact ⟨q, os ++ #[o], by rw [Go.Sort.alloc_eq_grow, Go.Sort.grow_grow]⟩
theorem Gr.drewN (h : Gr v w) (n : Nat) : Gr v (w.drewN n) := by
  obtain ⟨q, os, rfl⟩ := h
  exact ⟨q + n, os, by simp [Go.Sort.grow, World.drewN, Nat.add_assoc]⟩
theorem Gr.drew (h : Gr v w) : Gr v w.drew := h.drewN 1
theorem Gr.trans (h : Gr v w) (k : Gr w w') : Gr v w' := by
  obtain ⟨q, os, rfl⟩ := h
  obtain ⟨q', os', rfl⟩ := k
  exact ⟨q + q', os ++ os', by simp [Go.Sort.grow, World.drewN, Nat.add_assoc, Array.append_assoc]⟩
theorem Gr.ext (h : Gr v w) : Ext Non v w := by
  obtain ⟨q, os, rfl⟩ := h
  exact ⟨rfl, rfl, rfl, by simp [Go.Sort.grow, World.drewN], fun k hk _ => by
    show ((v.drewN q).heap ++ os)[k]? = v.heap[k]?
    rw [Array.getElem?_append_left (by exact hk)]
    rfl⟩
end

theorem has_calls (w : World) (ad fr up ln e : Nat) (b : Bool) (hb : decide (fr ≤ e ∧ e ≤ up) = b) :
    Calls Tryd.prog 29 #[.agg #[.int .u16 ad, .int .u32 fr, .int .u32 up, .int .u32 ln], .int .u32 e] w fun e' w' => e' = .returned (.bool b) ∧ Gr w w' := by
  have HB := Lib.hid hb
  clear hb
  go_enter Tryd.func29, Tryd.ntmps29
  go_wp2_with fail
  all_goals go_ret
  all_goals refine ⟨?_, (Gr.refl _).alloc _⟩
  all_goals refine congrArg (fun b => Ending.returned (Value.bool b)) ?_
  all_goals rw [← HB.out]
  all_goals rw [Bool.eq_iff_iff]
  all_goals simp_all
  all_goals try omega
theorem key_calls (w : World) (ad fr up ln : Nat) :
    Calls Tryd.prog 30 #[.agg #[.int .u16 ad, .int .u32 fr, .int .u32 up, .int .u32 ln]] w fun e w' => e = .returned (.agg #[.int .u16 ad, .int .u32 fr]) ∧ Gr w w' := by
  go_enter Tryd.func30, Tryd.ntmps30
  have B := Blk.new (w.alloc (.cells #[.int .u16 ad, .int .u32 fr, .int .u32 up, .int .u32 ln] 37)) 71 #[.int .u16 ad, .int .u32 fr]
  rw [World.size_alloc] at B
  go_wp2
  exact bodyPost_ret (Blk.results B Tryd.results30 _ rfl Tryd.underlying71 rfl (by kernel_rfl)) rfl ⟨rfl, ((Gr.refl _).alloc _).alloc _⟩

/-- cmp.Compare of numbers, and of keys. -/
def cmpN (x y : Nat) : Int := if x < y then -1 else if y < x then 1 else 0
def cmpK (a b c d : Nat) : Int := if cmpN a c = 0 then cmpN b d else cmpN a c
def cmpR (x y : Rc) : Int := cmpK x.ad x.fr y.ad y.fr
theorem cmpK_neg (a b c d : Nat) : cmpK a b c d < 0 ↔ (a < c ∨ a = c ∧ b < d) := by
  unfold cmpK cmpN
  repeat' split
  all_goals omega
theorem cmpR_neg (x y : Rc) : cmpR x y < 0 ↔ klt x y = true := by
  unfold cmpR klt
  rw [cmpK_neg, decide_eq_true_eq]
theorem nan16_calls (w : World) (x : Nat) : Calls Tryd.prog 70 #[.int .u16 x] w fun e w' => e = .returned (.bool false) ∧ w = w' := by
  go_enter Tryd.func70, Tryd.ntmps70
  go_wp2
  go_ret
  exact ⟨rfl, rfl⟩
theorem cmp16_calls (w : World) (x y : Nat) : Calls Tryd.prog 58 #[.int .u16 x, .int .u16 y] w fun e w' => e = .returned (.int .i64 (cmpN x y)) ∧ w = w' := by
  obtain ⟨r, hr⟩ : ∃ r, cmpN x y = r := ⟨_, rfl⟩
  rw [hr]
  unfold cmpN at hr
  have HR := Lib.hid hr
  clear hr
  go_enter Tryd.func58, Tryd.ntmps58
  go_wp2_with (go_at_call 70; refine (nan16_calls _ _).mono ?_; rintro e w1 ⟨rfl, rfl⟩)
  all_goals go_ret
  all_goals refine ⟨?_, rfl⟩
  all_goals refine congrArg (fun b => Ending.returned (Value.int .i64 b)) ?_
  all_goals rw [← HR.out]
  all_goals repeat' split
  all_goals omega
theorem nan32_calls (w : World) (x : Nat) : Calls Tryd.prog 71 #[.int .u32 x] w fun e w' => e = .returned (.bool false) ∧ w = w' := by
  go_enter Tryd.func71, Tryd.ntmps71
  go_wp2
  go_ret
  exact ⟨rfl, rfl⟩
theorem cmp32_calls (w : World) (x y : Nat) : Calls Tryd.prog 59 #[.int .u32 x, .int .u32 y] w fun e w' => e = .returned (.int .i64 (cmpN x y)) ∧ w = w' := by
  obtain ⟨r, hr⟩ : ∃ r, cmpN x y = r := ⟨_, rfl⟩
  rw [hr]
  unfold cmpN at hr
  have HR := Lib.hid hr
  clear hr
  go_enter Tryd.func59, Tryd.ntmps59
  go_wp2_with (go_at_call 71; refine (nan32_calls _ _).mono ?_; rintro e w1 ⟨rfl, rfl⟩)
  all_goals go_ret
  all_goals refine ⟨?_, rfl⟩
  all_goals refine congrArg (fun b => Ending.returned (Value.int .i64 b)) ?_
  all_goals rw [← HR.out]
  all_goals repeat' split
  all_goals omega
theorem or_calls {w : World} {g : Nat} {x y : Int} (r : Int) (hr : (if x = 0 then y else x) = r) (B : Blk w g 3 #[.int .i64 x, .int .i64 y]) :
    Calls Tryd.prog 57 #[.slice (some ⟨g, 0, none⟩) 2 2] w fun e w' => e = .returned (.int .i64 r) ∧ w = w' := by
  subst hr
  have c0 : w.cell? ⟨g, 0, none⟩ = some (.int .i64 x) := B.cell 0
  have c1 : w.cell? ⟨g, 1, none⟩ = some (.int .i64 y) := B.cell 1
  clear B
  by_cases hx : x = 0
  · subst hx
    rw [if_pos rfl]
    by_cases hy : y = 0
    · subst hy
      go_enter Tryd.func57, Tryd.ntmps57
      go_wp2
      refine wp_loop_rounds 3 ?_
      iterate 3 (rw [rounds_succ]; go_wp2)
      go_ret
      exact ⟨rfl, rfl⟩
    · have h1 : (y != 0) = true := by simpa using hy
      go_enter Tryd.func57, Tryd.ntmps57
      go_wp2
      refine wp_loop_rounds 3 ?_
      iterate 2 (rw [rounds_succ]; go_wp2)
      go_ret
      exact ⟨rfl, rfl⟩
  · have h1 : (x != 0) = true := by simpa using hx
    rw [if_neg hx]
    go_enter Tryd.func57, Tryd.ntmps57
    go_wp2
    refine wp_loop_rounds 3 ?_
    rw [rounds_succ]
    go_wp2
    go_ret
    exact ⟨rfl, rfl⟩
theorem compare_calls (w : World) (a b c d : Nat) :
    Calls Tryd.prog 44 #[.agg #[.int .u16 a, .int .u32 b], .agg #[.int .u16 c, .int .u32 d]] w fun e w' => e = .returned (.int .i64 (cmpK a b c d)) ∧ Gr w w' := by
  obtain ⟨r, hr⟩ : ∃ r, cmpK a b c d = r := ⟨_, rfl⟩
  rw [hr]
  unfold cmpK at hr
  have c16 := fun W => cmp16_calls W a c
  have c32 := fun W => cmp32_calls W b d
  generalize cmpN a c = p at *
  generalize cmpN b d = q at *
  have HR := Lib.hid hr
  clear hr
  have X := ((Gr.refl w).alloc (.cells #[.int .u16 a, .int .u32 b] 71)).alloc (.cells #[.int .u16 c, .int .u32 d] 71)
  have B1 := (Blk.new w 71 #[.int .u16 a, .int .u32 b]).alloc (.cells #[.int .u16 c, .int .u32 d] 71)
  have B2 := Blk.new (w.alloc (.cells #[.int .u16 a, .int .u32 b] 71)) 71 #[.int .u16 c, .int .u32 d]
  rw [World.size_alloc] at B2
  go_enter Tryd.func44, Tryd.ntmps44
  go_upto_region 1 with (fail)
  generalize (w.alloc (.cells #[.int .u16 a, .int .u32 b] 71)).alloc (.cells #[.int .u16 c, .int .u32 d] 71) = w1 at *
  have a0 : ∀ W, Gr w1 W → W.cell? ⟨w.heap.size, 0, none⟩ = some (.int .u16 a) := fun W h => (B1.extN_ h.ext).cell 0
  have a1 : ∀ W, Gr w1 W → W.cell? ⟨w.heap.size, 1, none⟩ = some (.int .u32 b) := fun W h => (B1.extN_ h.ext).cell 1
  have b0 : ∀ W, Gr w1 W → W.cell? ⟨w.heap.size + 1, 0, none⟩ = some (.int .u16 c) := fun W h => (B2.extN_ h.ext).cell 0
  have b1 : ∀ W, Gr w1 W → W.cell? ⟨w.heap.size + 1, 1, none⟩ = some (.int .u32 d) := fun W h => (B2.extN_ h.ext).cell 1
  clear B1 B2
  refine wp_region_seqP (Gr w1) ((0, true) :: (1, true) :: (2, true) :: (3, true) :: (5, true) :: (6, true) :: (7, true) :: (8, true) :: (4, false) :: (9, false) :: (10, false) :: (11, false) :: (12, true) :: []) (by kernel_rfl) (by kernel_rfl) (by kernel_rfl) (Gr.refl w1).drew ?_
  iterate 8 (refine wpSeqP_quiet rfl rfl ?_; apply Exists.intro; refine ⟨?_, ?_⟩; (intro W hW; have u0 := a0 W hW; have u1 := a1 W hW; have u2 := b0 W hW; have u3 := b1 W hW; go_simp; try with_reducible rfl); (intro K hK; simp only [Act.put, List.setIfInBounds_toArray, List.set_cons_zero, List.set_cons_succ]; refine hK _ ?_; clear hK K))
  clear a0 a1 b0 b1
  have Y := (Gr.refl w1).drew
  generalize w1.drew = v at Y ⊢
  refine wpSeqP_call rfl rfl (fun K hK => ?_)
  go_simp
  have ctr := c16 v
  with_reducible refine Calls.mono ctr ?_
  clear ctr
  rintro e w2 ⟨rfl, rfl⟩
  go_simp
  refine hK _ _ Y ?_
  clear hK K
  refine wpSeqP_call rfl rfl (fun K hK => ?_)
  go_simp
  have ctr := c32 v
  with_reducible refine Calls.mono ctr ?_
  clear ctr
  rintro e w2 ⟨rfl, rfl⟩
  go_simp
  refine hK _ _ Y ?_
  clear hK K
  refine wpSeqP_call rfl rfl (fun K hK => ?_)
  go_simp
  refine hK _ _ (Y.alloc _) ?_
  clear hK K
  have Bo := Blk.new v 3 #[.int .i64 p, .int .i64 q]
  refine wpSeqP_call rfl rfl (fun K hK => ?_)
  go_simp
  have ctr := or_calls r HR.out Bo
  with_reducible refine Calls.mono ctr ?_
  clear ctr
  rintro e w2 ⟨rfl, rfl⟩
  go_simp
  refine hK _ _ (Y.alloc _) ?_
  clear hK K
  iterate 1 (refine wpSeqP_quiet rfl rfl ?_; apply Exists.intro; refine ⟨?_, ?_⟩; (intro W hW; go_simp; try with_reducible rfl); (intro K hK; simp only [Act.put, List.setIfInBounds_toArray, List.set_cons_zero, List.set_cons_succ]; refine hK _ ?_; clear hK K))
  refine wpSeqP_end ?_
  go_wp2_with fail
  go_ret
  exact ⟨rfl, X.trans (Y.alloc _)⟩
/-- The comparing that is handed to the sort. -/
theorem order_calls (w : World) (x y : Rc) :
    Calls Tryd.prog 49 #[.agg (rcA x), .agg (rcA y)] w fun e w' => e = .returned (.int .i64 (cmpR x y)) ∧ Gr w w' := by
  obtain ⟨a, b, u1, l1⟩ := x
  obtain ⟨c, d, u2, l2⟩ := y
  unfold rcA
  show Calls _ _ _ _ fun e w' => e = .returned (.int .i64 (cmpK a b c d)) ∧ Gr w w'
  simp only
  have X := ((Gr.refl w).alloc (.cells #[.int .u16 a, .int .u32 b, .int .u32 u1, .int .u32 l1] 37)).alloc (.cells #[.int .u16 c, .int .u32 d, .int .u32 u2, .int .u32 l2] 37)
  have B1 := (Blk.new w 37 #[.int .u16 a, .int .u32 b, .int .u32 u1, .int .u32 l1]).alloc (.cells #[.int .u16 c, .int .u32 d, .int .u32 u2, .int .u32 l2] 37)
  have B2 := Blk.new (w.alloc (.cells #[.int .u16 a, .int .u32 b, .int .u32 u1, .int .u32 l1] 37)) 37 #[.int .u16 c, .int .u32 d, .int .u32 u2, .int .u32 l2]
  rw [World.size_alloc] at B2
  go_enter Tryd.func49, Tryd.ntmps49
  go_upto_region 1 with (fail)
  generalize (w.alloc (.cells #[.int .u16 a, .int .u32 b, .int .u32 u1, .int .u32 l1] 37)).alloc (.cells #[.int .u16 c, .int .u32 d, .int .u32 u2, .int .u32 l2] 37) = w1 at *
  have a0 : ∀ W, Gr w1 W → W.cell? ⟨w.heap.size, 0, none⟩ = some (.int .u16 a) := fun W h => (B1.extN_ h.ext).cell 0
  have b0 : ∀ W, Gr w1 W → W.cell? ⟨w.heap.size + 1, 0, none⟩ = some (.int .u16 c) := fun W h => (B2.extN_ h.ext).cell 0
  have a1 : ∀ W, Gr w1 W → W.cell? ⟨w.heap.size, 1, none⟩ = some (.int .u32 b) := fun W h => (B1.extN_ h.ext).cell 1
  have b1 : ∀ W, Gr w1 W → W.cell? ⟨w.heap.size + 1, 1, none⟩ = some (.int .u32 d) := fun W h => (B2.extN_ h.ext).cell 1
  have a2 : ∀ W, Gr w1 W → W.cell? ⟨w.heap.size, 2, none⟩ = some (.int .u32 u1) := fun W h => (B1.extN_ h.ext).cell 2
  have b2 : ∀ W, Gr w1 W → W.cell? ⟨w.heap.size + 1, 2, none⟩ = some (.int .u32 u2) := fun W h => (B2.extN_ h.ext).cell 2
  have a3 : ∀ W, Gr w1 W → W.cell? ⟨w.heap.size, 3, none⟩ = some (.int .u32 l1) := fun W h => (B1.extN_ h.ext).cell 3
  have b3 : ∀ W, Gr w1 W → W.cell? ⟨w.heap.size + 1, 3, none⟩ = some (.int .u32 l2) := fun W h => (B2.extN_ h.ext).cell 3
  clear B1 B2
  refine wp_region_seqP (Gr w1) ((0, true) :: (2, true) :: (1, false) :: (3, false) :: (4, false) :: (5, true) :: []) (by kernel_rfl) (by kernel_rfl) (by kernel_rfl) (Gr.refl w1).drew ?_
  iterate 2 (refine wpSeqP_quiet rfl rfl ?_; apply Exists.intro; refine ⟨?_, ?_⟩; (intro W hW; have u0 := a0 W hW; have u1 := a1 W hW; have u2 := a2 W hW; have u3 := a3 W hW; have v0 := b0 W hW; have v1 := b1 W hW; have v2 := b2 W hW; have v3 := b3 W hW; go_simp; try with_reducible rfl); (intro K hK; simp only [Act.put, List.setIfInBounds_toArray, List.set_cons_zero, List.set_cons_succ]; refine hK _ ?_; clear hK K))
  clear a0 a1 a2 a3 b0 b1 b2 b3
  have Y := (Gr.refl w1).drew
  generalize w1.drew = v at Y ⊢
  refine wpSeqP_call rfl rfl (fun K hK => ?_)
  go_simp
  have ctr := key_calls v a b u1 l1
  with_reducible refine Calls.mono ctr ?_
  clear ctr
  rintro e w2 ⟨rfl, x2⟩
  go_simp
  refine hK _ _ (Y.trans x2) ?_
  clear hK K
  refine wpSeqP_call rfl rfl (fun K hK => ?_)
  go_simp
  have ctr := key_calls w2 c d u2 l2
  with_reducible refine Calls.mono ctr ?_
  clear ctr
  rintro e w3 ⟨rfl, x3⟩
  go_simp
  refine hK _ _ ((Y.trans x2).trans x3) ?_
  clear hK K
  refine wpSeqP_call rfl rfl (fun K hK => ?_)
  go_simp
  have ctr := compare_calls w3 a b c d
  with_reducible refine Calls.mono ctr ?_
  clear ctr
  rintro e w4 ⟨rfl, x4⟩
  go_simp
  refine hK _ _ (((Y.trans x2).trans x3).trans x4) ?_
  clear hK K
  iterate 1 (refine wpSeqP_quiet rfl rfl ?_; apply Exists.intro; refine ⟨?_, ?_⟩; (intro W hW; go_simp; try with_reducible rfl); (intro K hK; simp only [Act.put, List.setIfInBounds_toArray, List.set_cons_zero, List.set_cons_succ]; refine hK _ ?_; clear hK K))
  refine wpSeqP_end ?_
  go_wp2_with fail
  go_ret
  exact ⟨rfl, X.trans (((Y.trans x2).trans x3).trans x4)⟩

/-! ### which records are asked for -/
/-- A function that tells of every record, in every world that has grown, whether it is one. -/
structure Tells (w : World) (g : Nat) (cb : Array Value) (p : Rc → Bool) : Prop where
  enters : ∀ args W, (callFunc g args).run Tryd.prog W = .ok (.enter g args) W
  calls : ∀ r W, Ext Non w W → Calls Tryd.prog g (#[.agg (rcA r)] ++ cb) W fun e w' => e = .returned (.bool (p r)) ∧ Ext Non W w'
theorem tells_all (w : World) : Tells w 35 #[] fun _ => true where
  enters := enters_of Tryd.func35 (by kernel_rfl) rfl
  calls r W _ := by
    show Calls _ _ #[.agg (rcA r)] _ _
    obtain ⟨a, b, u1, l1⟩ := r
    unfold rcA
    simp only
    go_enter Tryd.func35, Tryd.ntmps35
    go_wp2
    go_ret
    exact ⟨rfl, (Ext.refl _ _).alloc _⟩
theorem tells_valid {w : World} {g e : Nat} (B : Blk w g 35 #[.int .u32 e]) : Tells w 34 #[.pointer (some ⟨g, 0, none⟩)] fun r => r.has e where
  enters := enters_of Tryd.func34 (by kernel_rfl) rfl
  calls r W hx := by
    show Calls _ _ #[.agg (rcA r), .pointer (some ⟨g, 0, none⟩)] _ _
    obtain ⟨a, b, u1, l1⟩ := r
    have X := (Ext.refl Non W).alloc (.cells #[.int .u16 a, .int .u32 b, .int .u32 u1, .int .u32 l1] 37)
    have c0 : (W.alloc (.cells #[.int .u16 a, .int .u32 b, .int .u32 u1, .int .u32 l1] 37)).cell? ⟨g, 0, none⟩ = some (.int .u32 e) := (B.extN_ (hx.transN X)).cell 0
    have ctr := fun V => has_calls V a b u1 l1 e _ rfl
    unfold rcA Rc.has
    simp only
    generalize decide (b ≤ e ∧ e ≤ u1) = z at *
    go_enter Tryd.func34, Tryd.ntmps34
    go_wp2_with (go_at_call 29; refine (ctr _).mono ?_; rintro e' w1 ⟨rfl, x1⟩)
    go_ret
    exact ⟨rfl, ((Ext.refl _ _).alloc _).transN x1.ext⟩
theorem tells_found {w : World} {g h a e : Nat} (B : Blk w g 25 #[.int .u16 a]) (C : Blk w h 35 #[.int .u32 e]) :
    Tells w 33 #[.pointer (some ⟨g, 0, none⟩), .pointer (some ⟨h, 0, none⟩)] fun r => decide (r.ad = a) && r.has e where
  enters := enters_of Tryd.func33 (by kernel_rfl) rfl
  calls r W hx := by
    show Calls _ _ #[.agg (rcA r), .pointer (some ⟨g, 0, none⟩), .pointer (some ⟨h, 0, none⟩)] _ _
    obtain ⟨a', b, u1, l1⟩ := r
    have X := (Ext.refl Non W).alloc (.cells #[.int .u16 a', .int .u32 b, .int .u32 u1, .int .u32 l1] 37)
    have c0 : (W.alloc (.cells #[.int .u16 a', .int .u32 b, .int .u32 u1, .int .u32 l1] 37)).cell? ⟨g, 0, none⟩ = some (.int .u16 a) := (B.extN_ (hx.transN X)).cell 0
    have c1 : (W.alloc (.cells #[.int .u16 a', .int .u32 b, .int .u32 u1, .int .u32 l1] 37)).cell? ⟨h, 0, none⟩ = some (.int .u32 e) := (C.extN_ (hx.transN X)).cell 0
    have ctr := fun V => has_calls V a' b u1 l1 e _ rfl
    unfold rcA Rc.has
    simp only
    generalize decide (b ≤ e ∧ e ≤ u1) = z at *
    go_enter Tryd.func33, Tryd.ntmps33
    by_cases ha : a' = a
    · subst ha
      simp only [decide_true, Bool.true_and]
      go_wp2_with (go_at_call 29; refine (ctr _).mono ?_; rintro e' w1 ⟨rfl, x1⟩)
      go_ret
      exact ⟨rfl, ((Ext.refl _ _).alloc _).transN x1.ext⟩
    · have i1 : ¬ (a' : Int) = (a : Int) := by omega
      rw [decide_eq_false ha]
      go_wp2_with fail
      go_ret
      exact ⟨rfl, (Ext.refl _ _).alloc _⟩
end Go.Proofs.YtnmpfbffacljfaaDoor
