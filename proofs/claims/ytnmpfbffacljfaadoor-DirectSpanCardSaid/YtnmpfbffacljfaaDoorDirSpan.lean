/- The law DirectSpan: its walk. -/
import Derived.Test.YtnmpfbffacljfaaDoorDir09
namespace Go.Proofs.YtnmpfbffacljfaaDoor
open Go.RowKit

theorem dfnd_one (a f u l b e : Nat) : dfnd [⟨a, f, u, l⟩] b e = if a = b ∧ f ≤ e ∧ e ≤ u then some ⟨a, f, u, l⟩ else none := by
  unfold dfnd Rc.has
  rw [List.filter_cons]
  by_cases h : a = b ∧ f ≤ e ∧ e ≤ u
  · rw [if_pos h, if_pos (by simp [h])]; rfl
  · rw [if_neg h, if_neg (by simpa using fun h1 h2 h3 => h ⟨h1, h2, h3⟩)]; rfl
set_option maxRecDepth 100000 in
set_option maxHeartbeats 4000000 in
theorem span_walk (r : Rc) (hr : r.ok) (e : Nat) (he : e < 4294967296) (w : World) (G : Glob w) (hw2 : 2 ≤ w.heap.size) :
    Calls Tryd.prog 7 #[.agg (rcA r), .int .u32 e] w fun e' w' => e' = .returned (.bool true) ∧ Below w.heap.size w w' := by
  obtain ⟨ra, rf, ru, rn⟩ := r
  have k2 : rf < 4294967296 := hr.fr
  have k3 : ru < 4294967296 := hr.up
  have k4 : rn < 4294967296 := hr.ln
  unfold rcA
  simp only
  have X1 := (Ext.refl Non w).alloc (.cells #[.int .u16 ra, .int .u32 rf, .int .u32 ru, .int .u32 rn] 37)
  have B1 := Blk.new w 37 #[.int .u16 ra, .int .u32 rf, .int .u32 ru, .int .u32 rn]
  go_enter Tryd.func7, Tryd.ntmps7
  go_wp2_with fail
  have ctr := shown_calls (G.extN X1) (by rw [World.size_alloc]; omega)
  with_reducible refine Calls.mono ctr ?_
  clear ctr
  rintro e w2 ⟨rfl, x2⟩
  go_wp2_with fail
  have ctr := new_calls w2
  with_reducible refine Calls.mono ctr ?_
  clear ctr
  rintro e w3 ⟨d, rfl, H3, x3⟩
  have X3 := (X1.transN x2).transN x3
  have B3 := (B1.extN_ x2).extN_ x3
  have hlt2 : w.heap.size + 1 ≤ w2.heap.size := by have := x2.size; rw [World.size_alloc] at this; exact this
  have hlt3 := x3.size
  obtain ⟨D, hD⟩ : ∃ D : Nat → Prop, D = fun k => w2.heap.size ≤ k ∧ k < w3.heap.size := ⟨_, rfl⟩
  rw [← hD] at H3
  clear X1 B1 x2 x3
  obtain ⟨q, hq⟩ : ∃ q, ra % 16 = q := ⟨_, rfl⟩
  have hq16 : q < 16 := by omega
  have i1 : Int.tmod (ra : Int) 16 = (q : Int) := by rw [Int.tmod_eq_emod_of_nonneg (by omega)]; omega
  have i1b : IntKind.u16.wrap (q : Int) = (q : Int) := by rw [IntKind.wrap_u16]; omega
  have i2 : IntKind.u16.wrap ((q : Int) + 1) = (q : Int) + 1 := by rw [IntKind.wrap_u16]; omega
  obtain ⟨q2, hq2⟩ : ∃ q2, (q + 1) % 16 = q2 := ⟨_, rfl⟩
  have i3 : Int.tmod ((q : Int) + 1) 16 = (q2 : Int) := by rw [Int.tmod_eq_emod_of_nonneg (by omega)]; omega
  have i3b : IntKind.u16.wrap (q2 : Int) = (q2 : Int) := by rw [IntKind.wrap_u16]; omega
  obtain ⟨c0, c1, c2, c3⟩ := rc_cells B3
  have f0 := B3.frozen 0
  go_upto_region 6 with (fail)
  have B4 := B3.set_ 0 (.int .u16 q)
  simp only [List.setIfInBounds_toArray, List.set_cons_zero] at B4
  have H4 := H3.ext ((Ext.refl (One w.heap.size) w3).setCell (p := ⟨w.heap.size, 0, none⟩) (.inr rfl) (.int .u16 q)) (fun k hk h => by rw [hD] at hk; have h : k = w.heap.size := h; omega)
  have X4 := X3.setCell (p := ⟨w.heap.size, 0, none⟩) (.inl (Nat.le_refl _)) (.int .u16 q)
  clear H3 X3 B3 c0 c1 c2 c3 f0
  generalize w3.setCell ⟨w.heap.size, 0, none⟩ (.int .u16 q) = w4 at *
  obtain ⟨c0, c1, c2, c3⟩ := rc_cells B4
  have hok : (⟨q, rf, ru, rn⟩ : Rc).ok := ⟨by show q < 65536; omega, k2, k3, k4⟩
  have hDw : ∀ i, i < w.heap.size → D i → Non i := fun i hi h => by rw [hD] at h; omega
  have hDg : ¬ D w.heap.size := fun h => by rw [hD] at h; omega
  clear hr
  by_cases hfu : ru < rf
  · have j1 : (ru : Int) < (rf : Int) := by omega
    have hf : (⟨q, rf, ru, rn⟩ : Rc).fine = false := by
      simp only [Rc.fine, decide_eq_false_iff_not]
      omega
    have hde : dire [] ⟨q, rf, ru, rn⟩ = 1 := by unfold dire; rw [if_neg (by rw [hf]; simp)]
    go_wp2_with (first | (go_at_call 15; refine (add_i H4 q rf ru rn hok 1 hde [] (by unfold dirl; rw [hde]; rfl) rfl rfl rfl rfl rfl).mono ?_; rintro e w5 ⟨rfl, H5, x5⟩) | (go_at_call 18; refine (len_calls H5 0 rfl).mono ?_; rintro e w6 ⟨rfl, rfl⟩))
    go_ret
    exact ⟨rfl, (X4.trans x5 hDw).belowN⟩
  · have j1 : ¬ (ru : Int) < (rf : Int) := by omega
    have hf : (⟨q, rf, ru, rn⟩ : Rc).fine = true := by
      simp only [Rc.fine, decide_eq_true_eq]
      omega
    have hde : dire [] ⟨q, rf, ru, rn⟩ = 0 := dire_of hf (by simp) (by simp)
    have hdl : dirl [] ⟨q, rf, ru, rn⟩ = [⟨q, rf, ru, rn⟩] := by unfold dirl; rw [hde]; rfl
    go_wp2_with fail
    have ctr := add_i H4 q rf ru rn hok 0 hde [⟨q, rf, ru, rn⟩] hdl rfl rfl rfl rfl rfl
    with_reducible refine Calls.mono ctr ?_
    clear ctr
    rintro e w5 ⟨rfl, H5, x5⟩
    have X5 := X4.trans x5 hDw
    have B5 := B4.ext x5 hDg
    obtain ⟨c0, c1, c2, c3⟩ := rc_cells B5
    have f1 : dfnd [⟨q, rf, ru, rn⟩] q2 e = none := by rw [dfnd_one, if_neg (by omega)]
    have f2 : dfnd [⟨q, rf, ru, rn⟩] q rf = some ⟨q, rf, ru, rn⟩ := by rw [dfnd_one, if_pos (by omega)]
    have f3 : dfnd [⟨q, rf, ru, rn⟩] q ru = some ⟨q, rf, ru, rn⟩ := by rw [dfnd_one, if_pos (by omega)]
    clear H4 B4 x5 X4
    by_cases hin : rf ≤ e ∧ e ≤ ru
    · have f0 : dfnd [⟨q, rf, ru, rn⟩] q e = some ⟨q, rf, ru, rn⟩ := by rw [dfnd_one, if_pos ⟨rfl, hin⟩]
      have hv : [(⟨q, rf, ru, rn⟩ : Rc)].filter (fun r => r.has e) = [⟨q, rf, ru, rn⟩] := by rw [List.filter_cons, if_pos (by simp [Rc.has, hin])]; rfl
      have j2 : (rf : Int) ≤ (e : Int) := by omega
      have j3 : (e : Int) ≤ (ru : Int) := by omega
      go_wp2_with fail
      have ctr := find_some H5 q e q rf ru rn f0 rfl rfl
      with_reducible refine Calls.mono ctr ?_
      clear ctr
      rintro e w6 ⟨rfl, x6⟩
      go_upto_region 10 with (fail)
      have B8 := Blk.new w6 37 #[.int .u16 q, .int .u32 rf, .int .u32 ru, .int .u32 rn]
      have x7 := x6.alloc (.cells #[.int .u16 q, .int .u32 rf, .int .u32 ru, .int .u32 rn] 37)
      have H7 := H5.extN x7
      have B7 := B5.extN_ x7
      have X7 := X5.transN x7
      generalize w6.alloc (.cells #[.int .u16 q, .int .u32 rf, .int .u32 ru, .int .u32 rn] 37) = w7 at *
      obtain ⟨c0, c1, c2, c3⟩ := rc_cells B7
      clear H5 B5 X5
      generalize w6.heap.size = g8 at *
      go_wp2_with fail
      have ctr := find_none H7 q2 e f1 rfl rfl
      with_reducible refine Calls.mono ctr ?_
      clear ctr
      rintro e w8 ⟨rfl, x8⟩
      go_upto_region 11 with (fail)
      have x9 := x8.alloc (.cells #[.int .u16 0, .int .u32 0, .int .u32 0, .int .u32 0] 37)
      have H9 := H7.extN x9
      have B9 := B7.extN_ x9
      have X9 := X7.transN x9
      generalize w8.alloc (.cells #[.int .u16 0, .int .u32 0, .int .u32 0, .int .u32 0] 37) = w9 at *
      obtain ⟨c0, c1, c2, c3⟩ := rc_cells B9
      clear H7 B7 X7
      replace B8 := B8.extN_ x9
      go_wp2_with fail
      have ctr := find_some H9 q rf q rf ru rn f2 rfl rfl
      with_reducible refine Calls.mono ctr ?_
      clear ctr
      rintro e wa ⟨rfl, xa⟩
      go_upto_region 12 with (fail)
      have xb := xa.alloc (.cells #[.int .u16 q, .int .u32 rf, .int .u32 ru, .int .u32 rn] 37)
      have Hb := H9.extN xb
      have Bb := B9.extN_ xb
      have Xb := X9.transN xb
      generalize wa.alloc (.cells #[.int .u16 q, .int .u32 rf, .int .u32 ru, .int .u32 rn] 37) = wb at *
      obtain ⟨c0, c1, c2, c3⟩ := rc_cells Bb
      clear H9 B9 X9
      replace B8 := B8.extN_ xb
      go_wp2_with fail
      have ctr := find_some Hb q ru q rf ru rn f3 rfl rfl
      with_reducible refine Calls.mono ctr ?_
      clear ctr
      rintro e wc ⟨rfl, xc⟩
      go_upto_region 13 with (fail)
      have xd := xc.alloc (.cells #[.int .u16 q, .int .u32 rf, .int .u32 ru, .int .u32 rn] 37)
      have Hd := Hb.extN xd
      have Bd := Bb.extN_ xd
      have Xd := Xb.transN xd
      generalize wc.alloc (.cells #[.int .u16 q, .int .u32 rf, .int .u32 ru, .int .u32 rn] 37) = wd at *
      obtain ⟨c0, c1, c2, c3⟩ := rc_cells Bd
      clear Hb Bb Xb
      replace B8 := B8.extN_ xd
      obtain ⟨u0, u1, u2, u3⟩ := rc_cells B8
      go_wp2_with (go_at_call 22; refine (valid_i Hd e _ hv 1 rfl rfl).mono ?_; rintro e w1 ⟨Av, cv, rfl, Ov, xv⟩)
      go_ret
      exact ⟨rfl, (Xd.transN xv).belowN⟩
    · have f0 : dfnd [⟨q, rf, ru, rn⟩] q e = none := by rw [dfnd_one, if_neg (fun h => hin h.2)]
      have hv : [(⟨q, rf, ru, rn⟩ : Rc)].filter (fun r => r.has e) = [] := by rw [List.filter_cons, if_neg (by simpa [Rc.has] using hin)]; rfl
      by_cases h1 : rf ≤ e
      · have j2 : (rf : Int) ≤ (e : Int) := by omega
        have j3 : ¬ (e : Int) ≤ (ru : Int) := by omega
        go_wp2_with fail
        have ctr := find_none H5 q e f0 rfl rfl
        with_reducible refine Calls.mono ctr ?_
        clear ctr
        rintro e w6 ⟨rfl, x6⟩
        go_upto_region 10 with (fail)
        have B8 := Blk.new w6 37 #[.int .u16 0, .int .u32 0, .int .u32 0, .int .u32 0]
        have x7 := x6.alloc (.cells #[.int .u16 0, .int .u32 0, .int .u32 0, .int .u32 0] 37)
        have H7 := H5.extN x7
        have B7 := B5.extN_ x7
        have X7 := X5.transN x7
        generalize w6.alloc (.cells #[.int .u16 0, .int .u32 0, .int .u32 0, .int .u32 0] 37) = w7 at *
        obtain ⟨c0, c1, c2, c3⟩ := rc_cells B7
        clear H5 B5 X5
        generalize w6.heap.size = g8 at *
        go_wp2_with fail
        have ctr := find_none H7 q2 e f1 rfl rfl
        with_reducible refine Calls.mono ctr ?_
        clear ctr
        rintro e w8 ⟨rfl, x8⟩
        go_upto_region 11 with (fail)
        have x9 := x8.alloc (.cells #[.int .u16 0, .int .u32 0, .int .u32 0, .int .u32 0] 37)
        have H9 := H7.extN x9
        have B9 := B7.extN_ x9
        have X9 := X7.transN x9
        generalize w8.alloc (.cells #[.int .u16 0, .int .u32 0, .int .u32 0, .int .u32 0] 37) = w9 at *
        obtain ⟨c0, c1, c2, c3⟩ := rc_cells B9
        clear H7 B7 X7
        replace B8 := B8.extN_ x9
        go_wp2_with fail
        have ctr := find_some H9 q rf q rf ru rn f2 rfl rfl
        with_reducible refine Calls.mono ctr ?_
        clear ctr
        rintro e wa ⟨rfl, xa⟩
        go_upto_region 12 with (fail)
        have xb := xa.alloc (.cells #[.int .u16 q, .int .u32 rf, .int .u32 ru, .int .u32 rn] 37)
        have Hb := H9.extN xb
        have Bb := B9.extN_ xb
        have Xb := X9.transN xb
        generalize wa.alloc (.cells #[.int .u16 q, .int .u32 rf, .int .u32 ru, .int .u32 rn] 37) = wb at *
        obtain ⟨c0, c1, c2, c3⟩ := rc_cells Bb
        clear H9 B9 X9
        replace B8 := B8.extN_ xb
        go_wp2_with fail
        have ctr := find_some Hb q ru q rf ru rn f3 rfl rfl
        with_reducible refine Calls.mono ctr ?_
        clear ctr
        rintro e wc ⟨rfl, xc⟩
        go_upto_region 13 with (fail)
        have xd := xc.alloc (.cells #[.int .u16 q, .int .u32 rf, .int .u32 ru, .int .u32 rn] 37)
        have Hd := Hb.extN xd
        have Bd := Bb.extN_ xd
        have Xd := Xb.transN xd
        generalize wc.alloc (.cells #[.int .u16 q, .int .u32 rf, .int .u32 ru, .int .u32 rn] 37) = wd at *
        obtain ⟨c0, c1, c2, c3⟩ := rc_cells Bd
        clear Hb Bb Xb
        replace B8 := B8.extN_ xd
        obtain ⟨u0, u1, u2, u3⟩ := rc_cells B8
        go_wp2_with (go_at_call 22; refine (valid_i Hd e _ hv 0 rfl rfl).mono ?_; rintro e w1 ⟨Av, cv, rfl, Ov, xv⟩)
        go_ret
        exact ⟨rfl, (Xd.transN xv).belowN⟩
      · have j2 : ¬ (rf : Int) ≤ (e : Int) := by omega
        go_wp2_with fail
        have ctr := find_none H5 q e f0 rfl rfl
        with_reducible refine Calls.mono ctr ?_
        clear ctr
        rintro e w6 ⟨rfl, x6⟩
        go_upto_region 10 with (fail)
        have B8 := Blk.new w6 37 #[.int .u16 0, .int .u32 0, .int .u32 0, .int .u32 0]
        have x7 := x6.alloc (.cells #[.int .u16 0, .int .u32 0, .int .u32 0, .int .u32 0] 37)
        have H7 := H5.extN x7
        have B7 := B5.extN_ x7
        have X7 := X5.transN x7
        generalize w6.alloc (.cells #[.int .u16 0, .int .u32 0, .int .u32 0, .int .u32 0] 37) = w7 at *
        obtain ⟨c0, c1, c2, c3⟩ := rc_cells B7
        clear H5 B5 X5
        generalize w6.heap.size = g8 at *
        go_wp2_with fail
        have ctr := find_none H7 q2 e f1 rfl rfl
        with_reducible refine Calls.mono ctr ?_
        clear ctr
        rintro e w8 ⟨rfl, x8⟩
        go_upto_region 11 with (fail)
        have x9 := x8.alloc (.cells #[.int .u16 0, .int .u32 0, .int .u32 0, .int .u32 0] 37)
        have H9 := H7.extN x9
        have B9 := B7.extN_ x9
        have X9 := X7.transN x9
        generalize w8.alloc (.cells #[.int .u16 0, .int .u32 0, .int .u32 0, .int .u32 0] 37) = w9 at *
        obtain ⟨c0, c1, c2, c3⟩ := rc_cells B9
        clear H7 B7 X7
        replace B8 := B8.extN_ x9
        go_wp2_with fail
        have ctr := find_some H9 q rf q rf ru rn f2 rfl rfl
        with_reducible refine Calls.mono ctr ?_
        clear ctr
        rintro e wa ⟨rfl, xa⟩
        go_upto_region 12 with (fail)
        have xb := xa.alloc (.cells #[.int .u16 q, .int .u32 rf, .int .u32 ru, .int .u32 rn] 37)
        have Hb := H9.extN xb
        have Bb := B9.extN_ xb
        have Xb := X9.transN xb
        generalize wa.alloc (.cells #[.int .u16 q, .int .u32 rf, .int .u32 ru, .int .u32 rn] 37) = wb at *
        obtain ⟨c0, c1, c2, c3⟩ := rc_cells Bb
        clear H9 B9 X9
        replace B8 := B8.extN_ xb
        go_wp2_with fail
        have ctr := find_some Hb q ru q rf ru rn f3 rfl rfl
        with_reducible refine Calls.mono ctr ?_
        clear ctr
        rintro e wc ⟨rfl, xc⟩
        go_upto_region 13 with (fail)
        have xd := xc.alloc (.cells #[.int .u16 q, .int .u32 rf, .int .u32 ru, .int .u32 rn] 37)
        have Hd := Hb.extN xd
        have Bd := Bb.extN_ xd
        have Xd := Xb.transN xd
        generalize wc.alloc (.cells #[.int .u16 q, .int .u32 rf, .int .u32 ru, .int .u32 rn] 37) = wd at *
        obtain ⟨c0, c1, c2, c3⟩ := rc_cells Bd
        clear Hb Bb Xb
        replace B8 := B8.extN_ xd
        obtain ⟨u0, u1, u2, u3⟩ := rc_cells B8
        go_wp2_with (go_at_call 22; refine (valid_i Hd e _ hv 0 rfl rfl).mono ?_; rintro e w1 ⟨Av, cv, rfl, Ov, xv⟩)
        go_ret
        exact ⟨rfl, (Xd.transN xv).belowN⟩
end Go.Proofs.YtnmpfbffacljfaaDoor
