/- The law DirectRow: its walk. -/
import Derived.Test.YtnmpfbffacljfaaDoorDirW
import Derived.Test.YtnmpfbffacljfaaDoorSeqS
import Derived.Deep.DeepCutAuto
namespace Go.Proofs.YtnmpfbffacljfaaDoor
open Go.RowKit

/-- Spans of a node, all behind b and ahead of p. -/
structure Spans (a b p : Nat) (S : List Rc) : Prop where
  sound : Sound S
  ad : ∀ r ∈ S, r.ad = a
  fr : ∀ r ∈ S, b < r.fr ∧ r.fr ≤ r.up ∧ r.up < p
theorem Spans.nil (a b p : Nat) : Spans a b p [] := ⟨Sound.nil, by simp, by simp⟩
/-- One more, behind all. -/
theorem Spans.more {a b p : Nat} {S : List Rc} (h : Spans a b p S) (hb : b < p) (ha : a < 16) (q : Nat) (hpq : p < q) (hq : q < 4294967296) (i : Nat) (hi : i < 4294967296) (hl : S.length < 64) :
    dire S ⟨a, p, q - 1, i⟩ = 0 ∧ dirl S ⟨a, p, q - 1, i⟩ = S ++ [⟨a, p, q - 1, i⟩] ∧ Spans a b q (S ++ [⟨a, p, q - 1, i⟩]) := by
  have hok : (⟨a, p, q - 1, i⟩ : Rc).ok := ⟨by show a < 65536; omega, by show p < 4294967296; omega, by show q - 1 < 4294967296; omega, hi⟩
  have h0 : dire S ⟨a, p, q - 1, i⟩ = 0 := by
    refine dire_of ?_ (fun x hx => ?_) hl
    · show decide (a < 16 ∧ p ≤ q - 1) = true
      exact decide_eq_true (by omega)
    · have := h.fr x hx
      obtain ⟨xa, xf, xu, xl⟩ := x
      simp only at this
      show (decide (xa = a) && (decide (xf ≤ p ∧ p ≤ xu) || decide (p ≤ xf ∧ xf ≤ q - 1))) = false
      rw [decide_eq_false (show ¬ (xf ≤ p ∧ p ≤ xu) by omega), decide_eq_false (show ¬ (p ≤ xf ∧ xf ≤ q - 1) by omega)]
      simp
  have hin : ins ⟨a, p, q - 1, i⟩ S = S ++ [⟨a, p, q - 1, i⟩] := ins_last fun x hx => by
    have h1 := h.fr x hx
    have h2 := h.ad x hx
    simp only [klt, decide_eq_true_eq]
    omega
  have hd : dirl S ⟨a, p, q - 1, i⟩ = S ++ [⟨a, p, q - 1, i⟩] := by unfold dirl; rw [if_pos h0, hin]
  refine ⟨h0, hd, by rw [← hd]; exact h.sound.dirl hok, fun r hr => ?_, fun r hr => ?_⟩
  · rw [List.mem_append, List.mem_singleton] at hr
    rcases hr with hr | rfl
    · exact h.ad r hr
    · rfl
  · rw [List.mem_append, List.mem_singleton] at hr
    rcases hr with hr | rfl
    · have := h.fr r hr; omega
    · exact ⟨hb, by show p ≤ q - 1; omega, by show q - 1 < q; omega⟩
/-- In a span there is its record, alone. -/
theorem Spans.there {a b p : Nat} {S : List Rc} (h : Spans a b p S) {x : Rc} (hx : x ∈ S) {e : Nat} (h1 : x.fr ≤ e) (h2 : e ≤ x.up) : S.filter (fun r => r.has e) = [x] ∧ dfnd S a e = some x := by
  have hxe : x.has e = true := by simp only [Rc.has, decide_eq_true_eq]; exact ⟨h1, h2⟩
  have hm : x ∈ S.filter (fun r => r.has e) := List.mem_filter.2 ⟨hx, hxe⟩
  have hr := h.sound.rise e
  have ha : ∀ r ∈ S.filter (fun r => r.has e), r.ad = a := fun r hr => h.ad r (List.mem_filter.1 hr).1
  have e1 : S.filter (fun r => r.has e) = [x] := by
    generalize S.filter (fun r => r.has e) = l at *
    match l, hm, hr, ha with
    | [y], hm, _, _ => rw [List.mem_singleton.1 hm]
    | y :: z :: l, _, hr, ha =>
      rw [List.pairwise_cons] at hr
      have := hr.1 z (by simp)
      rw [ha y (by simp), ha z (by simp)] at this
      omega
  refine ⟨e1, ?_⟩
  rw [dfnd_valid, e1, List.filter_cons, if_pos (by rw [h.ad x hx]; simp)]
  rfl
theorem Spans.none {a b p : Nat} {S : List Rc} (h : Spans a b p S) {e : Nat} (he : e ≤ b ∨ p ≤ e) : dfnd S a e = none := by
  unfold dfnd
  have : (S.filter fun r => decide (r.ad = a) && r.has e) = [] := List.filter_eq_nil_iff.2 fun r hr hc => by
    have := h.fr r hr
    simp only [Rc.has, Bool.and_eq_true, decide_eq_true_eq] at hc
    omega
  rw [this]
  rfl
/-- Who is there already is told so. -/
theorem Spans.again {a b p : Nat} {S : List Rc} (h : Spans a b p S) (ha : a < 16) {x : Rc} (hx : x ∈ S) : dire S ⟨a, x.fr, x.fr, 0⟩ = 12 ∧ dirl S ⟨a, x.fr, x.fr, 0⟩ = S := by
  have hf : (⟨a, x.fr, x.fr, 0⟩ : Rc).fine = true := by
    show decide (a < 16 ∧ x.fr ≤ x.fr) = true
    exact decide_eq_true ⟨ha, Nat.le_refl _⟩
  have hc : S.any (clash · ⟨a, x.fr, x.fr, 0⟩) = true := by
    rw [List.any_eq_true]
    refine ⟨x, hx, ?_⟩
    have h1 := h.fr x hx
    have h2 := h.ad x hx
    obtain ⟨xa, xf, xu, xl⟩ := x
    show (decide (xa = a) && (decide (xf ≤ xf ∧ xf ≤ xu) || decide (xf ≤ xf ∧ xf ≤ xf))) = true
    have h2 : xa = a := h2
    simp [h2]
  have h0 : dire S ⟨a, x.fr, x.fr, 0⟩ = 12 := by unfold dire; rw [if_pos hf, if_pos hc]
  exact ⟨h0, by unfold dirl; rw [h0]; rfl⟩
set_option maxRecDepth 100000 in
set_option maxHeartbeats 4000000 in
theorem row_walk (w : World) (b : Nat) (hb : b < 65536) (A : Option Addr) (n c : Nat) (l : List UInt8) (hl : l.length = n) (Dl : Nat → Prop) (R : Rd w Dl A (bvs l)) (ad0 : Nat) (had : ad0 < 256) (G : Glob w) (hw2 : 2 ≤ w.heap.size) :
    Calls Tryd.prog 11 #[.int .u16 b, .slice A n c, .int .u8 ad0] w fun e' w' => e' = .returned (.bool true) ∧ Below w.heap.size w w' := by
  go_enter Tryd.func11, Tryd.ntmps11
  go_wp2_with fail
  have ctr := shown_calls G hw2
  with_reducible refine Calls.mono ctr ?_
  clear ctr
  rintro e w1 ⟨rfl, X1⟩
  go_wp2_with fail
  have ctr := new_calls w1
  with_reducible refine Calls.mono ctr ?_
  clear ctr
  rintro e w2 ⟨d, rfl, H2, x2⟩
  have X2 := X1.transN x2
  have hs1 := X1.size
  obtain ⟨D, hD⟩ : ∃ D : Nat → Prop, D = fun k => w1.heap.size ≤ k ∧ k < w2.heap.size := ⟨_, rfl⟩
  rw [← hD] at H2
  have hDw : ∀ i, i < w.heap.size → D i → Non i := fun i hi h => by rw [hD] at h; omega
  have hDb : ∀ g, D g → g < w2.heap.size := fun g h => by rw [hD] at h; exact h.2
  have hs2 := X2.size
  clear X1 x2
  obtain ⟨a, ha⟩ : ∃ a, ad0 % 16 = a := ⟨_, rfl⟩
  have ha16 : a < 16 := by omega
  have j1 : Int.tmod (ad0 : Int) 16 = (a : Int) := by rw [Int.tmod_eq_emod_of_nonneg (by omega)]; omega
  have j2 : IntKind.u8.wrap (a : Int) = (a : Int) := by rw [IntKind.wrap_u8]; omega
  have j3 : IntKind.u16.wrap (a : Int) = (a : Int) := by rw [IntKind.wrap_u16]; omega
  have j4 : IntKind.u32.wrap (b : Int) = (b : Int) := by rw [IntKind.wrap_u32]; omega
  have j5 : IntKind.u32.wrap ((b : Int) + 1) = (b : Int) + 1 := by rw [IntKind.wrap_u32]; omega
  clear ha
  go_wp2_with fail
  go_loopw [10, 11, 12] (fun y s z wr => ∃ (k p : Nat) (S : List Rc) (Ao : Option Addr) (co : Nat), k ≤ n ∧ k ≤ 30 ∧ z = .int .i64 k ∧ y = .int .u32 p ∧ b < p ∧ p ≤ b + 1 + 8 * k ∧ s = .slice Ao S.length co ∧ S.length = k ∧ OwR wr w2.heap.size Ao co S ∧ Di wr D d S ∧ Spans a b p S ∧ Ext Non w wr ∧ w2.heap.size ≤ wr.heap.size) (fun _ _ z _ => n - (intOf z).toNat)
  case atStart => exact ⟨0, b + 1, [], none, 0, Nat.zero_le _, by omega, rfl, by congr 1, by omega, by omega, rfl, rfl, OwO.nil _ _, H2, Spans.nil _ _ _, X2, Nat.le_refl _⟩
  case round =>
    clear H2 X2
    obtain ⟨k, p, S, Ao, co, hk, hk30, rfl, rfl, hbp, hp8, rfl, hSk, O, H, hSp, X, hwr⟩ := hrel
    rw [hSk]
    obtain ⟨bb, hbb⟩ : ∃ bb : Bool, (bb = true ∧ (k : Int) < (n : Int) ∧ (k : Int) < 30) ∨ (bb = false ∧ ¬ (k : Int) < (n : Int)) ∨ (bb = false ∧ (k : Int) < (n : Int) ∧ ¬ (k : Int) < 30) := by
      by_cases h1 : k < n
      · by_cases h2 : k < 30
        · exact ⟨true, .inl ⟨rfl, by omega, by omega⟩⟩
        · exact ⟨false, .inr (.inr ⟨rfl, by omega, by omega⟩)⟩
      · exact ⟨false, .inr (.inl ⟨rfl, by omega⟩)⟩
    go_upto_region 9 with (fail)
    go_cut [40] (fun s wc => s = .bool bb ∧ wr = wc)
    case first =>
      rcases hbb with ⟨rfl, h1, h2⟩ | ⟨rfl, h1⟩ | ⟨rfl, h1, h2⟩
      all_goals
        go_wp2_with fail
        go_meet
        case rel => exact ⟨rfl, rfl⟩
    case rest =>
      obtain ⟨rfl, rfl⟩ := hcut
      cases bb
      case true =>
        have hkn : k < n := by rcases hbb with ⟨_, h1, _⟩ | ⟨h, _⟩ | ⟨h, _⟩; omega; cases h; cases h
        have hkn2 : (k : Int) < (n : Int) := by omega
        have hk60 : (k : Int) < 30 := by rcases hbb with ⟨_, _, h1⟩ | ⟨h, _⟩ | ⟨h, _⟩; exact h1; cases h; cases h
        clear hbb
        obtain ⟨hA, hc⟩ := R.ix (bvs_get l k (by omega))
        have c0 := X.cell hc (fun h => h)
        have h256 := l[k].toNat_lt
        generalize l[k].toNat = v at *
        obtain ⟨g, hg⟩ : ∃ g, v % 8 = g := ⟨_, rfl⟩
        have i1 : Int.tmod (v : Int) 8 = (g : Int) := by rw [Int.tmod_eq_emod_of_nonneg (by omega)]; omega
        have i2 : IntKind.u8.wrap (g : Int) = (g : Int) := by rw [IntKind.wrap_u8]; omega
        have i3 : IntKind.u32.wrap (g : Int) = (g : Int) := by rw [IntKind.wrap_u32]; omega
        have i4 : IntKind.u32.wrap ((g : Int) + 1) = (g : Int) + 1 := by rw [IntKind.wrap_u32]; omega
        have i5 : IntKind.u32.wrap ((p : Int) + ((g : Int) + 1)) = (p : Int) + ((g : Int) + 1) := by rw [IntKind.wrap_u32]; omega
        have i6 : IntKind.u32.wrap ((p : Int) + ((g : Int) + 1) - 1) = (p : Int) + (g : Int) := by rw [IntKind.wrap_u32]; omega
        have i7 : IntKind.u32.wrap (k : Int) = (k : Int) := by rw [IntKind.wrap_u32]; omega
        obtain ⟨h0, h1, h2⟩ := hSp.more hbp ha16 (p + g + 1) (by omega) (by omega) k (by omega) (by omega)
        rw [show p + g + 1 - 1 = p + g by omega] at h0 h1 h2
        have H0 := Lib.hid h0
        have H1 := Lib.hid h1
        have hg8 : g < 8 := by omega
        clear h0 h1 hc hg
        go_upto_region 13 with (fail)
        have B5 := Blk.new wr 37 #[.int .u16 a, .int .u32 p, .int .u32 ((p : Int) + (g : Int)), .int .u32 k]
        have x5 := (Ext.refl Non wr).alloc (.cells #[.int .u16 a, .int .u32 p, .int .u32 ((p : Int) + (g : Int)), .int .u32 k] 37)
        have H5 := H.extN x5
        have O5 := OwO.extN O x5
        have X5 := X.transN x5
        have hs5 := x5.size
        have hg5 : ¬ D wr.heap.size := fun h => by have := hDb _ h; omega
        clear H O X x5 c0
        generalize wr.alloc (.cells #[.int .u16 a, .int .u32 p, .int .u32 ((p : Int) + (g : Int)), .int .u32 k] 37) = w5 at *
        generalize wr.heap.size = g5 at *
        have hok : (⟨a, p, p + g, k⟩ : Rc).ok := ⟨by show a < 65536; omega, by show p < 4294967296; omega, by show p + g < 4294967296; omega, by show k < 4294967296; omega⟩
        have b0 : w5.cell? ⟨g5, 0, none⟩ = some (.int .u16 a) := B5.cell 0
        have b1 : w5.cell? ⟨g5, 1, none⟩ = some (.int .u32 p) := B5.cell 1
        have b2 : w5.cell? ⟨g5, 2, none⟩ = some (.int .u32 ((p : Int) + (g : Int))) := B5.cell 2
        have b3 : w5.cell? ⟨g5, 3, none⟩ = some (.int .u32 k) := B5.cell 3
        go_wp2_with fail
        have ctr := add_i H5 a p (p + g) k hok 0 H0.out (S ++ [⟨a, p, p + g, k⟩]) H1.out rfl rfl (show ((p : Int) + (g : Int)) = ((p + g : Nat) : Int) by omega) rfl rfl
        with_reducible refine Calls.mono ctr ?_
        clear ctr
        rintro e w6 ⟨rfl, H6, x6⟩
        have B6 := B5.ext x6 hg5
        have O6 := OwO.ext O5 x6 (fun g hg h => by have := (O5.lt hg).1; have := hDb _ h; omega)
        have X6 := X5.trans x6 hDw
        have hs6 := x6.size
        clear H5 B5 O5 X5 x6 b0 b1 b2 b3
        have b0 : w6.cell? ⟨g5, 0, none⟩ = some (.int .u16 a) := B6.cell 0
        have b1 : w6.cell? ⟨g5, 1, none⟩ = some (.int .u32 p) := B6.cell 1
        have b2 : w6.cell? ⟨g5, 2, none⟩ = some (.int .u32 ((p : Int) + (g : Int))) := B6.cell 2
        have b3 : w6.cell? ⟨g5, 3, none⟩ = some (.int .u32 k) := B6.cell 3
        have x7 := (Ext.refl Non w6).alloc (.cells #[.int .u16 a, .int .u32 p, .int .u32 ((p : Int) + (g : Int)), .int .u32 k] 37)
        have O7 := OwO.extN O6 x7
        have B7 : Blk (w6.alloc (.cells #[.int .u16 a, .int .u32 p, .int .u32 ((p : Int) + (g : Int)), .int .u32 k] 37)) w6.heap.size 37 (rcA ⟨a, p, p + g, k⟩) := Blk.new w6 _ _
        go_wp2_with (at_builtin; refine wp_apR rfl (.tmp 63) (.tmp 65) rfl k rfl O7 hSk 1 rfl B7 (by omega) (by rw [World.size_alloc]; omega) ?_; intro A8 c8 w8 O8 x8 hob8)
        have hlo : ∀ g, ob Ao = some g → w2.heap.size ≤ g := fun g hg => (O6.lt hg).1
        have hs8 := x8.size
        rw [World.size_alloc] at hs8
        have hX6 := X6.size
        refine ⟨⟨k + 1, p + g + 1, _, A8, c8, by omega, by omega, by go_num, by congr 1, by omega, by omega, by rw [List.length_append, hSk]; rfl, by rw [List.length_append, hSk]; rfl, O8, (H6.extN x7).ext x8 (fun i hi h => by have := hlo i h; have := hDb _ hi; omega), h2, (X6.transN x7).trans x8 (fun i hi h => by have := hlo i h; omega), by omega⟩, by simp [intOf]; omega⟩
      case false =>
        clear hbb
        have hS30 : k ≤ 30 := hk30
        have hSl := hSk
        go_wp2_with fail
        go_loopw [15] (fun z wr => ∃ i : Nat, i ≤ k ∧ z = .int .i64 i ∧ OwR wr w2.heap.size Ao co S ∧ Di wr D d S ∧ Ext Non w wr ∧ w2.heap.size ≤ wr.heap.size) (fun z _ => k - (intOf z).toNat)
        case atStart => exact ⟨0, by omega, rfl, O, H, X, hwr⟩
        case round =>
          clear O H X hwr
          obtain ⟨i, hi, rfl, O, H, X, hwr⟩ := hrel
          by_cases hik : i < k
          · have hil : i < S.length := by omega
            have hm := List.getElem_mem hil
            obtain ⟨⟨ya, yf, yu, yn⟩, hy⟩ : ∃ y, S[i] = y := ⟨_, rfl⟩
            rw [hy] at hm
            have ya1 : a = ya := (hSp.ad _ hm).symm
            subst ya1
            have hyf : b < yf ∧ yf ≤ yu ∧ yu < p := hSp.fr _ hm
            have hth := fun e h1 h2 => hSp.there hm (e := e) h1 h2
            simp only at hth
            obtain ⟨z1, z2⟩ := hSp.again ha16 hm
            simp only at z1 z2
            obtain ⟨hA, g, q, hgq, hog, e0, e1, e2, e3⟩ := OwR.at_ O i hil
            have hgD : ¬ D g := fun h => by have := (O.lt hog).1; have := hDb _ h; omega
            rw [hy] at e0 e1 e2 e3
            simp only at e0 e1 e2 e3
            have i1 : (i : Int) < (k : Int) := by omega
            have i2 : (i : Int) < 64 := by omega
            have HTH := Lib.hid hth
            have HZ1 := Lib.hid z1
            have HZ2 := Lib.hid z2
            clear hth z1 z2 hy
            go_wp2_with fail
            go_loopw [16] (fun z wq => ∃ e : Nat, yf ≤ e ∧ e ≤ yu + 1 ∧ z = .int .u32 e ∧ Ext Non wr wq) (fun z _ => yu + 1 - (intOf z).toNat)
            case atStart => exact ⟨yf, Nat.le_refl _, by omega, rfl, Ext.refl _ _⟩
            case round =>
              obtain ⟨e, he1, he2, rfl, x3⟩ := hrel
              by_cases hle : e ≤ yu
              · have k1 : (e : Int) ≤ (yu : Int) := by omega
                have H3 := H.extN x3
                have X3 := X.transN x3
                have d0 := x3.cell e0 (fun h => h)
                have d1 := x3.cell e1 (fun h => h)
                have d2 := x3.cell e2 (fun h => h)
                have d3 := x3.cell e3 (fun h => h)
                obtain ⟨f1, f2⟩ := HTH.out e he1 hle
                have k2 : IntKind.u32.wrap ((e : Int) + 1) = (e : Int) + 1 := by rw [IntKind.wrap_u32]; omega
                have F1 := Lib.hid f1
                have F2 := Lib.hid f2
                clear f1 f2
                go_wp2_with fail
                have ctr := find_some H3 a e a yf yu yn F2.out rfl rfl
                with_reducible refine Calls.mono ctr ?_
                clear ctr
                rintro e w4 ⟨rfl, x4⟩
                go_upto_region 24 with (fail)
                have Y5 := Blk.new w4 37 #[.int .u16 a, .int .u32 yf, .int .u32 yu, .int .u32 yn]
                have x5 := x4.alloc (.cells #[.int .u16 a, .int .u32 yf, .int .u32 yu, .int .u32 yn] 37)
                have H5 := H3.extN x5
                clear x4 H3 X3
                generalize w4.alloc (.cells #[.int .u16 a, .int .u32 yf, .int .u32 yu, .int .u32 yn] 37) = w5 at *
                generalize w4.heap.size = y4 at *
                replace H5 := H5.extN (Ext.refl Non w5).drew
                have yc := fun W (x : Ext Non w5.drew W) => rc_cells (Y5.drew.extN_ x)
                have ec := fun W (x : Ext Non w5.drew W) => (show W.cell? ⟨g, q, none⟩ = _ ∧ W.cell? ⟨g, q + 1, none⟩ = _ ∧ W.cell? ⟨g, q + 2, none⟩ = _ ∧ W.cell? ⟨g, q + 3, none⟩ = _ from ⟨(x5.transN (Ext.drewL x)).cell d0 (fun h => h), (x5.transN (Ext.drewL x)).cell d1 (fun h => h), (x5.transN (Ext.drewL x)).cell d2 (fun h => h), (x5.transN (Ext.drewL x)).cell d3 (fun h => h)⟩)
                refine wp_region_seq Non ((0, true) :: (1, true) :: (2, true) :: (3, true) :: (4, true) :: (5, true) :: (6, true) :: (7, true) :: (8, true) :: (9, true) :: (10, true) :: (11, true) :: (12, true) :: (13, false) :: (14, true) :: (15, true) :: (16, true) :: []) (by kernel_rfl) (by kernel_rfl) (by kernel_rfl) ?_
                iterate 13 (refine wpSeq_quiet rfl rfl ?_; apply Exists.intro; refine ⟨?_, ?_⟩; (intro W hW; obtain ⟨y0, y1, y2, y3⟩ := yc W hW; obtain ⟨z0, z1, z2, z3⟩ := ec W hW; go_simp; try with_reducible rfl); (intro K hK; simp only [Act.put, List.setIfInBounds_toArray, List.set_cons_zero, List.set_cons_succ]; refine hK _ ?_; clear hK K))
                clear yc ec
                have x35 := (x3.transN x5).drew
                generalize w5.drew = v5 at *
                refine wpSeq_call rfl rfl (fun K hK => ?_)
                go_simp
                have ctr := valid_i H5 e [⟨a, yf, yu, yn⟩] F1.out 1 rfl rfl
                with_reducible refine Calls.mono ctr ?_
                clear ctr
                rintro e w6 ⟨Av, cv, rfl, Ov, x6⟩
                go_simp
                refine hK _ _ x6 ?_
                clear hK K
                iterate 3 (refine wpSeq_quiet rfl rfl ?_; apply Exists.intro; refine ⟨?_, ?_⟩; (intro W hW; go_simp; try with_reducible rfl); (intro K hK; simp only [Act.put, List.setIfInBounds_toArray, List.set_cons_zero, List.set_cons_succ]; refine hK _ ?_; clear hK K))
                refine wpSeq_end ?_
                go_wp2_with fail
                exact ⟨⟨e + 1, by omega, by omega, by go_num, x35.transN x6⟩, by simp [intOf]; omega⟩
              · have k1 : ¬ (e : Int) ≤ (yu : Int) := by omega
                have H3 := H.extN x3
                have X3 := X.transN x3
                have O3 := OwO.extN O x3
                have d0 := x3.cell e0 (fun h => h)
                have d1 := x3.cell e1 (fun h => h)
                have d2 := x3.cell e2 (fun h => h)
                have d3 := x3.cell e3 (fun h => h)
                have hwr3 := x3.size
                clear H X O e0 e1 e2 e3
                go_upto_region 26 with (fail)
                have K := (Ext.refl Non wr).drew
                have H5 := H3.extN K
                have X5 := X3.transN K
                have O5 := OwO.extN O3 K
                have ec := fun W (x : Ext D wr.drew W) => (show W.cell? ⟨g, q, none⟩ = _ ∧ W.cell? ⟨g, q + 1, none⟩ = _ ∧ W.cell? ⟨g, q + 2, none⟩ = _ ∧ W.cell? ⟨g, q + 3, none⟩ = _ from ⟨x.cell (K.cell d0 (fun h => h)) hgD, x.cell (K.cell d1 (fun h => h)) hgD, x.cell (K.cell d2 (fun h => h)) hgD, x.cell (K.cell d3 (fun h => h)) hgD⟩)
                have hok : (⟨a, yf, yf, 0⟩ : Rc).ok := ⟨by show a < 65536; omega, by show yf < 4294967296; omega, by show yf < 4294967296; omega, by show 0 < 4294967296; omega⟩
                have hwr5 : w2.heap.size ≤ wr.drew.heap.size := by have : wr.drew.heap.size = wr.heap.size := rfl; omega
                clear d0 d1 d2 d3 H3 X3 O3
                refine wp_region_seq D ((0, true) :: (1, true) :: (2, true) :: (3, true) :: (4, true) :: (5, true) :: (6, true) :: (7, true) :: (8, true) :: (9, true) :: (10, true) :: (11, true) :: (12, true) :: (13, false) :: (14, true) :: []) (by kernel_rfl) (by kernel_rfl) (by kernel_rfl) ?_
                iterate 13 (refine wpSeq_quiet rfl rfl ?_; apply Exists.intro; refine ⟨?_, ?_⟩; (intro W hW; obtain ⟨z0, z1, z2, z3⟩ := ec W hW; go_simp; try with_reducible rfl); (intro K hK; simp only [Act.put, List.setIfInBounds_toArray, List.set_cons_zero, List.set_cons_succ]; refine hK _ ?_; clear hK K))
                clear ec K
                generalize wr.drew = v5 at *
                refine wpSeq_call rfl rfl (fun K hK => ?_)
                go_simp
                have ctr := add_i H5 a yf yf 0 hok 12 HZ1.out S HZ2.out rfl rfl rfl rfl rfl
                with_reducible refine Calls.mono ctr ?_
                clear ctr
                rintro e w6 ⟨rfl, H6, x6⟩
                go_simp
                refine hK _ _ x6 ?_
                clear hK K
                iterate 1 (refine wpSeq_quiet rfl rfl ?_; apply Exists.intro; refine ⟨?_, ?_⟩; (intro W hW; go_simp; try with_reducible rfl); (intro K hK; simp only [Act.put, List.setIfInBounds_toArray, List.set_cons_zero, List.set_cons_succ]; refine hK _ ?_; clear hK K))
                refine wpSeq_end ?_
                have hs6 := x6.size
                go_wp2_with fail
                exact ⟨⟨i + 1, by omega, by go_num, OwO.ext O5 x6 (fun g hg h => by have := (O5.lt hg).1; have := hDb _ h; omega), H6, X5.trans x6 hDw, by omega⟩, by simp [intOf]; omega⟩
          · obtain rfl : k = i := by omega
            have n1 := hSp.none (e := b) (.inl (Nat.le_refl _))
            have n2 := hSp.none (e := p) (.inr (Nat.le_refl _))
            have N1 := Lib.hid n1
            have N2 := Lib.hid n2
            clear n1 n2
            go_wp2_with fail
            have ctr := find_none H a b N1.out rfl rfl
            with_reducible refine Calls.mono ctr ?_
            clear ctr
            rintro e w3 ⟨rfl, x3⟩
            go_upto_region 29 with (fail)
            have x4 := x3.alloc (.cells #[.int .u16 0, .int .u32 0, .int .u32 0, .int .u32 0] 37)
            generalize w3.alloc (.cells #[.int .u16 0, .int .u32 0, .int .u32 0, .int .u32 0] 37) = w4 at *
            go_wp2_with fail
            have ctr := find_none (H.extN x4) a p N2.out rfl rfl
            with_reducible refine Calls.mono ctr ?_
            clear ctr
            rintro e w5 ⟨rfl, x5⟩
            go_upto_region 30 with (fail)
            have x6 := (x4.transN x5).alloc (.cells #[.int .u16 0, .int .u32 0, .int .u32 0, .int .u32 0] 37)
            generalize w5.alloc (.cells #[.int .u16 0, .int .u32 0, .int .u32 0, .int .u32 0] 37) = w6 at *
            have H6 := H.extN x6
            go_wp2_with (go_at_call 18; refine (len_calls H6 k hSl).mono ?_; rintro e w7 ⟨rfl, rfl⟩)
            go_ret
            exact ⟨rfl, (X.transN x6).belowN⟩
end Go.Proofs.YtnmpfbffacljfaaDoor
