/- The law DirectOnce: its walk. -/
import Derived.Test.YtnmpfbffacljfaaDoorDirW
import Derived.Test.YtnmpfbffacljfaaDoorSeqS
import Derived.Deep.DeepCutAuto
namespace Go.Proofs.YtnmpfbffacljfaaDoor
open Go.RowKit

set_option maxRecDepth 100000 in
set_option maxHeartbeats 4000000 in
theorem once_walk (A : Option Addr) (n c : Nat) (l : List Rc) (e : Nat) (w : World) (IR : InR w A n l) (G : Glob w) (hw2 : 2 ≤ w.heap.size) :
    Calls Tryd.prog 5 #[.slice A n c, .int .u32 e] w fun e' w' => e' = .returned (.bool true) ∧ Below w.heap.size w w' := by
  go_enter Tryd.func5, Tryd.ntmps5
  go_wp2_with fail
  have ctr := shown_calls G hw2
  with_reducible refine Calls.mono ctr ?_
  clear ctr
  rintro e w1 ⟨rfl, X1⟩
  go_wp2_with fail
  have ctr := new_calls w1
  with_reducible refine Calls.mono ctr ?_
  clear ctr
  rintro e w2 ⟨d, rfl, H2, x2⟩
  have X2 := X1.transN x2
  have hs1 := X1.size
  obtain ⟨D, hD⟩ : ∃ D : Nat → Prop, D = fun k => w1.heap.size ≤ k ∧ k < w2.heap.size := ⟨_, rfl⟩
  rw [← hD] at H2
  have hDw : ∀ i, i < w.heap.size → D i → Non i := fun i hi h => by rw [hD] at h; omega
  clear X1 x2
  go_wp2_with fail
  go_loopw [7] (fun z wr => ∃ k : Nat, k ≤ n ∧ z = .int .i64 k ∧ Di wr D d (addall [] (l.take k)) ∧ Ext Non w wr ∧ w2.heap.size ≤ wr.heap.size) (fun z _ => n - (intOf z).toNat)
  case atStart => exact ⟨0, Nat.zero_le _, rfl, H2, X2, Nat.le_refl _⟩
  case round =>
    clear H2 X2
    obtain ⟨k, hk, rfl, H, X, hwr⟩ := hrel
    obtain ⟨bb, hbb⟩ : ∃ bb : Bool, (bb = true ∧ (k : Int) < (n : Int) ∧ (k : Int) < 60) ∨ (bb = false ∧ ¬ (k : Int) < (n : Int)) ∨ (bb = false ∧ (k : Int) < (n : Int) ∧ ¬ (k : Int) < 60) := by
      by_cases h1 : k < n
      · by_cases h2 : k < 60
        · exact ⟨true, .inl ⟨rfl, by omega, by omega⟩⟩
        · exact ⟨false, .inr (.inr ⟨rfl, by omega, by omega⟩)⟩
      · exact ⟨false, .inr (.inl ⟨rfl, by omega⟩)⟩
    go_upto_region 6 with (fail)
    go_cut [24] (fun s wc => s = .bool bb ∧ wr = wc)
    case first =>
      rcases hbb with ⟨rfl, h1, h2⟩ | ⟨rfl, h1⟩ | ⟨rfl, h1, h2⟩
      all_goals
        go_wp2_with fail
        go_meet
        case rel => exact ⟨rfl, rfl⟩
    case rest =>
      obtain ⟨rfl, rfl⟩ := hcut
      cases bb
      case true =>
        have hkn : k < l.length := by rw [IR.len]; rcases hbb with ⟨_, h1, _⟩ | ⟨h, _⟩ | ⟨h, _⟩; omega; cases h; cases h
        have hkn2 : (k : Int) < (n : Int) := by rw [IR.len] at hkn; omega
        have hk60 : (k : Int) < 60 := by rcases hbb with ⟨_, _, h1⟩ | ⟨h, _⟩ | ⟨h, _⟩; exact h1; cases h; cases h
        have htk := addall_take [] l k hkn
        have hro := IR.ok _ (List.getElem_mem hkn)
        obtain ⟨⟨ra, rf, ru, rn⟩, hr⟩ : ∃ r, l[k] = r := ⟨_, rfl⟩
        obtain ⟨hA, hc⟩ := IR.cells k hkn ra rf ru rn hr
        obtain ⟨c0, c1, c2, c3⟩ := hc wr X
        rw [hr] at htk hro
        have HTK := Lib.hid htk
        clear hbb htk hr hc
        go_wp2_with fail
        have ctr := add_i H ra rf ru rn hro _ rfl _ rfl rfl rfl rfl rfl rfl
        with_reducible refine Calls.mono ctr ?_
        clear ctr
        rintro e w5 ⟨rfl, H5, x5⟩
        go_wp2_with fail
        exact ⟨⟨k + 1, by omega, by go_num, by rw [HTK.out]; exact H5, X.trans x5 hDw, Nat.le_trans hwr x5.size⟩, by simp [intOf]; omega⟩
      case false =>
        clear hbb
        have hS := H.sound
        generalize addall [] (l.take k) = S at *
        obtain ⟨v, hv⟩ : ∃ v, (S.filter fun r => r.has e) = v := ⟨_, rfl⟩
        obtain ⟨m, hm⟩ : ∃ m, v.length = m := ⟨_, rfl⟩
        have hfa := fun a => found_at hS e a v hv
        have hca := count_all hS e v hv
        have hcl := count_le hS e v hv
        obtain ⟨q, hq⟩ : ∃ q : Nat → Nat, q = fun a => v.countP (fun r => decide (r.ad < a)) := ⟨_, rfl⟩
        have hfa : ∀ a, (dfnd S a e = none ∧ q (a + 1) = q a) ∨ ∃ r, dfnd S a e = some r ∧ v[q a]? = some r ∧ r.ad = a ∧ r.fr ≤ e ∧ e ≤ r.up ∧ q (a + 1) = q a + 1 := fun a => by rw [hq]; exact hfa a
        have hca : ∀ a, 16 ≤ a → q a = m := fun a ha => by rw [hq, ← hm]; exact hca a ha
        have hcl : ∀ a, q a ≤ a := fun a => by rw [hq]; exact hcl a
        have hq0 : q 0 = 0 := Nat.le_zero.1 (hcl 0)
        clear hq
        go_wp2_with fail
        have ctr := valid_i H e v hv m hm rfl
        with_reducible refine Calls.mono ctr ?_
        clear ctr
        rintro e w3 ⟨Av, cv, rfl, Ov, x3⟩
        have X3 := X.transN x3
        have H3 := H.extN x3
        have HV := Lib.hid hv
        clear hv H X x3
        go_wp2_with fail
        go_loopw [9, 10] (fun z y wr => ∃ i : Nat, i ≤ 20 ∧ z = .int .i64 (q i) ∧ y = .int .i64 i ∧ Ext Non w3 wr) (fun _ y _ => 20 - (intOf y).toNat)
        case atStart => exact ⟨0, by omega, by rw [hq0]; rfl, rfl, Ext.refl _ _⟩
        case round =>
          obtain ⟨i, hi, rfl, rfl, X⟩ := hrel
          by_cases h20 : i < 20
          · have i1 : (i : Int) < 20 := by omega
            have iw : IntKind.u16.wrap (i : Int) = (i : Int) := by rw [IntKind.wrap_u16]; omega
            have hqi := hcl i
            have Hw := H3.extN X
            rcases hfa i with ⟨f1, f2⟩ | ⟨⟨ra, rf, ru, rn⟩, f1, f2, f3, f4, f5, f6⟩
            · have F2 := Lib.hid f2
              clear f2
              generalize q i = qi at *
              go_wp2_with fail
              have ctr := find_none Hw i e f1 rfl rfl
              with_reducible refine Calls.mono ctr ?_
              clear ctr
              rintro e w4 ⟨rfl, x4⟩
              go_wp2_with fail
              exact ⟨⟨i + 1, by omega, by rw [F2.out], by go_num, (X.transN x4).alloc _⟩, by simp [intOf]; omega⟩
            · have f3 : ra = i := f3
              subst f3
              simp only at f4 f5
              have hlt := (List.getElem?_eq_some_iff.1 f2).1
              have hge : v[q ra] = ⟨ra, rf, ru, rn⟩ := (List.getElem?_eq_some_iff.1 f2).2
              have F6 := Lib.hid f6
              have O5 := OwR.at_ (Ov.extN X) (q ra) hlt
              rw [hge] at O5
              obtain ⟨hA, ge, oe, ha, hog, e0, e1, e2, e3⟩ := O5
              rw [hm] at hlt
              have j1 : decide (m ≤ q ra) = false := decide_eq_false (by omega)
              have j2 : decide (e < rf) = false := decide_eq_false (by omega)
              have j3 : decide (ru < e) = false := decide_eq_false (by omega)
              have j4 : (q ra : Int) < (m : Int) := by omega
              clear f2 f6 hge
              generalize q ra = qi at *
              simp only at e0 e1 e2 e3
              go_wp2_with fail
              have ctr := find_some Hw ra e ra rf ru rn f1 rfl rfl
              with_reducible refine Calls.mono ctr ?_
              clear ctr
              rintro e w4 ⟨rfl, x4⟩
              go_upto_region 18 with (fail)
              have Y5 := Blk.new w4 37 #[.int .u16 ra, .int .u32 rf, .int .u32 ru, .int .u32 rn]
              have x5 := x4.alloc (.cells #[.int .u16 ra, .int .u32 rf, .int .u32 ru, .int .u32 rn] 37)
              generalize w4.alloc (.cells #[.int .u16 ra, .int .u32 rf, .int .u32 ru, .int .u32 rn] 37) = w5 at *
              generalize w4.heap.size = y4 at *
              have yc := fun W (x : Ext Non w5.drew W) => rc_cells (Y5.drew.extN_ x)
              have ec := fun W (x : Ext Non w5.drew W) => (show W.cell? ⟨ge, oe, none⟩ = _ ∧ W.cell? ⟨ge, oe + 1, none⟩ = _ ∧ W.cell? ⟨ge, oe + 2, none⟩ = _ ∧ W.cell? ⟨ge, oe + 3, none⟩ = _ from ⟨(x5.transN (Ext.drewL x)).cell e0 (fun h => h), (x5.transN (Ext.drewL x)).cell e1 (fun h => h), (x5.transN (Ext.drewL x)).cell e2 (fun h => h), (x5.transN (Ext.drewL x)).cell e3 (fun h => h)⟩)
              refine wp_region_seq Non ((0, true) :: (1, true) :: (2, true) :: (3, true) :: (4, true) :: (5, true) :: (6, true) :: (7, true) :: (8, true) :: (9, true) :: (10, true) :: (11, true) :: (12, true) :: (13, true) :: (14, true) :: (15, true) :: (16, true) :: (17, true) :: (18, true) :: (19, true) :: (20, true) :: (21, true) :: (22, true) :: (23, true) :: (24, true) :: (25, true) :: (26, true) :: (27, true) :: (28, true) :: (29, true) :: (30, true) :: []) (by kernel_rfl) (by kernel_rfl) (by kernel_rfl) ?_
              iterate 31 (refine wpSeq_quiet rfl rfl ?_; apply Exists.intro; refine ⟨?_, ?_⟩; (intro W hW; obtain ⟨y0, y1, y2, y3⟩ := yc W hW; obtain ⟨z0, z1, z2, z3⟩ := ec W hW; go_simp; try with_reducible rfl); (intro K hK; simp only [Act.put, List.setIfInBounds_toArray, List.set_cons_zero, List.set_cons_succ]; refine hK _ ?_; clear hK K))
              refine wpSeq_end ?_
              go_wp2_with fail
              exact ⟨⟨ra + 1, by omega, by rw [F6.out]; go_num, by go_num, (X.transN x5).drew⟩, by simp [intOf]; omega⟩
          · obtain rfl : i = 20 := by omega
            rw [hca 20 (by omega)]
            have hq16 := hca 16 (by omega)
            have hm16 := hcl 16
            have i1 : (m : Int) ≤ 16 := by omega
            go_wp2_with fail
            go_ret
            exact ⟨rfl, (X3.transN X).belowN⟩
end Go.Proofs.YtnmpfbffacljfaaDoor
