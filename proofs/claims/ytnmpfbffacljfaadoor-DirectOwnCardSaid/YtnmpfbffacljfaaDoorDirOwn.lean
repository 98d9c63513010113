/- The law DirectOwn: its walk. -/
import Derived.Test.YtnmpfbffacljfaaDoorDirW
import Derived.Test.YtnmpfbffacljfaaDoorSeqS
import Derived.Deep.DeepCutAuto
namespace Go.Proofs.YtnmpfbffacljfaaDoor
open Go.RowKit

set_option maxRecDepth 100000 in
set_option maxHeartbeats 4000000 in
theorem own_walk (A : Option Addr) (n c : Nat) (l : List Rc) (e : Nat) (w : World) (IR : InR w A n l) (G : Glob w) (hw2 : 2 ≤ w.heap.size) :
    Calls Tryd.prog 10 #[.slice A n c, .int .u32 e] w fun e' w' => e' = .returned (.bool true) ∧ Below w.heap.size w w' := by
  go_enter Tryd.func10, Tryd.ntmps10
  go_wp2_with fail
  have ctr := shown_calls G hw2
  with_reducible refine Calls.mono ctr ?_
  clear ctr
  rintro e w1 ⟨rfl, X1⟩
  go_wp2_with fail
  have ctr := new_calls w1
  with_reducible refine Calls.mono ctr ?_
  clear ctr
  rintro e w2 ⟨d, rfl, H2, x2⟩
  have X2 := X1.transN x2
  have hs1 := X1.size
  obtain ⟨D, hD⟩ : ∃ D : Nat → Prop, D = fun k => w1.heap.size ≤ k ∧ k < w2.heap.size := ⟨_, rfl⟩
  rw [← hD] at H2
  have hDw : ∀ i, i < w.heap.size → D i → Non i := fun i hi h => by rw [hD] at h; omega
  clear X1 x2
  go_wp2_with fail
  go_loopw [7] (fun z wr => ∃ k : Nat, k ≤ n ∧ z = .int .i64 k ∧ Di wr D d (addall [] (l.take k)) ∧ Ext Non w wr ∧ w2.heap.size ≤ wr.heap.size) (fun z _ => n - (intOf z).toNat)
  case atStart => exact ⟨0, Nat.zero_le _, rfl, H2, X2, Nat.le_refl _⟩
  case round =>
    clear H2 X2
    obtain ⟨k, hk, rfl, H, X, hwr⟩ := hrel
    obtain ⟨bb, hbb⟩ : ∃ bb : Bool, (bb = true ∧ (k : Int) < (n : Int) ∧ (k : Int) < 60) ∨ (bb = false ∧ ¬ (k : Int) < (n : Int)) ∨ (bb = false ∧ (k : Int) < (n : Int) ∧ ¬ (k : Int) < 60) := by
      by_cases h1 : k < n
      · by_cases h2 : k < 60
        · exact ⟨true, .inl ⟨rfl, by omega, by omega⟩⟩
        · exact ⟨false, .inr (.inr ⟨rfl, by omega, by omega⟩)⟩
      · exact ⟨false, .inr (.inl ⟨rfl, by omega⟩)⟩
    go_upto_region 6 with (fail)
    go_cut [27] (fun s wc => s = .bool bb ∧ wr = wc)
    case first =>
      rcases hbb with ⟨rfl, h1, h2⟩ | ⟨rfl, h1⟩ | ⟨rfl, h1, h2⟩
      all_goals
        go_wp2_with fail
        go_meet
        case rel => exact ⟨rfl, rfl⟩
    case rest =>
      obtain ⟨rfl, rfl⟩ := hcut
      cases bb
      case true =>
        have hkn : k < l.length := by rw [IR.len]; rcases hbb with ⟨_, h1, _⟩ | ⟨h, _⟩ | ⟨h, _⟩; omega; cases h; cases h
        have hkn2 : (k : Int) < (n : Int) := by rw [IR.len] at hkn; omega
        have hk60 : (k : Int) < 60 := by rcases hbb with ⟨_, _, h1⟩ | ⟨h, _⟩ | ⟨h, _⟩; exact h1; cases h; cases h
        have htk := addall_take [] l k hkn
        have hro := IR.ok _ (List.getElem_mem hkn)
        obtain ⟨⟨ra, rf, ru, rn⟩, hr⟩ : ∃ r, l[k] = r := ⟨_, rfl⟩
        obtain ⟨hA, hc⟩ := IR.cells k hkn ra rf ru rn hr
        obtain ⟨c0, c1, c2, c3⟩ := hc wr X
        rw [hr] at htk hro
        have HTK := Lib.hid htk
        clear hbb htk hr hc
        go_wp2_with fail
        have ctr := add_i H ra rf ru rn hro _ rfl _ rfl rfl rfl rfl rfl rfl
        with_reducible refine Calls.mono ctr ?_
        clear ctr
        rintro e w5 ⟨rfl, H5, x5⟩
        go_wp2_with fail
        exact ⟨⟨k + 1, by omega, by go_num, by rw [HTK.out]; exact H5, X.trans x5 hDw, Nat.le_trans hwr x5.size⟩, by simp [intOf]; omega⟩
      case false =>
        clear hbb
        have hS := H.sound
        generalize addall [] (l.take k) = S at *
        obtain ⟨v, hv⟩ : ∃ v, (S.filter fun r => r.has e) = v := ⟨_, rfl⟩
        obtain ⟨m, hm⟩ : ∃ m, v.length = m := ⟨_, rfl⟩
        have hm64 : m ≤ 64 := by rw [← hm, ← hv]; exact (hS.filter _).len
        obtain ⟨b, hb⟩ : ∃ b, dirs S = b := ⟨_, rfl⟩
        obtain ⟨nb, hnb⟩ : ∃ nb, b.length = nb := ⟨_, rfl⟩
        have hnb1 : nb ≤ 1000 := by rw [← hnb, ← hb, dirs_len]; have := hS.len; omega
        have HV := Lib.hid hv
        have HB := Lib.hid hb
        clear hv hb
        go_wp2_with fail
        have ctr := valid_i H e v HV.out m hm rfl
        with_reducible refine Calls.mono ctr ?_
        clear ctr
        rintro e w3 ⟨Av, cv, rfl, Ov, x3⟩
        have X3 := X.transN x3
        have H3 := H.extN x3
        have hs3 := X3.size
        have hwr3 := x3.size
        have hsX := X.size
        have hDlt : ∀ g, D g → g < w2.heap.size := fun g h => by rw [hD] at h; exact h.2
        clear H X x3
        have O0 := OwR.made w3 w3.heap.size (Nat.le_refl _)
        have x34 := (Ext.refl Non w3).alloc (.cells #[] 37)
        have Ov4 := Ov.extN x34
        go_upto_region 11 with (at_builtin; refine wp_apRQ rfl (.tmp 39) (.tmp 40) rfl 0 m cv rfl rfl O0 Ov4 rfl hm (by omega) (by rw [World.size_alloc]; omega) ?_; intro A4 c4 w4 O4 x4 hob4)
        have nv4 : ∀ g, ob Av = some g → ¬ (ob (some (⟨w3.heap.size, 0, none⟩ : Addr)) = some g) := fun g hg h => by have := (Ov.lt hg).2; have h : w3.heap.size = g := Option.some.inj h; omega
        have Ov5 := Ov4.ext x4 nv4
        have X4 : Ext Non w3 w4 := (x34).trans x4 (fun g hg h => by have h : w3.heap.size = g := Option.some.inj h; omega)
        have H4 := H3.extN X4
        have hn4 : ∀ g, ob A4 = some g → w3.heap.size ≤ g := fun g hg => (O4.lt hg).1
        have O4 : OwR w4 w3.heap.size A4 c4 v := O4
        clear Ov4 O0 x34 x4 hob4 nv4 H3
        go_wp2_with fail
        go_loopw [10] (fun z wr => ∃ (i : Nat) (t : List Rc), i ≤ m ∧ z = .int .i64 i ∧ t.length = m ∧ OwR wr w2.heap.size Av cv t ∧ Ext (fun g => ob Av = some g) w4 wr) (fun z _ => m - (intOf z).toNat)
        case atStart => exact ⟨0, v, by omega, rfl, hm, Ov5.lower (fun g hg => by have := (Ov.lt hg).1; omega), Ext.refl _ _⟩
        case round =>
          obtain ⟨i, t, hi, rfl, ht, O, x5⟩ := hrel
          by_cases him : i < m
          · have i1 : (i : Int) < (m : Int) := by omega
            have i2 : (i : Int) < 64 := by omega
            obtain ⟨hA, g, o, ha, hog, ⟨f0, f1, f2, f3⟩, ⟨c0, c1, c2, c3⟩, O', x'⟩ := OwR.put O i (by omega) 0 0 0 0
            have XX := x5.trans x' (fun b hb h => by have h : b = g := h; rw [h]; exact hog)
            clear O x' x5
            go_wp2_with fail
            exact ⟨⟨i + 1, _, by omega, by go_num, by rw [List.length_set, ht], O', XX⟩, by simp [intOf]; omega⟩
          · obtain rfl : m = i := by omega
            have X5 : Ext Non w wr := (X3.transN X4).trans x5 (fun b hb h => by have := (Ov.lt h).1; omega)
            have H5 := H4.ext x5 (fun g hg h => by have := (Ov.lt h).1; have := hDlt g hg; omega)
            have O5 : OwR wr w3.heap.size A4 c4 v := O4.ext x5 (fun g hg h => by have := (Ov.lt h).2; have := hn4 g hg; omega)
            have hs5 := X5.size
            have hs4' := X4.size
            have hs5' := x5.size
            have hA4 : ∀ g, ob A4 = some g → g < wr.heap.size := fun g hg => (O5.lt hg).2
            clear O x5 X3 X4 H4 Ov5 O4
            go_wp2_with fail
            have ctr := bytes_calls (G.extN X5) (by omega) H5 nb (by rw [HB.out]; exact hnb)
            with_reducible refine Calls.mono ctr ?_
            clear ctr
            rintro e w6 ⟨Ab, cb, rfl, Ob, x6⟩
            rw [HB.out] at Ob
            have X6 := X5.transN x6
            have H6 := H5.extN x6
            have O6 := OwO.extN O5 x6
            have Rb := OwB.rd Ob
            have cv1 := conv_str Rb nb cb hnb
            have hOb := OwB.len Ob
            have hs6 := x6.size
            clear X5 H5 O5 x6
            go_wp2_with fail
            go_loopw [13] (fun z wr => ∃ (i : Nat) (t : List UInt8), i ≤ nb ∧ z = .int .i64 i ∧ t.length = nb ∧ OwB wr w2.heap.size Ab cb t ∧ Ext (fun g => ob Ab = some g) w6 wr) (fun z _ => nb - (intOf z).toNat)
            case atStart => exact ⟨0, b, by omega, rfl, hnb, OwB.lower Ob (fun g hg => by have := (OwB.lt Ob hg).1; omega), Ext.refl _ _⟩
            case round =>
              obtain ⟨i, t, hi, rfl, ht, O, x7⟩ := hrel
              by_cases him : i < nb
              · have i1 : (i : Int) < (nb : Int) := by omega
                have i2 : (i : Int) < 1000 := by omega
                obtain ⟨hA, ⟨u, hu⟩, hf, O', x'⟩ := OwB.set_ O (j := i) (by omega) 63 63 rfl
                have XX := x7.trans' x'
                have O'' := O'
                clear O x7 x'
                go_wp2_with fail
                exact ⟨⟨i + 1, _, by omega, by go_num, by rw [List.length_set, ht], O'', XX⟩, by simp [intOf]; omega⟩
              · obtain rfl : nb = i := by omega
                have X7 : Ext Non w wr := X6.trans x7 (fun g hg h => by have := (OwB.lt Ob h).1; omega)
                have H7 := H6.ext x7 (fun g hg h => by have := (OwB.lt Ob h).1; have := hDlt g hg; omega)
                have O7 : OwR wr w3.heap.size A4 c4 v := OwO.ext O6 x7 (fun g hg h => by have := (OwB.lt Ob h).1; have := hA4 g hg; omega)
                have hs7 := X7.size
                clear O x7 X6 H6 O6 Rb cv1 hOb Ob
                go_wp2_with fail
                have ctr := valid_i H7 e v HV.out m hm rfl
                with_reducible refine Calls.mono ctr ?_
                clear ctr
                rintro e w8 ⟨Ax, cx, rfl, Ox, x8⟩
                have X8 := X7.transN x8
                have H8 := H7.extN x8
                have O8 := OwO.extN O7 x8
                have hs8 := X8.size
                clear X7 H7 O7 x8
                go_wp2_with fail
                have ctr := bytes_calls (G.extN X8) (by omega) H8 nb (by rw [HB.out]; exact hnb)
                with_reducible refine Calls.mono ctr ?_
                clear ctr
                rintro e w9 ⟨A9, c9, rfl, O9, x9⟩
                rw [HB.out] at O9
                have cv9 := conv_str (OwB.rd O9) nb c9 hnb
                have sn := fun W => neq_str W b b true (by simp)
                have X9 := X8.transN x9
                have OA := OwO.extN O8 x9
                have OX := OwO.extN Ox x9
                clear X8 H8 O8 x9 Ox
                go_wp2_with fail
                go_loopw [15] (fun z wr => ∃ i : Nat, i ≤ m ∧ z = .int .i64 i ∧ Ext Non w9 wr) (fun z _ => m - (intOf z).toNat)
                case atStart => exact ⟨0, by omega, rfl, Ext.refl _ _⟩
                case round =>
                  obtain ⟨i, hi, rfl, X⟩ := hrel
                  by_cases him : i < m
                  · have i1 : (i : Int) < (m : Int) := by omega
                    have i2 : (i : Int) < 64 := by omega
                    obtain ⟨hA, ga, oa, ha, _, a0, a1, a2, a3⟩ := OwR.at_ OA i (by omega)
                    obtain ⟨hX, gx, ox, hx, _, b0, b1, b2, b3⟩ := OwR.at_ OX i (by omega)
                    obtain ⟨⟨ra, rf, ru, rn⟩, hr⟩ : ∃ r, v[i] = r := ⟨_, rfl⟩
                    rw [hr] at a0 a1 a2 a3 b0 b1 b2 b3
                    simp only at a0 a1 a2 a3 b0 b1 b2 b3
                    clear hr
                    go_upto_region 27 with (fail)
                    have ac := fun W (x : Ext Non wr.drew W) => (show W.cell? ⟨ga, oa, none⟩ = _ ∧ W.cell? ⟨ga, oa + 1, none⟩ = _ ∧ W.cell? ⟨ga, oa + 2, none⟩ = _ ∧ W.cell? ⟨ga, oa + 3, none⟩ = _ from ⟨(X.transN (Ext.drewL x)).cell a0 (fun h => h), (X.transN (Ext.drewL x)).cell a1 (fun h => h), (X.transN (Ext.drewL x)).cell a2 (fun h => h), (X.transN (Ext.drewL x)).cell a3 (fun h => h)⟩)
                    have bc := fun W (x : Ext Non wr.drew W) => (show W.cell? ⟨gx, ox, none⟩ = _ ∧ W.cell? ⟨gx, ox + 1, none⟩ = _ ∧ W.cell? ⟨gx, ox + 2, none⟩ = _ ∧ W.cell? ⟨gx, ox + 3, none⟩ = _ from ⟨(X.transN (Ext.drewL x)).cell b0 (fun h => h), (X.transN (Ext.drewL x)).cell b1 (fun h => h), (X.transN (Ext.drewL x)).cell b2 (fun h => h), (X.transN (Ext.drewL x)).cell b3 (fun h => h)⟩)
                    refine wp_region_seq Non ((0, true) :: (1, true) :: (2, true) :: (3, true) :: (4, true) :: (5, true) :: (6, true) :: (7, true) :: (8, true) :: []) (by kernel_rfl) (by kernel_rfl) (by kernel_rfl) ?_
                    iterate 9 (refine wpSeq_quiet rfl rfl ?_; apply Exists.intro; refine ⟨?_, ?_⟩; (intro W hW; obtain ⟨y0, y1, y2, y3⟩ := ac W hW; obtain ⟨z0, z1, z2, z3⟩ := bc W hW; go_simp; try with_reducible rfl); (intro K hK; simp only [Act.put, List.setIfInBounds_toArray, List.set_cons_zero, List.set_cons_succ]; refine hK _ ?_; clear hK K))
                    refine wpSeq_end ?_
                    go_wp2_with fail
                    exact ⟨⟨i + 1, by omega, by go_num, X.drew⟩, by simp [intOf]; omega⟩
                  · obtain rfl : m = i := by omega
                    go_wp2_with fail
                    go_ret
                    exact ⟨rfl, (X9.transN X).belowN⟩
end Go.Proofs.YtnmpfbffacljfaaDoor
