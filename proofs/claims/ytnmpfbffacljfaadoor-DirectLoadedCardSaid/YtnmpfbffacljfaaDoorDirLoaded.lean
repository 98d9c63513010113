/- The law DirectLoaded: its walk. -/
import Derived.Test.YtnmpfbffacljfaaDoorDirW
import Derived.Test.YtnmpfbffacljfaaDoorSeqS
import Derived.Deep.DeepCutAuto
namespace Go.Proofs.YtnmpfbffacljfaaDoor
open Go.RowKit

set_option maxRecDepth 100000 in
set_option maxHeartbeats 4000000 in
theorem loaded_walk (A : Option Addr) (n c : Nat) (l : List Rc) (A2 : Option Addr) (n2 c2 : Nat) (es : List Nat) (mo : Rc) (hmo : mo.ok) (w : World) (IR : InR w A n l) (IE : InE w A2 n2 es) (G : Glob w) (hw2 : 2 ≤ w.heap.size) :
    Calls Tryd.prog 12 #[.slice A n c, .slice A2 n2 c2, .agg (rcA mo)] w fun e' w' => e' = .returned (.bool true) ∧ Below w.heap.size w w' := by
  obtain ⟨ma, mf, mu, mn⟩ := mo
  unfold rcA
  simp only
  have X0 := (Ext.refl Non w).alloc (.cells #[.int .u16 ma, .int .u32 mf, .int .u32 mu, .int .u32 mn] 37)
  have B0 := Blk.new w 37 #[.int .u16 ma, .int .u32 mf, .int .u32 mu, .int .u32 mn]
  go_enter Tryd.func12, Tryd.ntmps12
  go_wp2_with fail
  have ctr := shown_calls (G.extN X0) (by rw [World.size_alloc]; omega)
  with_reducible refine Calls.mono ctr ?_
  clear ctr
  rintro e w1 ⟨rfl, x1⟩
  have X1 := X0.transN x1
  have hs0 : w.heap.size + 1 ≤ w1.heap.size := by have := x1.size; rw [World.size_alloc] at this; exact this
  go_wp2_with fail
  have ctr := new_calls w1
  with_reducible refine Calls.mono ctr ?_
  clear ctr
  rintro e w2 ⟨d, rfl, H2, x2⟩
  have X2 := X1.transN x2
  have Bm := (B0.extN_ x1).extN_ x2
  obtain ⟨D, hD⟩ : ∃ D : Nat → Prop, D = fun k => w1.heap.size ≤ k ∧ k < w2.heap.size := ⟨_, rfl⟩
  rw [← hD] at H2
  have hDw : ∀ i, i < w.heap.size → D i → Non i := fun i hi h => by rw [hD] at h; omega
  have hDm : ¬ D w.heap.size := fun h => by rw [hD] at h; omega
  have hs2 := x2.size
  clear X0 B0 X1 x1 x2
  go_wp2_with fail
  go_loopw [9] (fun z wr => ∃ k : Nat, k ≤ n ∧ z = .int .i64 k ∧ Di wr D d (addall [] (l.take k)) ∧ Ext Non w wr ∧ w2.heap.size ≤ wr.heap.size ∧ Blk wr w.heap.size 37 #[.int .u16 ma, .int .u32 mf, .int .u32 mu, .int .u32 mn]) (fun z _ => n - (intOf z).toNat)
  case atStart => exact ⟨0, Nat.zero_le _, rfl, H2, X2, Nat.le_refl _, Bm⟩
  case round =>
    clear H2 X2 Bm
    obtain ⟨k, hk, rfl, H, X, hwr, Bm⟩ := hrel
    obtain ⟨bb, hbb⟩ : ∃ bb : Bool, (bb = true ∧ (k : Int) < (n : Int) ∧ (k : Int) < 60) ∨ (bb = false ∧ ¬ (k : Int) < (n : Int)) ∨ (bb = false ∧ (k : Int) < (n : Int) ∧ ¬ (k : Int) < 60) := by
      by_cases h1 : k < n
      · by_cases h2 : k < 60
        · exact ⟨true, .inl ⟨rfl, by omega, by omega⟩⟩
        · exact ⟨false, .inr (.inr ⟨rfl, by omega, by omega⟩)⟩
      · exact ⟨false, .inr (.inl ⟨rfl, by omega⟩)⟩
    go_upto_region 6 with (fail)
    go_cut [29] (fun s wc => s = .bool bb ∧ wr = wc)
    case first =>
      rcases hbb with ⟨rfl, h1, h2⟩ | ⟨rfl, h1⟩ | ⟨rfl, h1, h2⟩
      all_goals
        go_wp2_with fail
        go_meet
        case rel => exact ⟨rfl, rfl⟩
    case rest =>
      obtain ⟨rfl, rfl⟩ := hcut
      cases bb
      case true =>
        have hkn : k < l.length := by rw [IR.len]; rcases hbb with ⟨_, h1, _⟩ | ⟨h, _⟩ | ⟨h, _⟩; omega; cases h; cases h
        have hkn2 : (k : Int) < (n : Int) := by rw [IR.len] at hkn; omega
        have hk60 : (k : Int) < 60 := by rcases hbb with ⟨_, _, h1⟩ | ⟨h, _⟩ | ⟨h, _⟩; exact h1; cases h; cases h
        have htk := addall_take [] l k hkn
        have hro := IR.ok _ (List.getElem_mem hkn)
        obtain ⟨⟨ra, rf, ru, rn⟩, hr⟩ : ∃ r, l[k] = r := ⟨_, rfl⟩
        obtain ⟨hA, hc⟩ := IR.cells k hkn ra rf ru rn hr
        obtain ⟨c0, c1, c2, c3⟩ := hc wr X
        rw [hr] at htk hro
        have HTK := Lib.hid htk
        clear hbb htk hr hc
        go_wp2_with fail
        have ctr := add_i H ra rf ru rn hro _ rfl _ rfl rfl rfl rfl rfl rfl
        with_reducible refine Calls.mono ctr ?_
        clear ctr
        rintro e w5 ⟨rfl, H5, x5⟩
        go_wp2_with fail
        exact ⟨⟨k + 1, by omega, by go_num, by rw [HTK.out]; exact H5, X.trans x5 hDw, Nat.le_trans hwr x5.size, Bm.ext x5 hDm⟩, by simp [intOf]; omega⟩
      case false =>
        clear hbb
        have hS := H.sound
        generalize addall [] (l.take k) = S at *
        have hSl := hS.len
        obtain ⟨nb, hnb⟩ : ∃ nb, (dirs S).length = nb := ⟨_, rfl⟩
        have hnb1 := hnb
        rw [dirs_len] at hnb1
        have hsX := X.size
        go_wp2_with fail
        have ctr := bytes_calls (G.extN X) (by omega) H nb hnb
        with_reducible refine Calls.mono ctr ?_
        clear ctr
        rintro e w3 ⟨Ab, cb, rfl, Ob, x3⟩
        have X3 := X.transN x3
        have H3 := H.extN x3
        have Bm3 := Bm.extN_ x3
        have hlb := OwB.len Ob
        have hs3 := x3.size
        clear X H Bm x3
        go_wp2_with fail
        have ctr := load_ok (G.extN X3) (by omega) cb nb (OwB.rd Ob) hnb (by omega) (by omega) (fun k hk => (OwB.lt Ob hk).2) S (lode_dirs hS)
        with_reducible refine Calls.mono ctr ?_
        clear ctr
        rintro e w4 ⟨d2, rfl, Hb, x4⟩
        have X4 := X3.transN x4
        have Ha := H3.extN x4
        have Bm4 := Bm3.extN_ x4
        obtain ⟨D2, hD2⟩ : ∃ D2 : Nat → Prop, D2 = fun k => w3.heap.size ≤ k ∧ k < w4.heap.size := ⟨_, rfl⟩
        rw [← hD2] at Hb
        have hs4 := x4.size
        have hDD : ∀ g, D2 g → ¬ D g := fun g h1 h2 => by rw [hD2] at h1; rw [hD] at h2; omega
        have hD2w : ∀ i, i < w.heap.size → D2 i → Non i := fun i hi h => by rw [hD2] at h; omega
        have hD2m : ¬ D2 w.heap.size := fun h => by rw [hD2] at h; omega
        clear X3 H3 Bm3 x4 Ob
        obtain ⟨z, hz⟩ : ∃ z, dire S ⟨ma, mf, mu, mn⟩ = z := ⟨_, rfl⟩
        obtain ⟨T, hT⟩ : ∃ T, dirl S ⟨ma, mf, mu, mn⟩ = T := ⟨_, rfl⟩
        have hST : Sound T := by rw [← hT]; exact hS.dirl hmo
        have HZ := Lib.hid hz
        have HT := Lib.hid hT
        clear hz hT
        obtain ⟨b, hb⟩ : ∃ b, dirs T = b := ⟨_, rfl⟩
        obtain ⟨nt, hnt⟩ : ∃ nt, b.length = nt := ⟨_, rfl⟩
        have hbn : (dirs T).length = nt := by rw [hb]; exact hnt
        obtain ⟨mt, hmt⟩ : ∃ mt, T.length = mt := ⟨_, rfl⟩
        have HB := Lib.hid hb
        clear hb
        go_upto_region 10 with (fail)
        obtain ⟨SS, hSS⟩ : ∃ SS : Nat → Prop, SS = fun k => D k ∨ D2 k := ⟨_, rfl⟩
        have mc := fun W (x : Ext SS w4.drew W) => rc_cells (Bm4.drew.ext x (fun h => by rw [hSS] at h; exact h.elim hDm hD2m))
        have K := (Ext.refl Non w4).drew
        replace Ha := Ha.extN K
        replace Hb := Hb.extN K
        replace X4 := X4.transN K
        clear K
        refine wp_region_seq SS ((0, true) :: (1, true) :: (2, true) :: (3, true) :: (4, true) :: (5, true) :: (6, true) :: (7, true) :: (8, true) :: (10, true) :: (11, true) :: (9, false) :: (12, false) :: (13, true) :: (14, true) :: (15, true) :: (16, true) :: (19, true) :: (17, false) :: (18, true) :: (20, false) :: (21, true) :: (22, true) :: (23, true) :: (24, true) :: (25, true) :: (27, true) :: (26, false) :: (28, false) :: (29, true) :: (30, true) :: []) (by kernel_rfl) (by kernel_rfl) (by kernel_rfl) ?_
        iterate 11 (refine wpSeq_quiet rfl rfl ?_; apply Exists.intro; refine ⟨?_, ?_⟩; (intro W hW; obtain ⟨u0, u1, u2, u3⟩ := mc W hW; go_simp; try with_reducible rfl); (intro K hK; simp only [Act.put, List.setIfInBounds_toArray, List.set_cons_zero, List.set_cons_succ]; refine hK _ ?_; clear hK K))
        clear mc Bm4
        have hv4 : w4.heap.size ≤ w4.drew.heap.size := Nat.le_refl _
        have hSSb : ∀ k, SS k → k < w4.heap.size := fun k h => by
          rw [hSS] at h
          rcases h with h | h
          · rw [hD] at h; omega
          · rw [hD2] at h; exact h.2
        generalize w4.drew = v4 at *
        refine wpSeq_call rfl rfl (fun K hK => ?_)
        go_simp
        have ctr := add_i Ha ma mf mu mn hmo z HZ.out T HT.out rfl rfl rfl rfl rfl
        with_reducible refine Calls.mono ctr ?_
        clear ctr
        rintro e w5 ⟨rfl, Ha5, x5⟩
        go_simp
        refine hK _ _ (x5.imp (T := SS) (fun k _ h => by rw [hSS]; exact .inl h)) ?_
        clear hK K
        have Hb5 := Hb.ext x5 hDD
        have X5 := X4.trans x5 hDw
        have hs5 := x5.size
        clear Ha Hb X4 x5
        refine wpSeq_call rfl rfl (fun K hK => ?_)
        go_simp
        have ctr := add_i Hb5 ma mf mu mn hmo z HZ.out T HT.out rfl rfl rfl rfl rfl
        with_reducible refine Calls.mono ctr ?_
        clear ctr
        rintro e w6 ⟨rfl, Hb6, x6⟩
        go_simp
        refine hK _ _ (x6.imp (T := SS) (fun k _ h => by rw [hSS]; exact .inr h)) ?_
        clear hK K
        have Ha6 := Ha5.ext x6 (fun g h1 h2 => hDD g h2 h1)
        have X6 := X5.trans x6 hD2w
        have hs6' := x6.size
        clear Ha5 Hb5 X5 x6
        have hs6 := X6.size
        iterate 5 (refine wpSeq_quiet rfl rfl ?_; apply Exists.intro; refine ⟨?_, ?_⟩; (intro W hW; go_simp; try with_reducible rfl); (intro K hK; simp only [Act.put, List.setIfInBounds_toArray, List.set_cons_zero, List.set_cons_succ]; refine hK _ ?_; clear hK K))
        refine wpSeq_call rfl rfl (fun K hK => ?_)
        go_simp
        have ctr := bytes_calls (G.extN X6) (by omega) Ha6 nt hbn
        with_reducible refine Calls.mono ctr ?_
        clear ctr
        rintro e w7 ⟨A7, c7, rfl, O7, x7⟩
        go_simp
        refine hK _ _ x7.offN ?_
        clear hK K
        rw [HB.out] at O7
        have cv7 : ∀ W, Ext SS w7 W → (convert 50 9 (.slice A7 nt c7)).run Tryd.prog W = .ok (.string (str b)) W := fun W x => conv_str (OwB.rd (OwB.ext O7 x (fun k hk h => by
          have := (OwB.lt O7 hk).1
          have := hSSb k h
          omega))) nt c7 hnt
        have X7 := X6.transN x7
        have Ha7 := Ha6.extN x7
        have Hb7 := Hb6.extN x7
        have hs7 := x7.size
        clear X6 Ha6 Hb6 x7
        iterate 1 (refine wpSeq_quiet rfl rfl ?_; apply Exists.intro; refine ⟨?_, ?_⟩; (intro W hW; have c7 := cv7 W hW; go_simp; try with_reducible rfl); (intro K hK; simp only [Act.put, List.setIfInBounds_toArray, List.set_cons_zero, List.set_cons_succ]; refine hK _ ?_; clear hK K))
        clear cv7
        refine wpSeq_call rfl rfl (fun K hK => ?_)
        go_simp
        have ctr := bytes_calls (G.extN X7) (by omega) Hb7 nt hbn
        with_reducible refine Calls.mono ctr ?_
        clear ctr
        rintro e w8 ⟨A8, c8, rfl, O8, x8⟩
        go_simp
        refine hK _ _ x8.offN ?_
        clear hK K
        rw [HB.out] at O8
        have cv8 : ∀ W, Ext SS w8 W → (convert 50 9 (.slice A8 nt c8)).run Tryd.prog W = .ok (.string (str b)) W := fun W x => conv_str (OwB.rd (OwB.ext O8 x (fun k hk h => by
          have := (OwB.lt O8 hk).1
          have := hSSb k h
          omega))) nt c8 hnt
        have sn : ∀ W, (binOp .neq 9 (.string (str b)) (.string (str b))).run Tryd.prog W = .ok (.bool false) W := fun W => neq_str W b b true (by simp)
        have X8 := X7.transN x8
        have Ha8 := Ha7.extN x8
        have Hb8 := Hb7.extN x8
        clear X7 Ha7 Hb7 x8 O7 O8
        iterate 6 (refine wpSeq_quiet rfl rfl ?_; apply Exists.intro; refine ⟨?_, ?_⟩; (intro W hW; have c7 := cv8 W hW; have s7 := sn W; go_simp; try with_reducible rfl); (intro K hK; simp only [Act.put, List.setIfInBounds_toArray, List.set_cons_zero, List.set_cons_succ]; refine hK _ ?_; clear hK K))
        clear cv8 sn
        refine wpSeq_call rfl rfl (fun K hK => ?_)
        go_simp
        have ctr := len_calls Ha8 mt hmt
        with_reducible refine Calls.mono ctr ?_
        clear ctr
        rintro e w9 ⟨rfl, rfl⟩
        go_simp
        refine hK _ _ (Ext.refl _ _) ?_
        clear hK K
        refine wpSeq_call rfl rfl (fun K hK => ?_)
        go_simp
        have ctr := len_calls Hb8 mt hmt
        with_reducible refine Calls.mono ctr ?_
        clear ctr
        rintro e w9 ⟨rfl, rfl⟩
        go_simp
        refine hK _ _ (Ext.refl _ _) ?_
        clear hK K
        iterate 2 (refine wpSeq_quiet rfl rfl ?_; apply Exists.intro; refine ⟨?_, ?_⟩; (intro W hW; go_simp; try with_reducible rfl); (intro K hK; simp only [Act.put, List.setIfInBounds_toArray, List.set_cons_zero, List.set_cons_succ]; refine hK _ ?_; clear hK K))
        refine wpSeq_end ?_
        go_wp2_with fail
        go_loopw [12] (fun z wr => ∃ k : Nat, k ≤ n2 ∧ z = .int .i64 k ∧ Ext Non w8 wr) (fun z _ => n2 - (intOf z).toNat)
        case atStart => exact ⟨0, Nat.zero_le _, rfl, Ext.refl _ _⟩
        case round =>
          obtain ⟨k, hk, rfl, X⟩ := hrel
          obtain ⟨bb, hbb⟩ : ∃ bb : Bool, (bb = true ∧ (k : Int) < (n2 : Int) ∧ (k : Int) < 30) ∨ (bb = false ∧ ¬ (k : Int) < (n2 : Int)) ∨ (bb = false ∧ (k : Int) < (n2 : Int) ∧ ¬ (k : Int) < 30) := by
            by_cases h1 : k < n2
            · by_cases h2 : k < 30
              · exact ⟨true, .inl ⟨rfl, by omega, by omega⟩⟩
              · exact ⟨false, .inr (.inr ⟨rfl, by omega, by omega⟩)⟩
            · exact ⟨false, .inr (.inl ⟨rfl, by omega⟩)⟩
          go_upto_region 13 with (fail)
          go_cut [82] (fun s wc => s = .bool bb ∧ wr = wc)
          case first =>
            rcases hbb with ⟨rfl, h1, h2⟩ | ⟨rfl, h1⟩ | ⟨rfl, h1, h2⟩
            all_goals
              go_wp2_with fail
              go_meet
              case rel => exact ⟨rfl, rfl⟩
          case rest =>
            obtain ⟨rfl, rfl⟩ := hcut
            cases bb
            case true =>
              have hkn : k < es.length := by rw [IE.len]; rcases hbb with ⟨_, h1, _⟩ | ⟨h, _⟩ | ⟨h, _⟩; omega; cases h; cases h
              have hkn2 : (k : Int) < (n2 : Int) := by rw [IE.len] at hkn; omega
              have hk30 : (k : Int) < 30 := by rcases hbb with ⟨_, _, h1⟩ | ⟨h, _⟩ | ⟨h, _⟩; exact h1; cases h; cases h
              obtain ⟨hA2, hce⟩ := IE.at_ k hkn
              have hce : ∀ W, Ext Non w8 W → W.cell? ((A2.getD default).add k) = some (.int .u32 es[k]) := fun W x => hce W (X8.transN x)
              obtain ⟨e, he⟩ : ∃ e, es[k] = e := ⟨_, rfl⟩
              rw [he] at hce
              clear hbb he
              go_wp2_with fail
              go_loopw [13] (fun z wr => ∃ j : Nat, j ≤ 16 ∧ z = .int .u16 j ∧ Ext Non w8 wr) (fun z _ => 16 - (intOf z).toNat)
              case atStart => exact ⟨0, by omega, rfl, X⟩
              case round =>
                clear X
                obtain ⟨j, hj, rfl, X⟩ := hrel
                by_cases h16 : j < 16
                · have i1 : (j : Int) < 16 := by omega
                  have ce := hce wr X
                  have Ha9 := Ha8.extN X
                  have Hb9 := Hb8.extN X
                  have jw : IntKind.u16.wrap ((j : Int) + 1) = (j : Int) + 1 := by rw [IntKind.wrap_u16]; omega
                  rcases hf : dfnd T j e with _ | ⟨qa, qf, qu, qn⟩
                  · skip
                    go_wp2_with fail
                    have ctr := find_none Ha9 j e hf rfl rfl
                    with_reducible refine Calls.mono ctr ?_
                    clear ctr
                    rintro e wa ⟨rfl, xa⟩
                    go_upto_region 19 with (fail)
                    have B1 := Blk.new wa 37 #[.int .u16 0, .int .u32 0, .int .u32 0, .int .u32 0]
                    have y1 := xa.alloc (.cells #[.int .u16 0, .int .u32 0, .int .u32 0, .int .u32 0] 37)
                    have Hc := Hb9.extN y1
                    generalize wa.heap.size = g1 at *
                    generalize wa.alloc (.cells #[.int .u16 0, .int .u32 0, .int .u32 0, .int .u32 0] 37) = wb at *
                    have ce2 := hce wb (X.transN y1)
                    go_wp2_with fail
                    have ctr := find_none Hc j e hf rfl rfl
                    with_reducible refine Calls.mono ctr ?_
                    clear ctr
                    rintro e wc ⟨rfl, xc⟩
                    go_upto_region 20 with (fail)
                    have B2 := Blk.new wc 37 #[.int .u16 0, .int .u32 0, .int .u32 0, .int .u32 0]
                    have y2 := xc.alloc (.cells #[.int .u16 0, .int .u32 0, .int .u32 0, .int .u32 0] 37)
                    replace B1 := B1.extN_ y2
                    generalize wc.heap.size = g2 at *
                    generalize wc.alloc (.cells #[.int .u16 0, .int .u32 0, .int .u32 0, .int .u32 0] 37) = wd at *
                    obtain ⟨p0, p1, p2, p3⟩ := rc_cells (a := 0) (b := 0) (u := 0) (l := 0) B1
                    obtain ⟨q0, q1, q2, q3⟩ := rc_cells (a := 0) (b := 0) (u := 0) (l := 0) B2
                    go_wp2_with fail
                    exact ⟨⟨j + 1, by omega, by go_num, (X.transN y1).transN y2⟩, by simp [intOf]; omega⟩
                  · skip
                    go_wp2_with fail
                    have ctr := find_some Ha9 j e qa qf qu qn hf rfl rfl
                    with_reducible refine Calls.mono ctr ?_
                    clear ctr
                    rintro e wa ⟨rfl, xa⟩
                    go_upto_region 19 with (fail)
                    have B1 := Blk.new wa 37 #[.int .u16 qa, .int .u32 qf, .int .u32 qu, .int .u32 qn]
                    have y1 := xa.alloc (.cells #[.int .u16 qa, .int .u32 qf, .int .u32 qu, .int .u32 qn] 37)
                    have Hc := Hb9.extN y1
                    generalize wa.heap.size = g1 at *
                    generalize wa.alloc (.cells #[.int .u16 qa, .int .u32 qf, .int .u32 qu, .int .u32 qn] 37) = wb at *
                    have ce2 := hce wb (X.transN y1)
                    go_wp2_with fail
                    have ctr := find_some Hc j e qa qf qu qn hf rfl rfl
                    with_reducible refine Calls.mono ctr ?_
                    clear ctr
                    rintro e wc ⟨rfl, xc⟩
                    go_upto_region 20 with (fail)
                    have B2 := Blk.new wc 37 #[.int .u16 qa, .int .u32 qf, .int .u32 qu, .int .u32 qn]
                    have y2 := xc.alloc (.cells #[.int .u16 qa, .int .u32 qf, .int .u32 qu, .int .u32 qn] 37)
                    replace B1 := B1.extN_ y2
                    generalize wc.heap.size = g2 at *
                    generalize wc.alloc (.cells #[.int .u16 qa, .int .u32 qf, .int .u32 qu, .int .u32 qn] 37) = wd at *
                    obtain ⟨p0, p1, p2, p3⟩ := rc_cells B1
                    obtain ⟨q0, q1, q2, q3⟩ := rc_cells B2
                    go_wp2_with fail
                    exact ⟨⟨j + 1, by omega, by go_num, (X.transN y1).transN y2⟩, by simp [intOf]; omega⟩
                · obtain rfl : 16 = j := by omega
                  go_wp2_with fail
                  exact ⟨⟨k + 1, by omega, by go_num, X⟩, by simp [intOf]; omega⟩
            case false =>
              clear hbb
              go_wp2_with fail
              go_ret
              exact ⟨rfl, (X8.transN X).belowN⟩
end Go.Proofs.YtnmpfbffacljfaaDoor
