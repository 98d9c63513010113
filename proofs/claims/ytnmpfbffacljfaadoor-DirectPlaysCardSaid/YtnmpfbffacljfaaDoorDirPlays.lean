/- The law DirectPlays: its walk. -/
import Derived.Test.YtnmpfbffacljfaaDoorDirJ
import Derived.Test.YtnmpfbffacljfaaDoorSeqS
import Derived.Deep.DeepCutAuto
namespace Go.Proofs.YtnmpfbffacljfaaDoor
open Go.RowKit

theorem find_both {w : World} {D : Nat → Prop} {d : Nat} {S : List Rc} (H : Di w D d S) (a e : Nat) (qa qf qu qn : Nat) (v : Bool) (hq : (dfnd S a e = some ⟨qa, qf, qu, qn⟩ ∧ v = true) ∨ (dfnd S a e = none ∧ v = false ∧ (⟨qa, qf, qu, qn⟩ : Rc) = rc0)) :
    Calls Tryd.prog 19 #[.pointer (some ⟨d, 0, none⟩), .int .u16 a, .int .u32 e] w fun e' w' => e' = .returned (.tuple #[.agg #[.int .u16 qa, .int .u32 qf, .int .u32 qu, .int .u32 qn], .bool v]) ∧ Ext Non w w' := by
  rcases hq with ⟨h, rfl⟩ | ⟨h, rfl, h0⟩
  · exact find_calls H a e _ h
  · have := find_calls H a e _ h
    injection h0 with h1 h2 h3 h4
    subst h1 h2 h3 h4
    exact this
theorem found_any (S : List Rc) (a e : Nat) : ∃ qa qf qu qn v, (dfnd S a e = some ⟨qa, qf, qu, qn⟩ ∧ v = true) ∨ (dfnd S a e = none ∧ v = false ∧ (⟨qa, qf, qu, qn⟩ : Rc) = rc0) := by
  cases h : dfnd S a e with
  | none => exact ⟨0, 0, 0, 0, false, .inr ⟨rfl, rfl, rfl⟩⟩
  | some q => exact ⟨q.ad, q.fr, q.up, q.ln, true, .inl ⟨rfl, rfl⟩⟩
set_option maxRecDepth 100000 in
set_option maxHeartbeats 8000000 in
theorem plays_walk (A : Option Addr) (n c : Nat) (l : List Rc) (A2 : Option Addr) (n2 c2 : Nat) (es : List Nat) (a : Nat) (w : World) (IR : InR w A n l) (IE : InE w A2 n2 es) (G : Glob w) (hw2 : 2 ≤ w.heap.size) :
    Calls Tryd.prog 3 #[.slice A n c, .slice A2 n2 c2, .int .u16 a] w fun e' w' => e' = .returned (.bool true) ∧ Below w.heap.size w w' := by
  go_enter Tryd.func3, Tryd.ntmps3
  go_wp2_with fail
  have ctr := shown_calls G hw2
  with_reducible refine Calls.mono ctr ?_
  clear ctr
  rintro e w1 ⟨rfl, X1⟩
  go_wp2_with fail
  have ctr := new_calls w1
  with_reducible refine Calls.mono ctr ?_
  clear ctr
  rintro e w2 ⟨d, rfl, H2, x2⟩
  have X2 := X1.transN x2
  have hs1 := X1.size
  obtain ⟨D, hD⟩ : ∃ D : Nat → Prop, D = fun k => w1.heap.size ≤ k ∧ k < w2.heap.size := ⟨_, rfl⟩
  rw [← hD] at H2
  have hDw : ∀ i, i < w.heap.size → D i → Non i := fun i hi h => by rw [hD] at h; omega
  have hs2 := X2.size
  go_upto_region 6 with (fail)
  have K3 := RDi.new w2
  have X3 := X2.alloc (.cells #[.slice none 0 0] 32)
  have J3 := H2.extN ((Ext.refl Non w2).alloc (.cells #[.slice none 0 0] 32))
  have hs3 : (w2.alloc (.cells #[.slice none 0 0] 32)).heap.size = w2.heap.size + 1 := World.size_alloc ..
  generalize w2.alloc (.cells #[.slice none 0 0] 32) = w3 at *
  generalize hd2 : w2.heap.size = d2 at *
  clear X1 x2 X2 H2
  go_wp2_with fail
  go_loopw [10] (fun z wr => ∃ (k : Nat) (D2 : Nat → Prop), k ≤ n ∧ z = .int .i64 k ∧ Di wr D d (addall [] (l.take k)) ∧ RDi wr D2 d2 (addall [] (l.take k)) ∧ (∀ i, D2 i → d2 ≤ i ∧ i < wr.heap.size) ∧ Ext Non w wr) (fun z _ => n - (intOf z).toNat)
  case atStart => exact ⟨0, _, Nat.zero_le _, rfl, J3, K3, fun i hi => by have hi : i = d2 := hi; omega, X3⟩
  case round =>
    clear J3 K3 X3 hs3
    obtain ⟨k, D2, hk, rfl, J, K, hD2, X⟩ := hrel
    obtain ⟨bb, hbb⟩ : ∃ bb : Bool, (bb = true ∧ (k : Int) < (n : Int) ∧ (k : Int) < 100) ∨ (bb = false ∧ ¬ (k : Int) < (n : Int)) ∨ (bb = false ∧ (k : Int) < (n : Int) ∧ ¬ (k : Int) < 100) := by
      by_cases h1 : k < n
      · by_cases h2 : k < 100
        · exact ⟨true, .inl ⟨rfl, by omega, by omega⟩⟩
        · exact ⟨false, .inr (.inr ⟨rfl, by omega, by omega⟩)⟩
      · exact ⟨false, .inr (.inl ⟨rfl, by omega⟩)⟩
    go_upto_region 7 with (fail)
    go_cut [32] (fun s wc => s = .bool bb ∧ wr = wc)
    case first =>
      rcases hbb with ⟨rfl, h1, h2⟩ | ⟨rfl, h1⟩ | ⟨rfl, h1, h2⟩
      all_goals
        go_wp2_with fail
        go_meet
        case rel => exact ⟨rfl, rfl⟩
    case rest =>
      obtain ⟨rfl, rfl⟩ := hcut
      cases bb
      case true =>
        have hkn : k < l.length := by rw [IR.len]; rcases hbb with ⟨_, h1, _⟩ | ⟨h, _⟩ | ⟨h, _⟩; omega; cases h; cases h
        have hkn2 : (k : Int) < (n : Int) := by rw [IR.len] at hkn; omega
        have hk100 : (k : Int) < 100 := by rcases hbb with ⟨_, _, h1⟩ | ⟨h, _⟩ | ⟨h, _⟩; exact h1; cases h; cases h
        have htk := addall_take [] l k hkn
        have hro := IR.ok _ (List.getElem_mem hkn)
        obtain ⟨⟨ra, rf, ru, rn⟩, hr⟩ : ∃ r, l[k] = r := ⟨_, rfl⟩
        obtain ⟨hA, hc⟩ := IR.cells k hkn ra rf ru rn hr
        rw [hr] at htk hro
        have hS := J.sound
        generalize addall [] (l.take k) = S at *
        obtain ⟨T, hT⟩ : ∃ T, dirl S ⟨ra, rf, ru, rn⟩ = T := ⟨_, rfl⟩
        obtain ⟨z, hz⟩ : ∃ z, dire S ⟨ra, rf, ru, rn⟩ = z := ⟨_, rfl⟩
        rw [hT] at htk
        have HT := Lib.hid hT
        have HZ := Lib.hid hz
        have HTK := Lib.hid htk
        clear hbb htk hr hT hz
        obtain ⟨nT, hnT⟩ : ∃ nT, T.length = nT := ⟨_, rfl⟩
        have hdd : ∀ i, D i → ¬ D2 i := fun i h h2 => by rw [hD] at h; have := hD2 i h2; omega
        have hww : ∀ i, i < w.heap.size → (D i ∨ D2 i) → Non i := fun i hi h => by
          rcases h with h | h
          · rw [hD] at h; omega
          · have := hD2 i h; omega
        go_upto_region 9 with (fail)
        go_cut [58] (fun s wc => s = .bool false ∧ Di wc D d T ∧ Ext Non w wc ∧ wr.heap.size ≤ wc.heap.size ∧ ∃ D3 : Nat → Prop, RDi wc D3 d2 T ∧ (∀ i, D3 i → d2 ≤ i ∧ i < wc.heap.size))
        case first =>
          as_aux_lemma =>
          have y4 : Ext Non wr wr.drew := (Ext.refl Non wr).drew
          have J4 := J.extN y4
          have K4 := K.extN y4
          have X4 := X.transN y4
          have hs4 := y4.size
          have hD4 : ∀ i, D2 i → i < wr.drew.heap.size := fun i hi => by have := hD2 i hi; omega
          have hdv : d2 ≤ wr.drew.heap.size := by have := hD2 d2 K.dj; omega
          have hcW : ∀ W, Ext (fun i => D i ∨ D2 i) wr.drew W → Ext Non w W := fun W x => X4.trans x hww
          clear J K X y4
          refine wp_region_tree (fun i => D i ∨ D2 i) (.q 0 (.q 1 (.q 2 (.q 3 (.q 4 (.q 6 (.q 7 (.q 8 (.q 9 (.q 10 (.c 5 (.c 11 (.c 12 (.q 13 (.q 14 (.q 15 (.q 17 (.q 18 (.q 19 (.b 16 (.c 20 (.q 21 (.q 22 (.q 23 .stop)))) 20 (.q 21 (.c 16 (.q 22 (.q 23 .stop)))))))))))))))))))))))) (by kernel_rfl) (by kernel_rfl) (by kernel_rfl) ?_
          generalize wr.drew = v4 at *
          iterate 10 (refine wpTree_quiet rfl rfl ?_; apply Exists.intro; refine ⟨?_, ?_⟩; (intro W hW; obtain ⟨c0, c1, c2, c3⟩ := hc W (hcW W hW); go_simp; try with_reducible rfl); (intro K hK; simp only [Act.put, List.setIfInBounds_toArray, List.set_cons_zero, List.set_cons_succ]; refine hK _ ?_; clear hK K))
          clear hc hcW
          refine wpTree_call rfl rfl (fun K hK => ?_)
          go_simp
          have ctr := add_x J4 ra rf ru rn hro z HZ.out T HT.out
          with_reducible refine Calls.mono ctr ?_
          clear ctr
          rintro e w5 ⟨rfl, J5, x5⟩
          go_simp
          refine hK _ _ (x5.imp (fun _ _ h => .inl h)) ?_
          clear hK K
          have K5 := K4.ext x5 (fun i hi h => hdd i h hi)
          have hs5 := x5.size
          refine wpTree_call rfl rfl (fun K hK => ?_)
          go_simp
          have ctr := of_calls w5 ra rf ru rn
          with_reducible refine Calls.mono ctr ?_
          clear ctr
          rintro e w6 ⟨rfl, x6⟩
          go_simp
          refine hK _ _ (x6.imp (fun _ _ h => h.elim)) ?_
          clear hK K
          have K6 := K5.extN x6
          have J6 := J5.extN x6
          have hs6 := x6.size
          refine wpTree_call rfl rfl (fun K hK => ?_)
          go_simp
          have ctr := radd_calls K6 hS (fun i hi => by have := hD4 i hi; omega) ra rf ru rn hro z HZ.out T HT.out
          with_reducible refine Calls.mono ctr ?_
          clear ctr
          rintro e w7 ⟨rfl, x7, D3, H7, hD3'⟩
          go_simp
          refine hK _ _ (x7.imp (fun _ _ h => .inr h)) ?_
          clear hK K
          have J7 := J6.ext x7 (fun i hi h => hdd i hi h)
          have hs7' := x7.size
          have X7 : Ext Non w w7 := ((X4.trans x5 hDw).transN x6).trans x7 (fun i hi h => hww i hi (.inr h))
          have hs7 : wr.heap.size ≤ w7.heap.size := by omega
          have hD3 : ∀ i, D3 i → d2 ≤ i ∧ i < w7.heap.size := fun i hi => by
            have h := hD3' i hi
            rcases h.1 with h1 | h1
            · exact ⟨(hD2 i h1).1, h.2⟩
            · exact ⟨by omega, h.2⟩
          obtain ⟨A7, c7, B7, _, _⟩ := H7.ex
          rw [hnT] at B7
          have b7 : w7.cell? ⟨d2, 0, none⟩ = some (.slice A7 nT c7) := B7.cell 0
          clear B7 x5 x6 x7 J4 K4 J5 K5 J6 K6
          iterate 6 (refine wpTree_quiet rfl rfl ?_; apply Exists.intro; refine ⟨?_, ?_⟩; (intro W hW; go_simp; try with_reducible rfl); (intro K hK; simp only [Act.put, List.setIfInBounds_toArray, List.set_cons_zero, List.set_cons_succ]; refine hK _ ?_; clear hK K))
          refine wpTree_both rfl rfl rfl rfl ?_ ?_
          · intro K hK
            go_simp
            have ctr := len_calls J7 nT hnT
            with_reducible refine Calls.mono ctr ?_
            clear ctr
            rintro e w8 ⟨rfl, rfl⟩
            go_simp
            refine hK _ _ (Ext.refl _ _) ?_
            clear hK K
            refine wpTree_call rfl rfl (fun K hK => ?_)
            go_simp
            refine hK _ _ (Ext.refl _ _) ?_
            clear hK K
            iterate 1 (refine wpTree_quiet rfl rfl ?_; apply Exists.intro; refine ⟨?_, ?_⟩; (intro W hW; go_simp; try with_reducible rfl); (intro K hK; simp only [Act.put, List.setIfInBounds_toArray, List.set_cons_zero, List.set_cons_succ]; refine hK _ ?_; clear hK K))
            iterate 2 (refine wpTree_quiet rfl rfl ?_; apply Exists.intro; refine ⟨?_, ?_⟩; (intro W hW; go_simp; try with_reducible rfl); (intro K hK; simp only [Act.put, List.setIfInBounds_toArray, List.set_cons_zero, List.set_cons_succ]; refine hK _ ?_; clear hK K))
            refine wpTree_end ?_
            go_wp2_with fail
            go_meet
            case rel => exact ⟨rfl, J7, X7, hs7, D3, H7, hD3⟩
          · intro K hK
            go_simp
            refine hK _ _ (Ext.refl _ _) ?_
            clear hK K
            iterate 1 (refine wpTree_quiet rfl rfl ?_; apply Exists.intro; refine ⟨?_, ?_⟩; (intro W hW; go_simp; try with_reducible rfl); (intro K hK; simp only [Act.put, List.setIfInBounds_toArray, List.set_cons_zero, List.set_cons_succ]; refine hK _ ?_; clear hK K))
            refine wpTree_call rfl rfl (fun K hK => ?_)
            go_simp
            have ctr := len_calls J7 nT hnT
            with_reducible refine Calls.mono ctr ?_
            clear ctr
            rintro e w8 ⟨rfl, rfl⟩
            go_simp
            refine hK _ _ (Ext.refl _ _) ?_
            clear hK K
            iterate 2 (refine wpTree_quiet rfl rfl ?_; apply Exists.intro; refine ⟨?_, ?_⟩; (intro W hW; go_simp; try with_reducible rfl); (intro K hK; simp only [Act.put, List.setIfInBounds_toArray, List.set_cons_zero, List.set_cons_succ]; refine hK _ ?_; clear hK K))
            refine wpTree_end ?_
            go_wp2_with fail
            go_meet
            case rel => exact ⟨rfl, J7, X7, hs7, D3, H7, hD3⟩
        case rest =>
          obtain ⟨rfl, J, X3, hsc, D3, H3, hD3⟩ := hcut
          generalize wc = w4 at *
          obtain ⟨c0, c1, c2, c3⟩ := hc w4 X3
          by_cases hke : k < n2
          · have hke2 : (k : Int) < (n2 : Int) := by omega
            have hkes : k < es.length := by rw [IE.len]; exact hke
            obtain ⟨hA2, hce⟩ := IE.at_ k hkes
            replace hce := hce w4 X3
            obtain ⟨e, he⟩ : ∃ e, es[k] = e := ⟨_, rfl⟩
            rw [he] at hce
            clear he
            go_wp2_with fail
            obtain ⟨qa, qf, qu, qn, v, hq⟩ := found_any T a e
            have HQ := Lib.hid hq
            clear hq
            have ctr := find_both J a e qa qf qu qn v HQ.out
            with_reducible refine Calls.mono ctr ?_
            clear ctr
            rintro e w5 ⟨rfl, x5⟩
            go_upto_region 15 with (fail)
            have x6 := x5.alloc (.cells #[.int .u16 qa, .int .u32 qf, .int .u32 qu, .int .u32 qn] 37)
            have P6 := Blk.new w5 37 #[.int .u16 qa, .int .u32 qf, .int .u32 qu, .int .u32 qn]
            generalize w5.alloc (.cells #[.int .u16 qa, .int .u32 qf, .int .u32 qu, .int .u32 qn] 37) = w6 at *
            generalize w5.heap.size = g6 at *
            have J6 := J.extN x6
            have H6 := H3.extN x6
            have hs6 := x6.size
            go_wp2_with fail
            have ctr := rfind_calls H6 J.sound.len a e qa qf qu qn v HQ.out
            with_reducible refine Calls.mono ctr ?_
            clear ctr
            rintro e w7 ⟨rfl, x7⟩
            go_upto_region 16 with (fail)
            have x8 := x7.alloc (.cells #[.int .u16 qa, .int .u32 qf, .int .u32 qu, .int .u32 qn] 40)
            have P8 := Blk.new w7 40 #[.int .u16 qa, .int .u32 qf, .int .u32 qu, .int .u32 qn]
            generalize w7.alloc (.cells #[.int .u16 qa, .int .u32 qf, .int .u32 qu, .int .u32 qn] 40) = w8 at *
            generalize w7.heap.size = g8 at *
            have y8 : Ext Non w6 w8.drew := x8.drew
            have P8' := P8.drew
            have P6' := P6.extN_ y8
            have J8 := J6.extN y8
            have H8 := H6.extN y8
            have X8 := (X3.transN x6).transN y8
            have hs8 := y8.size
            obtain ⟨V, hV⟩ : ∃ V, T.filter (fun r => r.has e) = V := ⟨_, rfl⟩
            obtain ⟨nv, hnv⟩ : ∃ nv, V.length = nv := ⟨_, rfl⟩
            have hnv64 : nv ≤ 64 := by
              have h1 : V.length ≤ T.length := by rw [← hV]; exact List.length_filter_le _ _
              have h2 := J.sound.len
              omega
            have HV := Lib.hid hV
            clear hV
            have hvv : (v != v) = false := by simp
            refine wp_region_seq Non ((0, true) :: (1, true) :: (2, true) :: (3, true) :: (4, true) :: (6, true) :: (5, false) :: (7, true) :: (8, true) :: (9, true) :: (10, true) :: (11, true) :: (13, true) :: (14, true) :: (12, false) :: (15, false) :: (16, false) :: (17, true) :: (18, true) :: []) (by kernel_rfl) (by kernel_rfl) (by kernel_rfl) ?_
            clear P6 P8 J6 H6 x8 y8 x7 x6 x5
            generalize w8.drew = u8 at *
            iterate 6 (refine wpSeq_quiet rfl rfl ?_; apply Exists.intro; refine ⟨?_, ?_⟩; (intro W hW; obtain ⟨q0, q1, q2, q3⟩ := rc_cells (P6'.extN_ hW); obtain ⟨q4, q5, q6, q7⟩ := rc_cells (P8'.extN_ hW); go_simp; try with_reducible rfl); (intro K hK; simp only [Act.put, List.setIfInBounds_toArray, List.set_cons_zero, List.set_cons_succ]; refine hK _ ?_; clear hK K))
            clear P6' P8'
            refine wpSeq_call rfl rfl (fun K hK => ?_)
            go_simp
            have ctr := of_calls u8 qa qf qu qn
            with_reducible refine Calls.mono ctr ?_
            clear ctr
            rintro e u9 ⟨rfl, x9⟩
            go_simp
            refine hK _ _ x9 ?_
            clear hK K
            iterate 7 (refine wpSeq_quiet rfl rfl ?_; apply Exists.intro; refine ⟨?_, ?_⟩; (intro W hW; have r1 := neq_rr W qa qf qu qn; go_simp; try with_reducible rfl); (intro K hK; simp only [Act.put, List.setIfInBounds_toArray, List.set_cons_zero, List.set_cons_succ]; refine hK _ ?_; clear hK K))
            have J9 := J8.extN x9
            have H9 := H8.extN x9
            refine wpSeq_call rfl rfl (fun K hK => ?_)
            go_simp
            have ctr := valid_calls J9 e V HV.out nv hnv
            with_reducible refine Calls.mono ctr ?_
            clear ctr
            rintro e u10 ⟨A3, c3, rfl, O3, x10⟩
            go_simp
            refine hK _ _ x10 ?_
            clear hK K
            have H10 := H9.extN x10
            refine wpSeq_call rfl rfl (fun K hK => ?_)
            go_simp
            have ctr := rvalid_calls H10 J9.sound.len e V HV.out nv hnv
            with_reducible refine Calls.mono ctr ?_
            clear ctr
            rintro e u11 ⟨A4, c4, rfl, O4, x11⟩
            go_simp
            refine hK _ _ x11 ?_
            clear hK K
            refine wpSeq_call rfl rfl (fun K hK => ?_)
            go_simp
            have ctr := same_calls (OwO.extN O3 x11) O4 nv hnv hnv64
            with_reducible refine Calls.mono ctr ?_
            clear ctr
            rintro e u12 ⟨rfl, x12⟩
            go_simp
            refine hK _ _ x12 ?_
            clear hK K
            iterate 2 (refine wpSeq_quiet rfl rfl ?_; apply Exists.intro; refine ⟨?_, ?_⟩; (intro W hW; go_simp; try with_reducible rfl); (intro K hK; simp only [Act.put, List.setIfInBounds_toArray, List.set_cons_zero, List.set_cons_succ]; refine hK _ ?_; clear hK K))
            refine wpSeq_end ?_
            have y12 := (x10.transN x11).transN x12
            have X12 := (X8.transN x9).transN y12
            have J12 := J9.extN y12
            have H12 := H9.extN y12
            have hs12 := (x9.transN y12).size
            go_wp2_with fail
            go_roundw
            case rel => exact ⟨k + 1, D3, by omega, by go_num, by rw [HTK.out]; exact J12, by rw [HTK.out]; exact H12, fun i hi => by have := hD3 i hi; omega, X12⟩
            case measure => simp [intOf]; omega
          · have hke2 : ¬ (k : Int) < (n2 : Int) := by omega
            go_wp2_with fail
            obtain ⟨qa, qf, qu, qn, v, hq⟩ := found_any T a ru
            have HQ := Lib.hid hq
            clear hq
            have ctr := find_both J a ru qa qf qu qn v HQ.out
            with_reducible refine Calls.mono ctr ?_
            clear ctr
            rintro e w5 ⟨rfl, x5⟩
            go_upto_region 15 with (fail)
            have x6 := x5.alloc (.cells #[.int .u16 qa, .int .u32 qf, .int .u32 qu, .int .u32 qn] 37)
            have P6 := Blk.new w5 37 #[.int .u16 qa, .int .u32 qf, .int .u32 qu, .int .u32 qn]
            generalize w5.alloc (.cells #[.int .u16 qa, .int .u32 qf, .int .u32 qu, .int .u32 qn] 37) = w6 at *
            generalize w5.heap.size = g6 at *
            have J6 := J.extN x6
            have H6 := H3.extN x6
            have hs6 := x6.size
            go_wp2_with fail
            have ctr := rfind_calls H6 J.sound.len a ru qa qf qu qn v HQ.out
            with_reducible refine Calls.mono ctr ?_
            clear ctr
            rintro e w7 ⟨rfl, x7⟩
            go_upto_region 16 with (fail)
            have x8 := x7.alloc (.cells #[.int .u16 qa, .int .u32 qf, .int .u32 qu, .int .u32 qn] 40)
            have P8 := Blk.new w7 40 #[.int .u16 qa, .int .u32 qf, .int .u32 qu, .int .u32 qn]
            generalize w7.alloc (.cells #[.int .u16 qa, .int .u32 qf, .int .u32 qu, .int .u32 qn] 40) = w8 at *
            generalize w7.heap.size = g8 at *
            have y8 : Ext Non w6 w8.drew := x8.drew
            have P8' := P8.drew
            have P6' := P6.extN_ y8
            have J8 := J6.extN y8
            have H8 := H6.extN y8
            have X8 := (X3.transN x6).transN y8
            have hs8 := y8.size
            obtain ⟨V, hV⟩ : ∃ V, T.filter (fun r => r.has ru) = V := ⟨_, rfl⟩
            obtain ⟨nv, hnv⟩ : ∃ nv, V.length = nv := ⟨_, rfl⟩
            have hnv64 : nv ≤ 64 := by
              have h1 : V.length ≤ T.length := by rw [← hV]; exact List.length_filter_le _ _
              have h2 := J.sound.len
              omega
            have HV := Lib.hid hV
            clear hV
            have hvv : (v != v) = false := by simp
            refine wp_region_seq Non ((0, true) :: (1, true) :: (2, true) :: (3, true) :: (4, true) :: (6, true) :: (5, false) :: (7, true) :: (8, true) :: (9, true) :: (10, true) :: (11, true) :: (13, true) :: (14, true) :: (12, false) :: (15, false) :: (16, false) :: (17, true) :: (18, true) :: []) (by kernel_rfl) (by kernel_rfl) (by kernel_rfl) ?_
            clear P6 P8 J6 H6 x8 y8 x7 x6 x5
            generalize w8.drew = u8 at *
            iterate 6 (refine wpSeq_quiet rfl rfl ?_; apply Exists.intro; refine ⟨?_, ?_⟩; (intro W hW; obtain ⟨q0, q1, q2, q3⟩ := rc_cells (P6'.extN_ hW); obtain ⟨q4, q5, q6, q7⟩ := rc_cells (P8'.extN_ hW); go_simp; try with_reducible rfl); (intro K hK; simp only [Act.put, List.setIfInBounds_toArray, List.set_cons_zero, List.set_cons_succ]; refine hK _ ?_; clear hK K))
            clear P6' P8'
            refine wpSeq_call rfl rfl (fun K hK => ?_)
            go_simp
            have ctr := of_calls u8 qa qf qu qn
            with_reducible refine Calls.mono ctr ?_
            clear ctr
            rintro e u9 ⟨rfl, x9⟩
            go_simp
            refine hK _ _ x9 ?_
            clear hK K
            iterate 7 (refine wpSeq_quiet rfl rfl ?_; apply Exists.intro; refine ⟨?_, ?_⟩; (intro W hW; have r1 := neq_rr W qa qf qu qn; go_simp; try with_reducible rfl); (intro K hK; simp only [Act.put, List.setIfInBounds_toArray, List.set_cons_zero, List.set_cons_succ]; refine hK _ ?_; clear hK K))
            have J9 := J8.extN x9
            have H9 := H8.extN x9
            refine wpSeq_call rfl rfl (fun K hK => ?_)
            go_simp
            have ctr := valid_calls J9 ru V HV.out nv hnv
            with_reducible refine Calls.mono ctr ?_
            clear ctr
            rintro e u10 ⟨A3, c3, rfl, O3, x10⟩
            go_simp
            refine hK _ _ x10 ?_
            clear hK K
            have H10 := H9.extN x10
            refine wpSeq_call rfl rfl (fun K hK => ?_)
            go_simp
            have ctr := rvalid_calls H10 J9.sound.len ru V HV.out nv hnv
            with_reducible refine Calls.mono ctr ?_
            clear ctr
            rintro e u11 ⟨A4, c4, rfl, O4, x11⟩
            go_simp
            refine hK _ _ x11 ?_
            clear hK K
            refine wpSeq_call rfl rfl (fun K hK => ?_)
            go_simp
            have ctr := same_calls (OwO.extN O3 x11) O4 nv hnv hnv64
            with_reducible refine Calls.mono ctr ?_
            clear ctr
            rintro e u12 ⟨rfl, x12⟩
            go_simp
            refine hK _ _ x12 ?_
            clear hK K
            iterate 2 (refine wpSeq_quiet rfl rfl ?_; apply Exists.intro; refine ⟨?_, ?_⟩; (intro W hW; go_simp; try with_reducible rfl); (intro K hK; simp only [Act.put, List.setIfInBounds_toArray, List.set_cons_zero, List.set_cons_succ]; refine hK _ ?_; clear hK K))
            refine wpSeq_end ?_
            have y12 := (x10.transN x11).transN x12
            have X12 := (X8.transN x9).transN y12
            have J12 := J9.extN y12
            have H12 := H9.extN y12
            have hs12 := (x9.transN y12).size
            go_wp2_with fail
            go_roundw
            case rel => exact ⟨k + 1, D3, by omega, by go_num, by rw [HTK.out]; exact J12, by rw [HTK.out]; exact H12, fun i hi => by have := hD3 i hi; omega, X12⟩
            case measure => simp [intOf]; omega
      case false =>
        clear hbb
        have hS := J.sound
        generalize addall [] (l.take k) = S at *
        obtain ⟨nS, hnS⟩ : ∃ nS, S.length = nS := ⟨_, rfl⟩
        obtain ⟨b, hb⟩ : ∃ b, dirs S = b := ⟨_, rfl⟩
        obtain ⟨q, hq⟩ : ∃ q, b.length = q := ⟨_, rfl⟩
        have hq6 : q ≤ 1000000 := by
          have := dirs_len S
          have := hS.len
          rw [← hq, ← hb]
          omega
        have hlo : lode b = (0, S) := by rw [← hb]; exact lode_dirs hS
        have HL := Lib.hid hlo
        have HB := Lib.hid hb
        clear hlo hb
        have G4 := G.extN X
        have hsw := X.size
        go_wp2_with fail
        have ctr := bytes_calls G4 (by omega) J q (by rw [HB.out]; exact hq)
        with_reducible refine Calls.mono ctr ?_
        clear ctr
        rintro e w5 ⟨A5, c5, rfl, O5, x5⟩
        rw [HB.out] at O5
        have J5 := J.extN x5
        have K5 := K.extN x5
        have X5 := X.transN x5
        have G5 := G.extN X5
        have hs5 := X5.size
        have hq5 : q ≤ c5 := by have := O5.len.1; omega
        have R5 : Rd w5 (· < w5.heap.size) A5 (bvs b) := O5.rd.imp (fun k hk _ => hk)
        clear O5
        go_wp2_with fail
        have ctr := load_ok G5 (by omega) c5 q R5 hq hq5 (by omega) (fun k hk => hk) S HL.out
        with_reducible refine Calls.mono ctr ?_
        clear ctr
        rintro e w6 ⟨dx, rfl, H6, x6⟩
        have J6 := J5.extN x6
        have K6 := K5.extN x6
        have R6 := R5.extN x6
        have X6 := X5.transN x6
        go_upto_region 20 with (fail)
        have y7 : Ext Non w6 w6.drew := (Ext.refl Non w6).drew
        have J7 := J6.extN y7
        have K7 := K6.extN y7
        have H7 := H6.extN y7
        have R7 := R6.extN y7
        have X7 := X6.transN y7
        have G7 := G.extN X7
        have hs7 := X7.size
        have hbb : (b == b) = true := beq_self_eq_true b
        refine wp_region_seq Non ((0, true) :: (1, true) :: (2, true) :: (3, true) :: (4, true) :: (5, false) :: (6, true) :: (7, true) :: (8, true) :: (9, true) :: (10, true) :: (11, true) :: (12, true) :: (13, true) :: (14, true) :: (15, true) :: (16, true) :: (17, true) :: (19, true) :: (18, false) :: (20, false) :: (21, true) :: (22, true) :: (23, true) :: (24, true) :: (27, true) :: (28, true) :: (25, false) :: (26, true) :: (29, true) :: (30, true) :: (31, true) :: []) (by kernel_rfl) (by kernel_rfl) (by kernel_rfl) ?_
        clear y7 J6 K6 H6 R6 X6
        generalize w6.drew = w7 at *
        iterate 5 (refine wpSeq_quiet rfl rfl ?_; apply Exists.intro; refine ⟨?_, ?_⟩; (intro W hW; have cv := conv_str (R7.extN hW) q c5 hq; go_simp; try with_reducible rfl); (intro K hK; simp only [Act.put, List.setIfInBounds_toArray, List.set_cons_zero, List.set_cons_succ]; refine hK _ ?_; clear hK K))
        refine wpSeq_call rfl rfl (fun K hK => ?_)
        go_simp
        have ctr := rbytes_calls K7 hS b HB.out
        with_reducible refine Calls.mono ctr ?_
        clear ctr
        rintro e w8 ⟨rfl, x8⟩
        go_simp
        refine hK _ _ x8 ?_
        clear hK K
        iterate 13 (refine wpSeq_quiet rfl rfl ?_; apply Exists.intro; refine ⟨?_, ?_⟩; (intro W hW; go_simp; try with_reducible rfl); (intro K hK; simp only [Act.put, List.setIfInBounds_toArray, List.set_cons_zero, List.set_cons_succ]; refine hK _ ?_; clear hK K))
        have J8 := J7.extN x8
        have H8 := H7.extN x8
        have R8 := R7.extN x8
        have G8 := G7.extN x8
        have hs8 := x8.size
        refine wpSeq_call rfl rfl (fun K hK => ?_)
        go_simp
        have ctr := len_calls H8 nS hnS
        with_reducible refine Calls.mono ctr ?_
        clear ctr
        rintro e w9 ⟨rfl, rfl⟩
        go_simp
        refine hK _ _ (Ext.refl _ _) ?_
        clear hK K
        refine wpSeq_call rfl rfl (fun K hK => ?_)
        go_simp
        have ctr := len_calls J8 nS hnS
        with_reducible refine Calls.mono ctr ?_
        clear ctr
        rintro e w9 ⟨rfl, rfl⟩
        go_simp
        refine hK _ _ (Ext.refl _ _) ?_
        clear hK K
        iterate 6 (refine wpSeq_quiet rfl rfl ?_; apply Exists.intro; refine ⟨?_, ?_⟩; (intro W hW; have cv := conv_str (R8.extN hW) q c5 hq; go_simp; try with_reducible rfl); (intro K hK; simp only [Act.put, List.setIfInBounds_toArray, List.set_cons_zero, List.set_cons_succ]; refine hK _ ?_; clear hK K))
        refine wpSeq_call rfl rfl (fun K hK => ?_)
        go_simp
        have ctr := bytes_calls G8 (by omega) H8 q (by rw [HB.out]; exact hq)
        with_reducible refine Calls.mono ctr ?_
        clear ctr
        rintro e w9 ⟨A9, c9, rfl, O9, x9⟩
        go_simp
        refine hK _ _ x9 ?_
        clear hK K
        rw [HB.out] at O9
        have R9 := O9.rd
        iterate 4 (refine wpSeq_quiet rfl rfl ?_; apply Exists.intro; refine ⟨?_, ?_⟩; (intro W hW; have cv := conv_str (R9.extN hW) q c9 hq; go_simp; try with_reducible rfl); (intro K hK; simp only [Act.put, List.setIfInBounds_toArray, List.set_cons_zero, List.set_cons_succ]; refine hK _ ?_; clear hK K))
        refine wpSeq_end ?_
        go_wp2_with fail
        go_ret
        exact ⟨rfl, ((X7.transN x8).transN x9).belowN⟩
end Go.Proofs.YtnmpfbffacljfaaDoor
