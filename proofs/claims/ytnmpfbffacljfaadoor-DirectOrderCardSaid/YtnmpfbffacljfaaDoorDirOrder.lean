/- The law DirectOrder: its walk. -/
import Derived.Test.YtnmpfbffacljfaaDoorDirW
import Derived.Test.YtnmpfbffacljfaaDoorSeqS
import Derived.Deep.DeepCutAuto
namespace Go.Proofs.YtnmpfbffacljfaaDoor
open Go.RowKit

theorem perm_take {S o : List Rc} {r : Rc} (h : S.Perm o) (hd : dire S r = 0) : (dirl S r).Perm (o ++ [r]) := by
  unfold dirl
  rw [if_pos hd]
  exact ((ins_perm r S).trans (h.cons r)).trans (List.perm_append_comm (l₁ := [r]) (l₂ := o))
/-- Who was taken is taken again, in whatever order. -/
theorem again_zero {S T o : List Rc} (hS : Sound S) (h : S.Perm o) (j : Nat) (hj : j < o.length) (hT : Sound T) (hp : T.Perm (o.drop (j + 1))) : dire T o[j] = 0 ∧ (dirl T o[j]).Perm (o.drop j) := by
  have ho := pair_perm h (fun a b h => by rw [clash_comm]; exact h) hS.apart
  have hm : o[j] ∈ S := h.mem_iff.2 (List.getElem_mem hj)
  have hlen := h.length_eq
  have hl := hS.len
  have hc : o.drop j = o[j] :: o.drop (j + 1) := List.drop_eq_getElem_cons hj
  have h0 : dire T o[j] = 0 := by
    refine dire_of (hS.fine _ hm) (fun x hx => ?_) ?_
    · have hx' := hp.mem_iff.1 hx
      have := ho.drop (i := j)
      rw [hc, List.pairwise_cons] at this
      rw [clash_comm]
      exact this.1 x hx'
    · rw [hp.length_eq, List.length_drop]
      omega
  refine ⟨h0, ?_⟩
  unfold dirl
  rw [if_pos h0, hc]
  exact (ins_perm _ T).trans (hp.cons _)
set_option maxRecDepth 100000 in
set_option maxHeartbeats 4000000 in
theorem order_walk (A : Option Addr) (n c : Nat) (l : List Rc) (w : World) (IR : InR w A n l) (G : Glob w) (hw2 : 2 ≤ w.heap.size) :
    Calls Tryd.prog 6 #[.slice A n c] w fun e' w' => e' = .returned (.bool true) ∧ Below w.heap.size w w' := by
  go_enter Tryd.func6, Tryd.ntmps6
  go_wp2_with fail
  have ctr := shown_calls G hw2
  with_reducible refine Calls.mono ctr ?_
  clear ctr
  rintro e w1 ⟨rfl, X1⟩
  go_wp2_with fail
  have ctr := new_calls w1
  with_reducible refine Calls.mono ctr ?_
  clear ctr
  rintro e w2 ⟨d, rfl, H2, x2⟩
  have X2 := X1.transN x2
  have hs1 := X1.size
  obtain ⟨D, hD⟩ : ∃ D : Nat → Prop, D = fun k => w1.heap.size ≤ k ∧ k < w2.heap.size := ⟨_, rfl⟩
  rw [← hD] at H2
  have hDw : ∀ i, i < w.heap.size → D i → Non i := fun i hi h => by rw [hD] at h; omega
  go_wp2_with fail
  have ctr := new_calls w2
  with_reducible refine Calls.mono ctr ?_
  clear ctr
  rintro e w3 ⟨d2, rfl, Hb, x3⟩
  have X3 := X2.transN x3
  have Ha := H2.extN x3
  have hs2 := x2.size
  have hs3 := x3.size
  obtain ⟨D2, hD2⟩ : ∃ D2 : Nat → Prop, D2 = fun k => w2.heap.size ≤ k ∧ k < w3.heap.size := ⟨_, rfl⟩
  rw [← hD2] at Hb
  have hD2w : ∀ i, i < w.heap.size → D2 i → Non i := fun i hi h => by rw [hD2] at h; omega
  have hDD : ∀ g, D2 g → ¬ D g := fun g h1 h2 => by rw [hD2] at h1; rw [hD] at h2; omega
  have hDb : ∀ g, D g → g < w3.heap.size := fun g h => by rw [hD] at h; omega
  have hD2b : ∀ g, D2 g → g < w3.heap.size := fun g h => by rw [hD2] at h; omega
  clear X1 x2 x3 X2 H2
  go_wp2_with fail
  go_loopw [6, 7] (fun s z wr => ∃ (k : Nat) (S o : List Rc) (Ao : Option Addr) (co : Nat), k ≤ n ∧ z = .int .i64 k ∧ s = .slice Ao o.length co ∧ OwR wr w3.heap.size Ao co o ∧ Di wr D d S ∧ S.Perm o ∧ (∀ r ∈ o, r.ok) ∧ Di wr D2 d2 [] ∧ Ext Non w wr ∧ w3.heap.size ≤ wr.heap.size) (fun _ z _ => n - (intOf z).toNat)
  case atStart => exact ⟨0, [], [], none, 0, Nat.zero_le _, rfl, rfl, OwO.nil _ _, Ha, List.Perm.refl _, by simp, Hb, X3, Nat.le_refl _⟩
  case round =>
    clear Ha Hb X3
    obtain ⟨k, S, o, Ao, co, hk, rfl, rfl, O, Ha, hp, hok, Hb, X, hwr⟩ := hrel
    have hS := Ha.sound
    have hS64 := hS.len
    have hpl := hp.length_eq
    obtain ⟨bb, hbb⟩ : ∃ bb : Bool, (bb = true ∧ (k : Int) < (n : Int) ∧ (k : Int) < 60) ∨ (bb = false ∧ ¬ (k : Int) < (n : Int)) ∨ (bb = false ∧ (k : Int) < (n : Int) ∧ ¬ (k : Int) < 60) := by
      by_cases h1 : k < n
      · by_cases h2 : k < 60
        · exact ⟨true, .inl ⟨rfl, by omega, by omega⟩⟩
        · exact ⟨false, .inr (.inr ⟨rfl, by omega, by omega⟩)⟩
      · exact ⟨false, .inr (.inl ⟨rfl, by omega⟩)⟩
    go_upto_region 8 with (fail)
    go_cut [25] (fun s wc => s = .bool bb ∧ wr = wc)
    case first =>
      rcases hbb with ⟨rfl, h1, h2⟩ | ⟨rfl, h1⟩ | ⟨rfl, h1, h2⟩
      all_goals
        go_wp2_with fail
        go_meet
        case rel => exact ⟨rfl, rfl⟩
    case rest =>
      obtain ⟨rfl, rfl⟩ := hcut
      obtain ⟨m, hm⟩ : ∃ m, o.length = m := ⟨_, rfl⟩
      rw [hm]
      cases bb
      case true =>
        have hkn : k < l.length := by rw [IR.len]; rcases hbb with ⟨_, h1, _⟩ | ⟨h, _⟩ | ⟨h, _⟩; omega; cases h; cases h
        have hkn2 : (k : Int) < (n : Int) := by rw [IR.len] at hkn; omega
        have hk60 : (k : Int) < 60 := by rcases hbb with ⟨_, _, h1⟩ | ⟨h, _⟩ | ⟨h, _⟩; exact h1; cases h; cases h
        have hro := IR.ok _ (List.getElem_mem hkn)
        obtain ⟨⟨ra, rf, ru, rn⟩, hr⟩ : ∃ r, l[k] = r := ⟨_, rfl⟩
        obtain ⟨hA, hc⟩ := IR.cells k hkn ra rf ru rn hr
        obtain ⟨c0, c1, c2, c3⟩ := hc wr X
        rw [hr] at hro
        clear hbb hr
        go_wp2_with fail
        have ctr := add_i Ha ra rf ru rn hro _ rfl _ rfl rfl rfl rfl rfl rfl
        with_reducible refine Calls.mono ctr ?_
        clear ctr
        rintro e w5 ⟨rfl, Ha5, x5⟩
        have X5 := X.trans x5 hDw
        obtain ⟨c0, c1, c2, c3⟩ := hc w5 X5
        have Hb5 := Hb.ext x5 hDD
        have O5 := OwO.ext O x5 (fun g hg h => by have := (O.lt hg).1; have := hDb g h; omega)
        have hs5 := x5.size
        clear Ha Hb O x5 X
        by_cases h0 : dire S ⟨ra, rf, ru, rn⟩ = 0
        · have hp5 := perm_take hp h0
          rw [h0]
          generalize dirl S ⟨ra, rf, ru, rn⟩ = T at *
          have x6 := (Ext.refl Non w5).alloc (.cells #[.int .u16 ra, .int .u32 rf, .int .u32 ru, .int .u32 rn] 37)
          have O6 := OwO.extN O5 x6
          have B6 := Blk.new w5 37 (rcA ⟨ra, rf, ru, rn⟩)
          go_wp2_with (at_builtin; refine wp_apR rfl (.tmp 35) (.tmp 40) rfl m rfl O6 hm 1 rfl B6 (by omega) (by rw [World.size_alloc]; omega) ?_; intro A7 c7 w7 O7 x7 hob7)
          have hlo : ∀ g, ob Ao = some g → w3.heap.size ≤ g := fun g hg => (O5.lt hg).1
          have hs7 := x7.size
          rw [World.size_alloc] at hs7
          refine ⟨⟨k + 1, T, o ++ [⟨ra, rf, ru, rn⟩], A7, c7, by omega, by go_num, by rw [List.length_append, hm]; rfl, O7, (Ha5.extN x6).ext x7 (fun g hg h => by have := hlo g h; have := hDb g hg; omega), hp5, fun r hr => ?_, (Hb5.extN x6).ext x7 (fun g hg h => by have := hlo g h; have := hD2b g hg; omega), (X5.transN x6).trans x7 (fun g hg h => by have := hlo g h; have := X5.size; omega), by omega⟩, by simp [intOf]; omega⟩
          rw [List.mem_append, List.mem_singleton] at hr
          rcases hr with hr | rfl
          · exact hok r hr
          · exact hro
        · have hT : dirl S ⟨ra, rf, ru, rn⟩ = S := by unfold dirl; rw [if_neg h0]
          rw [hT] at Ha5
          have n1 : ¬ ((dire S ⟨ra, rf, ru, rn⟩ : Int) = 0) := by omega
          go_wp2_with fail
          exact ⟨⟨k + 1, S, o, Ao, co, by omega, by go_num, by rw [hm], O5, Ha5, hp, hok, Hb5, X5, by omega⟩, by simp [intOf]; omega⟩
      case false =>
        clear hbb
        have hm64 : m ≤ 64 := by omega
        go_wp2_with fail
        go_loopw [8] (fun z wq => ∃ (j : Nat) (T : List Rc), j ≤ m ∧ z = .int .i64 j ∧ Di wq D2 d2 T ∧ T.Perm (o.drop j) ∧ Ext D2 wr wq) (fun z _ => (intOf z).toNat)
        case atStart => exact ⟨m, [], Nat.le_refl _, rfl, Hb, by rw [List.drop_of_length_le (by omega)], Ext.refl _ _⟩
        case round =>
          clear Hb
          obtain ⟨j, T, hj, rfl, Hb, hpT, x5⟩ := hrel
          by_cases hj0 : 0 < j
          · obtain ⟨i, rfl⟩ : ∃ i, j = i + 1 := ⟨j - 1, by omega⟩
            have hio : i < o.length := by omega
            obtain ⟨h0, hpT2⟩ := again_zero hS hp i hio Hb.sound hpT
            have hro := hok _ (List.getElem_mem hio)
            have O5 := OwO.ext O x5 (fun g hg h => by have := (O.lt hg).1; have := hD2b g h; omega)
            obtain ⟨hA, g, q, ha, _, e0, e1, e2, e3⟩ := OwR.at_ O5 i hio
            have iw : IntKind.i64.wrap (((i + 1 : Nat) : Int) - 1) = (i : Int) := by rw [IntKind.wrap_i64]; omega
            have i1 : (0 : Int) < ((i + 1 : Nat) : Int) := by omega
            have i2 : (i : Int) < (m : Int) := by omega
            have i64 : (i : Int) < 64 := by omega
            generalize o[i] = r at *
            obtain ⟨ra, rf, ru, rn⟩ := r
            simp only at e0 e1 e2 e3
            have H0 := Lib.hid h0
            clear h0 O5
            go_wp2_with fail
            have ctr := add_i Hb ra rf ru rn hro 0 H0.out _ rfl rfl rfl rfl rfl rfl
            with_reducible refine Calls.mono ctr ?_
            clear ctr
            rintro e w6 ⟨rfl, Hb6, x6⟩
            go_wp2_with fail
            exact ⟨⟨i, _, by omega, by go_num, Hb6, hpT2, x5.trans' x6⟩, by simp [intOf]⟩
          · obtain rfl : 0 = j := by omega
            rw [List.drop_zero] at hpT
            have hTS : T = S := Hb.sound.eq hS (hpT.trans hp.symm)
            subst hTS
            have X5 : Ext Non w wr := X.trans x5 hD2w
            have Ha5 := Ha.ext x5 (fun g h1 h2 => hDD g h2 h1)
            have hml : T.length = m := by rw [hpl, hm]
            obtain ⟨b, hb⟩ : ∃ b, dirs T = b := ⟨_, rfl⟩
            have hbl : b.length = 14 * m + 32 := by rw [← hb, dirs_len, hml]; omega
            obtain ⟨nb, hnb⟩ : ∃ nb, b.length = nb := ⟨_, rfl⟩
            have HB := Lib.hid hb
            have hbn : (dirs T).length = nb := by rw [hb]; exact hnb
            have hs5 := X5.size
            clear hb Ha X x5 O
            have iw1 : IntKind.i64.wrap (14 * (m : Int)) = 14 * (m : Int) := by rw [IntKind.wrap_i64]; omega
            have iw2 : IntKind.i64.wrap (14 * (m : Int) + 32) = 14 * (m : Int) + 32 := by rw [IntKind.wrap_i64]; omega
            have ine : (nb : Int) = 14 * (m : Int) + 32 := by omega
            go_upto_region 17 with (fail)
            have K := (Ext.refl Non wr).drew
            replace Ha5 := Ha5.extN K
            replace Hb := Hb.extN K
            replace X5 := X5.transN K
            have hs5' : w.heap.size ≤ wr.drew.heap.size := hs5
            clear K
            refine wp_region_seq Non ((0, true) :: (1, true) :: (2, true) :: (5, true) :: (3, false) :: (4, true) :: (6, false) :: (7, true) :: (8, true) :: (9, true) :: (10, true) :: (11, true) :: (13, true) :: (14, true) :: (12, false) :: (15, true) :: (16, true) :: (17, true) :: (18, true) :: (21, true) :: (22, true) :: (23, true) :: (24, true) :: (19, false) :: (20, true) :: (25, true) :: (26, true) :: (27, true) :: []) (by kernel_rfl) (by kernel_rfl) (by kernel_rfl) ?_
            iterate 4 (refine wpSeq_quiet rfl rfl ?_; apply Exists.intro; refine ⟨?_, ?_⟩; (intro W hW; go_simp; try with_reducible rfl); (intro K hK; simp only [Act.put, List.setIfInBounds_toArray, List.set_cons_zero, List.set_cons_succ]; refine hK _ ?_; clear hK K))
            generalize wr.drew = v5 at *
            refine wpSeq_call rfl rfl (fun K hK => ?_)
            go_simp
            have ctr := bytes_calls (G.extN X5) (by omega) Ha5 nb hbn
            with_reducible refine Calls.mono ctr ?_
            clear ctr
            rintro e w7 ⟨A7, c7, rfl, O7, x7⟩
            go_simp
            refine hK _ _ x7 ?_
            clear hK K
            rw [HB.out] at O7
            have X7 := X5.transN x7
            have Ha7 := Ha5.extN x7
            have Hb7 := Hb.extN x7
            have hs7 := x7.size
            clear X5 Ha5 Hb x7
            iterate 1 (refine wpSeq_quiet rfl rfl ?_; apply Exists.intro; refine ⟨?_, ?_⟩; (intro W hW; have c7 := conv_str (OwB.rd (OwB.extN O7 hW)) nb c7 hnb; go_simp; try with_reducible rfl); (intro K hK; simp only [Act.put, List.setIfInBounds_toArray, List.set_cons_zero, List.set_cons_succ]; refine hK _ ?_; clear hK K))
            refine wpSeq_call rfl rfl (fun K hK => ?_)
            go_simp
            have ctr := bytes_calls (G.extN X7) (by omega) Hb7 nb hbn
            with_reducible refine Calls.mono ctr ?_
            clear ctr
            rintro e w8 ⟨A8, c8, rfl, O8, x8⟩
            go_simp
            refine hK _ _ x8 ?_
            clear hK K
            rw [HB.out] at O8
            have X8 := X7.transN x8
            have Ha8 := Ha7.extN x8
            have sn : ∀ W, (binOp .eql 9 (.string (str b)) (.string (str b))).run Tryd.prog W = .ok (.bool true) W := fun W => eql_str W b b true (by simp)
            have hs8 := x8.size
            clear X7 Ha7 Hb7 x8 O7
            iterate 7 (refine wpSeq_quiet rfl rfl ?_; apply Exists.intro; refine ⟨?_, ?_⟩; (intro W hW; have c8 := conv_str (OwB.rd (OwB.extN O8 hW)) nb c8 hnb; have s8 := sn W; go_simp; try with_reducible rfl); (intro K hK; simp only [Act.put, List.setIfInBounds_toArray, List.set_cons_zero, List.set_cons_succ]; refine hK _ ?_; clear hK K))
            refine wpSeq_call rfl rfl (fun K hK => ?_)
            go_simp
            have ctr := len_calls Ha8 m hml
            with_reducible refine Calls.mono ctr ?_
            clear ctr
            rintro e w9 ⟨rfl, rfl⟩
            go_simp
            refine hK _ _ (Ext.refl _ _) ?_
            clear hK K
            iterate 8 (refine wpSeq_quiet rfl rfl ?_; apply Exists.intro; refine ⟨?_, ?_⟩; (intro W hW; go_simp; try with_reducible rfl); (intro K hK; simp only [Act.put, List.setIfInBounds_toArray, List.set_cons_zero, List.set_cons_succ]; refine hK _ ?_; clear hK K))
            refine wpSeq_call rfl rfl (fun K hK => ?_)
            go_simp
            have ctr := bytes_calls (G.extN X8) (by omega) Ha8 nb hbn
            with_reducible refine Calls.mono ctr ?_
            clear ctr
            rintro e w9 ⟨A9, c9, rfl, O9, x9⟩
            go_simp
            refine hK _ _ x9 ?_
            clear hK K
            iterate 4 (refine wpSeq_quiet rfl rfl ?_; apply Exists.intro; refine ⟨?_, ?_⟩; (intro W hW; go_simp; try with_reducible rfl); (intro K hK; simp only [Act.put, List.setIfInBounds_toArray, List.set_cons_zero, List.set_cons_succ]; refine hK _ ?_; clear hK K))
            refine wpSeq_end ?_
            go_wp2_with fail
            go_ret
            exact ⟨rfl, (X8.transN x9).belowN⟩
end Go.Proofs.YtnmpfbffacljfaaDoor
