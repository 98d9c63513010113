/- The document's directory in memory; of, less, Valid, Find, text, Sealed, Bytes. -/
import Derived.Test.YtnmpfbffacljfaaDoorDirW
import Derived.Test.YtnmpfbffacljfaaDoorRef03S
namespace Go.Proofs.YtnmpfbffacljfaaDoor
open Go.RowKit

theorem of_calls (w : World) (ra rf ru rn : Nat) :
    Calls Tryd.prog 17 #[.agg #[.int .u16 ra, .int .u32 rf, .int .u32 ru, .int .u32 rn]] w fun e w' => e = .returned (.agg #[.int .u16 ra, .int .u32 rf, .int .u32 ru, .int .u32 rn]) ∧ Ext Non w w' := by
  go_enter Tryd.func17, Tryd.ntmps17
  have B := Blk.new (w.alloc (.cells #[.int .u16 ra, .int .u32 rf, .int .u32 ru, .int .u32 rn] 37)) 40 #[.int .u16 ra, .int .u32 rf, .int .u32 ru, .int .u32 rn]
  rw [World.size_alloc] at B
  go_wp2
  exact bodyPost_ret (Blk.results B Tryd.results17 _ rfl Tryd.underlying40 rfl (by kernel_rfl)) rfl ⟨rfl, ((Ext.refl _ _).alloc _).alloc _⟩
set_option maxHeartbeats 1000000 in
theorem less_calls (w : World) (a1 a2 a3 a4 b1 b2 b3 b4 : Nat) (v : Bool) (hv : klt ⟨a1, a2, a3, a4⟩ ⟨b1, b2, b3, b4⟩ = v) :
    Calls Tryd.prog 31 #[.agg #[.int .u16 a1, .int .u32 a2, .int .u32 a3, .int .u32 a4], .agg #[.int .u16 b1, .int .u32 b2, .int .u32 b3, .int .u32 b4]] w fun e w' => e = .returned (.bool v) ∧ Ext Non w w' := by
  have hv : decide (a1 < b1 ∨ a1 = b1 ∧ a2 < b2) = v := hv
  have HV := Lib.hid hv
  clear hv
  go_enter Tryd.func31, Tryd.ntmps31
  go_wp2_with fail
  all_goals go_ret
  all_goals refine ⟨?_, ((Ext.refl _ _).alloc _).alloc _⟩
  all_goals refine congrArg (fun b => Ending.returned (Value.bool b)) ?_
  all_goals rw [← HV.out]
  all_goals rw [Bool.eq_iff_iff]
  all_goals simp_all
  all_goals try omega

/-- The document's directory in memory. -/
structure RDi (w : World) (D : Nat → Prop) (d : Nat) (S : List Rc) : Prop where
  dj : D d
  ex : ∃ (A : Option Addr) (c : Nat), Blk w d 32 #[.slice A S.length c] ∧ OwRD w 0 A c S ∧ ∀ k, ob A = some k → D k
section
variable {S : Nat → Prop} {D D' : Nat → Prop} {w w' : World} {d : Nat} {T : List Rc}
theorem RDi.ext (h : RDi w D d T) (x : Ext S w w') (hS : ∀ k, D k → ¬ S k) : RDi w' D d T := by
  obtain ⟨A, c, h1, h2, h3⟩ := h.ex
  exact ⟨h.dj, A, c, h1.ext x (hS d h.dj), OwO.ext h2 x (fun k hk => hS k (h3 k hk)), h3⟩
theorem RDi.extN (h : RDi w D d T) (x : Ext Non w w') : RDi w' D d T := h.ext x (fun _ _ h => h)
theorem RDi.lt (h : RDi w D d T) : d < w.heap.size := by
  obtain ⟨A, c, h1, _⟩ := h.ex
  exact h1.lt
theorem RDi.imp (h : RDi w D d T) (hD : ∀ k, k < w.heap.size → D k → D' k) : RDi w D' d T := by
  obtain ⟨A, c, h1, h2, h3⟩ := h.ex
  exact ⟨hD d h1.lt h.dj, A, c, h1, h2, fun k hk => hD k (h2.lt hk).2 (h3 k hk)⟩
theorem RDi.new (w : World) : RDi (w.alloc (.cells #[.slice none 0 0] 32)) (fun k => k = w.heap.size) w.heap.size [] :=
  ⟨rfl, none, 0, Blk.new w _ _, OwO.nil _ _, fun k h => nomatch h⟩
end

theorem filter_take {α : Type} (p : α → Bool) (l : List α) (i : Nat) (h : i < l.length) : (l.take (i + 1)).filter p = (l.take i).filter p ++ (if p l[i] then [l[i]] else []) := by
  rw [List.take_succ_eq_append_getElem h, List.filter_append]
  congr 1
  rw [List.filter_cons]
  rfl
set_option maxRecDepth 100000 in
set_option maxHeartbeats 4000000 in
theorem rvalid_calls {w : World} {D : Nat → Prop} {d : Nat} {S : List Rc} (H : RDi w D d S) (hl : S.length ≤ 64) (e : Nat) (T : List Rc) (hT : S.filter (fun r => r.has e) = T) (n : Nat) (hn : T.length = n) :
    Calls Tryd.prog 23 #[.pointer (some ⟨d, 0, none⟩), .int .u32 e] w fun e' w' => ∃ A c, e' = .returned (.slice A n c) ∧ OwRD w' w.heap.size A c T ∧ Ext Non w w' := by
  subst hn
  obtain ⟨Ad, cd, B, O, _⟩ := H.ex
  obtain ⟨m, hm⟩ : ∃ m, S.length = m := ⟨_, rfl⟩
  have c1 : ∀ W, Ext Non w W → W.cell? ⟨d, 0, none⟩ = some (.slice Ad m cd) := fun W x => by rw [← hm]; exact (B.extN_ x).cell 0
  have O0 := OwRD.made w w.heap.size (Nat.le_refl _)
  have x0 := (Ext.refl Non w).alloc (.cells #[] 40)
  have HT := Lib.hid hT
  clear hT H B
  go_enter Tryd.func23, Tryd.ntmps23
  go_wp2_with fail
  go_loopw [5, 6] (fun s z wr => ∃ (i : Nat) (t : List Rc) (A : Option Addr) (c : Nat), i ≤ m ∧ z = .int .i64 i ∧ t = (S.take i).filter (fun r => r.has e) ∧ t.length ≤ i ∧ s = .slice A t.length c ∧ OwRD wr w.heap.size A c t ∧ Ext Non w wr) (fun _ z _ => m - (intOf z).toNat)
  case atStart => exact ⟨0, [], _, _, Nat.zero_le _, rfl, by simp, by simp, rfl, O0, x0⟩
  case round =>
    clear O0 x0
    obtain ⟨i, t, A, c, hi, rfl, ht, htl, rfl, Ot, X⟩ := hrel
    obtain ⟨q, hq⟩ : ∃ q, t.length = q := ⟨_, rfl⟩
    rw [hq]
    have cd0 := c1 wr X
    by_cases him : i < m
    · have i1 : (i : Int) < (m : Int) := by omega
      have i2 : (i : Int) < 64 := by omega
      have hil : i < S.length := by omega
      have hft := filter_take (fun r => r.has e) S i hil
      obtain ⟨hA, g, o, ha, _, e0, e1, e2, e3⟩ := OwRD.at_ (OwO.extN O X) i hil
      obtain ⟨⟨ra, rf, ru, rn⟩, hr⟩ : ∃ r, S[i] = r := ⟨_, rfl⟩
      rw [hr] at hft e0 e1 e2 e3
      simp only at e0 e1 e2 e3
      rw [← ht] at hft
      have hs := X.size
      have HFT := Lib.hid hft
      clear hft hr ht
      by_cases h1 : rf ≤ e
      · have k1 : (rf : Int) ≤ (e : Int) := by omega
        by_cases h2 : e ≤ ru
        · have k2 : (e : Int) ≤ (ru : Int) := by omega
          have x6 := (Ext.refl Non wr).alloc (.cells #[.int .u16 ra, .int .u32 rf, .int .u32 ru, .int .u32 rn] 40)
          have O6 := OwO.extN Ot x6
          have B6 := Blk.new wr 40 (rcA ⟨ra, rf, ru, rn⟩)
          go_wp2_with (at_builtin; refine wp_apRD rfl (.tmp 39) (.tmp 47) rfl q rfl O6 hq 1 rfl B6 (by omega) (by rw [World.size_alloc]; omega) ?_; intro A7 c7 w7 O7 x7 hob7)
          refine ⟨⟨i + 1, _, A7, c7, by omega, by go_num, ?_, by rw [List.length_append, hq]; simp; omega, by rw [List.length_append, hq]; rfl, O7, (X.transN x6).trans x7 (fun g hg h => by have := (Ot.lt h).1; omega)⟩, by simp [intOf]; omega⟩
          rw [HFT.out, if_pos (by simp [Rc.has, h1, h2])]
        · have k2 : ¬ (e : Int) ≤ (ru : Int) := by omega
          go_wp2_with fail
          exact ⟨⟨i + 1, t, A, c, by omega, by go_num, by rw [HFT.out, if_neg (by simp [Rc.has, h2])]; simp, by omega, by rw [hq], Ot, X⟩, by simp [intOf]; omega⟩
      · have k1 : ¬ (rf : Int) ≤ (e : Int) := by omega
        go_wp2_with fail
        exact ⟨⟨i + 1, t, A, c, by omega, by go_num, by rw [HFT.out, if_neg (by simp [Rc.has, h1])]; simp, by omega, by rw [hq], Ot, X⟩, by simp [intOf]; omega⟩
    · obtain rfl : m = i := by omega
      rw [List.take_of_length_le (by omega), HT.out] at ht
      subst ht
      go_wp2_with fail
      go_ret
      exact ⟨A, c, by rw [hq]; rfl, Ot, X⟩
theorem head_none {l : List Rc} {a : Nat} {i : Nat} (h : i < l.length) (h0 : (l.take i).filter (fun r => decide (r.ad = a)) = []) (hn : l[i].ad ≠ a) : (l.take (i + 1)).filter (fun r => decide (r.ad = a)) = [] := by
  rw [filter_take _ l i h, h0, if_neg (by simpa using hn)]
  rfl
theorem head_some {l : List Rc} {a : Nat} {i : Nat} (h : i < l.length) (h0 : (l.take i).filter (fun r => decide (r.ad = a)) = []) (hn : l[i].ad = a) : (l.filter fun r => decide (r.ad = a)).head? = some l[i] := by
  have e : l = l.take i ++ l[i] :: l.drop (i + 1) := by
    have := List.take_append_drop i l
    rw [List.drop_eq_getElem_cons h] at this
    exact this.symm
  generalize l[i] = y at *
  rw [e, List.filter_append, h0, List.nil_append, List.filter_cons, if_pos (by simpa using hn)]
  simp
set_option maxRecDepth 100000 in
set_option maxHeartbeats 4000000 in
theorem rfind_calls {w : World} {D : Nat → Prop} {d : Nat} {S : List Rc} (H : RDi w D d S) (hl : S.length ≤ 64) (a e : Nat) (qa qf qu qn : Nat) (v : Bool) (hq : (dfnd S a e = some ⟨qa, qf, qu, qn⟩ ∧ v = true) ∨ (dfnd S a e = none ∧ v = false ∧ (⟨qa, qf, qu, qn⟩ : Rc) = rc0)) :
    Calls Tryd.prog 20 #[.pointer (some ⟨d, 0, none⟩), .int .u16 a, .int .u32 e] w fun e' w' => e' = .returned (.tuple #[.agg #[.int .u16 qa, .int .u32 qf, .int .u32 qu, .int .u32 qn], .bool v]) ∧ Ext Non w w' := by
  obtain ⟨T, hT⟩ : ∃ T, (S.filter fun r => r.has e) = T := ⟨_, rfl⟩
  obtain ⟨n, hn⟩ : ∃ n, T.length = n := ⟨_, rfl⟩
  have hn64 : n ≤ 64 := by rw [← hn, ← hT]; exact Nat.le_trans (List.length_filter_le _ _) hl
  rw [dfnd_valid, hT] at hq
  have X1 := (Ext.refl Non w).alloc (.cells #[.int .u16 0, .int .u32 0, .int .u32 0, .int .u32 0] 40)
  have B1 := Blk.new w 40 #[.int .u16 0, .int .u32 0, .int .u32 0, .int .u32 0]
  have HT := Lib.hid hT
  have HQ := Lib.hid hq
  clear hT hq
  go_enter Tryd.func20, Tryd.ntmps20
  go_wp2_with fail
  have ctr := rvalid_calls (H.extN X1) hl e T HT.out n hn
  with_reducible refine Calls.mono ctr ?_
  clear ctr
  rintro e w2 ⟨A, c, rfl, O, x2⟩
  have X2 := X1.transN x2
  have B2 := B1.extN_ x2
  clear X1 B1 x2
  go_wp2_with fail
  go_loopw [9] (fun z wr => ∃ i : Nat, i ≤ n ∧ z = .int .i64 i ∧ Hid ((T.take i).filter (fun r => decide (r.ad = a)) = []) ∧ Ext Non w2 wr) (fun z _ => n - (intOf z).toNat)
  case atStart => exact ⟨0, Nat.zero_le _, rfl, by rfl, Ext.refl _ _⟩
  case round =>
    obtain ⟨i, hi, rfl, HN, X⟩ := hrel
    have B3 := B2.extN_ X
    obtain ⟨b0, b1, b2, b3⟩ := rc_cells (a := 0) (b := 0) (u := 0) (l := 0) B3
    obtain ⟨f0, f1, f2, f3⟩ := rc_froz B3
    have X3 := X2.transN X
    by_cases hin : i < n
    · have i1 : (i : Int) < (n : Int) := by omega
      have i2 : (i : Int) < 64 := by omega
      have hil : i < T.length := by omega
      obtain ⟨hA, g, o, ha, _, e0, e1, e2, e3⟩ := OwRD.at_ (OwO.extN O X) i hil
      by_cases had : T[i].ad = a
      · have hs := head_some hil HN.out had
        obtain ⟨h1, rfl⟩ : T[i] = ⟨qa, qf, qu, qn⟩ ∧ v = true := by
          rcases HQ.out with ⟨h, hv⟩ | ⟨h, _⟩
          · rw [hs] at h; injection h with h; exact ⟨h, hv⟩
          · rw [hs] at h; cases h
        rw [h1] at had e0 e1 e2 e3
        have had : qa = a := had
        subst had
        simp only at e0 e1 e2 e3
        clear hs h1
        go_wp2_with fail
        have B4 := rc_set B3 (.int .u16 qa) (.int .u32 qf) (.int .u32 qu) (.int .u32 qn)
        exact bodyPost_ret (B4.results2 Tryd.results20 _ _ rfl rfl Tryd.underlying40 rfl (by kernel_rfl)) rfl ⟨rfl, rc_ext X3 (.inl (Nat.le_refl _)) _ _ _ _⟩
      · have hn2 := head_none hil HN.out had
        have k1 : ¬ (T[i].ad : Int) = (a : Int) := by omega
        have HN2 := Lib.hid hn2
        clear hn2 had
        generalize T[i] = y at *
        go_wp2_with fail
        exact ⟨⟨i + 1, by omega, by go_num, HN2, X⟩, by simp [intOf]; omega⟩
    · obtain rfl : n = i := by omega
      have hN := HN.out
      rw [List.take_of_length_le (by omega)] at hN
      obtain ⟨rfl, h1⟩ : v = false ∧ (⟨qa, qf, qu, qn⟩ : Rc) = rc0 := by
        rcases HQ.out with ⟨h, hv⟩ | ⟨_, hv⟩
        · rw [hN] at h; cases h
        · exact hv
      injection h1 with h1 h2 h3 h4
      subst h1 h2 h3 h4
      clear hN
      go_wp2_with fail
      have B4 := rc_set B3 (.int .u16 0) (.int .u32 0) (.int .u32 0) (.int .u32 0)
      exact bodyPost_ret (B4.results2 Tryd.results20 _ _ rfl rfl Tryd.underlying40 rfl (by kernel_rfl)) rfl ⟨rfl, rc_ext X3 (.inl (Nat.le_refl _)) _ _ _ _⟩
theorem sealed_calls (w : World) (l : List UInt8) (hl : l.length ≤ 1000000) (t : List UInt8) (ht : l ++ sha l = t) :
    Calls Tryd.prog 27 #[.string (str l)] w fun e w' => e = .returned (.string (str t)) ∧ Ext Non w w' := by
  have ctr := rsum_calls w l (by omega)
  obtain ⟨n, hn⟩ : ∃ n, l.length = n := ⟨_, rfl⟩
  obtain ⟨a1, a2, a3, a4, a5⟩ := sum_facts ht n 32 hn (sha_len l) (by omega)
  generalize sha l = s at *
  clear ht
  go_enter Tryd.func27, Tryd.ntmps27
  go_wp2_with (go_at_call 46; refine ctr.mono ?_; rintro e w1 ⟨rfl, x1⟩)
  go_ret
  exact ⟨rfl, x1⟩
theorem text_x (w : World) (n : Nat) (hn : (n : Int) ≤ 18446744073709551615) (k : Nat) (hk : k ≤ 8) {x y : Int} (hx : x = n) (hy : y = k) :
    Calls Tryd.prog 60 #[.int .u64 x, .int .i64 y] w fun e w' => e = .returned (.string (str (be k n))) ∧ Ext Non w w' := by
  subst hx hy
  exact text_calls w n hn k hk
set_option maxRecDepth 100000 in
set_option maxHeartbeats 2000000 in
theorem rtext_calls (w : World) (ra rf ru rn : Nat) (hok : (⟨ra, rf, ru, rn⟩ : Rc).ok) (t : List UInt8) (ht : rcb ⟨ra, rf, ru, rn⟩ = t) :
    Calls Tryd.prog 45 #[.agg #[.int .u16 ra, .int .u32 rf, .int .u32 ru, .int .u32 rn]] w fun e w' => e = .returned (.string (str t)) ∧ Ext Non w w' := by
  have h1 : ra < 65536 := hok.ad
  have h2 : rf < 4294967296 := hok.fr
  have h3 : ru < 4294967296 := hok.up
  have h4 : rn < 4294967296 := hok.ln
  obtain ⟨L1, g1⟩ : ∃ l, be 2 ra ++ be 4 rf = l := ⟨_, rfl⟩
  obtain ⟨L2, g2⟩ : ∃ l, L1 ++ be 4 ru = l := ⟨_, rfl⟩
  obtain ⟨L3, g3⟩ : ∃ l, L2 ++ be 4 rn = l := ⟨_, rfl⟩
  obtain rfl : L3 = t := by rw [← g3, ← g2, ← g1, ← ht]; rfl
  have n1 : L1.length = 6 := by rw [← g1]; simp [be_length]
  have n2 : L2.length = 10 := by rw [← g2]; simp [n1, be_length]
  obtain ⟨a1, a2, a3, a4, a5⟩ := sum_facts g1 2 4 (be_length _ _) (be_length _ _) (by omega)
  obtain ⟨b1, b2, b3, b4, b5⟩ := sum_facts g2 6 4 n1 (be_length _ _) (by omega)
  obtain ⟨d1, d2, d3, d4, d5⟩ := sum_facts g3 10 4 n2 (be_length _ _) (by omega)
  have wv1 : IntKind.u64.wrap (ra : Int) = (ra : Int) := by rw [IntKind.wrap_u64]; omega
  have wv2 : IntKind.u64.wrap (rf : Int) = (rf : Int) := by rw [IntKind.wrap_u64]; omega
  have wv3 : IntKind.u64.wrap (ru : Int) = (ru : Int) := by rw [IntKind.wrap_u64]; omega
  have wv4 : IntKind.u64.wrap (rn : Int) = (rn : Int) := by rw [IntKind.wrap_u64]; omega
  clear g1 g2 g3 n1 n2 ht
  have B0 := Blk.new w 40 #[.int .u16 ra, .int .u32 rf, .int .u32 ru, .int .u32 rn]
  have X0 := (Ext.refl Non w).alloc (.cells #[.int .u16 ra, .int .u32 rf, .int .u32 ru, .int .u32 rn] 40)
  go_enter Tryd.func45, Tryd.ntmps45
  go_upto_region 1 with (fail)
  generalize w.alloc (.cells #[.int .u16 ra, .int .u32 rf, .int .u32 ru, .int .u32 rn] 40) = v at *
  have cc := fun W (x : Ext Non v.drew W) => rc_cells (B0.drew.extN_ x)
  refine wp_region_seq Non ((0, true) :: (1, true) :: (2, true) :: (4, true) :: (5, true) :: (6, true) :: (9, true) :: (10, true) :: (11, true) :: (14, true) :: (15, true) :: (16, true) :: (3, false) :: (7, false) :: (8, true) :: (12, false) :: (13, true) :: (17, false) :: (18, true) :: (19, true) :: []) (by kernel_rfl) (by kernel_rfl) (by kernel_rfl) ?_
  iterate 12 (refine wpSeq_quiet rfl rfl ?_; apply Exists.intro; refine ⟨?_, ?_⟩; (intro W hW; obtain ⟨u0, u1, u2, u3⟩ := cc W hW; go_simp; try with_reducible rfl); (intro K hK; simp only [Act.put, List.setIfInBounds_toArray, List.set_cons_zero, List.set_cons_succ]; refine hK _ ?_; clear hK K))
  clear cc
  refine wpSeq_call rfl rfl (fun K hK => ?_)
  go_simp
  have ctr := text_x v.drew ra (by omega) 2 (by omega) rfl rfl
  with_reducible refine Calls.mono ctr ?_
  clear ctr
  rintro e w1 ⟨rfl, x1⟩
  go_simp
  refine hK _ _ x1 ?_
  clear hK K
  refine wpSeq_call rfl rfl (fun K hK => ?_)
  go_simp
  have ctr := text_x w1 rf (by omega) 4 (by omega) rfl rfl
  with_reducible refine Calls.mono ctr ?_
  clear ctr
  rintro e w2 ⟨rfl, x2⟩
  go_simp
  refine hK _ _ x2 ?_
  clear hK K
  iterate 1 (refine wpSeq_quiet rfl rfl ?_; apply Exists.intro; refine ⟨?_, ?_⟩; (intro W hW; go_simp; try with_reducible rfl); (intro K hK; simp only [Act.put, List.setIfInBounds_toArray, List.set_cons_zero, List.set_cons_succ]; refine hK _ ?_; clear hK K))
  refine wpSeq_call rfl rfl (fun K hK => ?_)
  go_simp
  have ctr := text_x w2 ru (by omega) 4 (by omega) rfl rfl
  with_reducible refine Calls.mono ctr ?_
  clear ctr
  rintro e w3 ⟨rfl, x3⟩
  go_simp
  refine hK _ _ x3 ?_
  clear hK K
  iterate 1 (refine wpSeq_quiet rfl rfl ?_; apply Exists.intro; refine ⟨?_, ?_⟩; (intro W hW; go_simp; try with_reducible rfl); (intro K hK; simp only [Act.put, List.setIfInBounds_toArray, List.set_cons_zero, List.set_cons_succ]; refine hK _ ?_; clear hK K))
  refine wpSeq_call rfl rfl (fun K hK => ?_)
  go_simp
  have ctr := text_x w3 rn (by omega) 4 (by omega) rfl rfl
  with_reducible refine Calls.mono ctr ?_
  clear ctr
  rintro e w4 ⟨rfl, x4⟩
  go_simp
  refine hK _ _ x4 ?_
  clear hK K
  iterate 2 (refine wpSeq_quiet rfl rfl ?_; apply Exists.intro; refine ⟨?_, ?_⟩; (intro W hW; go_simp; try with_reducible rfl); (intro K hK; simp only [Act.put, List.setIfInBounds_toArray, List.set_cons_zero, List.set_cons_succ]; refine hK _ ?_; clear hK K))
  refine wpSeq_end ?_
  go_wp2_with fail
  go_ret
  exact ⟨rfl, X0.transN (((x1.drewL.transN x2).transN x3).transN x4)⟩
set_option maxRecDepth 100000 in
set_option maxHeartbeats 4000000 in
theorem rbytes_calls {w : World} {D : Nat → Prop} {d : Nat} {S : List Rc} (H : RDi w D d S) (hS : Sound S) (t : List UInt8) (ht : dirs S = t) :
    Calls Tryd.prog 26 #[.pointer (some ⟨d, 0, none⟩)] w fun e' w' => e' = .returned (.string (str t)) ∧ Ext Non w w' := by
  obtain ⟨Ad, cd, B, O, _⟩ := H.ex
  obtain ⟨m, hm⟩ : ∃ m, S.length = m := ⟨_, rfl⟩
  have hm64 : m ≤ 64 := by rw [← hm]; exact hS.len
  have c1 : ∀ W, Ext Non w W → W.cell? ⟨d, 0, none⟩ = some (.slice Ad m cd) := fun W x => by rw [← hm]; exact (B.extN_ x).cell 0
  have ht2 : dirb S ++ sha (dirb S) = t := ht
  have HT := Lib.hid ht2
  clear ht ht2 H B
  go_enter Tryd.func26, Tryd.ntmps26
  go_wp2_with fail
  go_loopw [3, 4] (fun s z wr => ∃ i : Nat, i ≤ m ∧ z = .int .i64 i ∧ s = .string (str (dirb (S.take i))) ∧ Ext Non w wr) (fun _ z _ => m - (intOf z).toNat)
  case atStart => exact ⟨0, Nat.zero_le _, rfl, rfl, Ext.refl _ _⟩
  case round =>
    obtain ⟨i, hi, rfl, rfl, X⟩ := hrel
    have cd0 := c1 wr X
    by_cases him : i < m
    · have i1 : (i : Int) < (m : Int) := by omega
      have i2 : (i : Int) < 64 := by omega
      have hil : i < S.length := by omega
      obtain ⟨hA, g, o, ha, _, e0, e1, e2, e3⟩ := OwRD.at_ (OwO.extN O X) i hil
      have hok := hS.ok _ (List.getElem_mem hil)
      have hsn : dirb (S.take (i + 1)) = dirb (S.take i) ++ rcb S[i] := by rw [List.take_succ_eq_append_getElem hil, dirb_snoc]
      have hlen := dirb_len (S.take i)
      rw [List.length_take] at hlen
      obtain ⟨⟨ra, rf, ru, rn⟩, hr⟩ : ∃ r, S[i] = r := ⟨_, rfl⟩
      rw [hr] at hok hsn e0 e1 e2 e3
      simp only at e0 e1 e2 e3
      obtain ⟨a1, a2, a3, a4, a5⟩ := sum_facts hsn.symm (i * 14) 14 (by rw [hlen]; omega) (rcb_len _) (by omega)
      obtain ⟨t0, ht0⟩ : ∃ t0, rcb ⟨ra, rf, ru, rn⟩ = t0 := ⟨_, rfl⟩
      rw [ht0] at a2 a3
      have HT0 := Lib.hid ht0
      obtain ⟨u1, hu1⟩ : ∃ u1, dirb (S.take (i + 1)) = u1 := ⟨_, rfl⟩
      rw [hu1] at a3 a4
      have HU := Lib.hid hu1
      clear hsn hlen hr ht0 hu1
      generalize dirb (S.take i) = u0 at *
      go_wp2_with fail
      have ctr := rtext_calls wr ra rf ru rn hok t0 HT0.out
      with_reducible refine Calls.mono ctr ?_
      clear ctr
      rintro e w5 ⟨rfl, x5⟩
      go_wp2_with fail
      exact ⟨⟨i + 1, by omega, by go_num, by rw [HU.out], X.transN x5⟩, by simp [intOf]; omega⟩
    · obtain rfl : m = i := by omega
      rw [List.take_of_length_le (by omega)]
      have hb := dirb_len S
      go_wp2_with fail
      have ctr := sealed_calls wr (dirb S) (by omega) t HT.out
      with_reducible refine Calls.mono ctr ?_
      clear ctr
      rintro e w3 ⟨rfl, x3⟩
      go_wp2_with fail
      go_ret
      exact ⟨rfl, X.transN x3⟩
end Go.Proofs.YtnmpfbffacljfaaDoor
