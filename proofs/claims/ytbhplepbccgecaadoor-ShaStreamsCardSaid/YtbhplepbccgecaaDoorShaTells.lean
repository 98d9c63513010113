/- The law ShaTells: the sum of parts is the document's, and what was handed in stays; for any slice of slices of bytes. -/
import Derived.Test.YtbhplepbccgecaaDoorRef03S
import Derived.Test.YtbhplepbccgecaaDoorShaL
import Derived.Test.YtbhplepbccgecaaDoorDec
namespace Go.Proofs.YtbhplepbccgecaaDoor
open Go.RowKit

/-- Slices of bytes that came in. -/
theorem Dec.parts {w : World} {A : Option Addr} {len cap : Nat} (h : Dec Tryd.prog w 22 [.slice A len cap]) : ∃ ps : List Part, ps.length = len ∧ len ≤ cap ∧ cap ≤ maxLen ∧
    (∀ q ∈ ps, q.l.length ≤ q.c ∧ Rd w (· < w.heap.size) q.a (bvs q.l)) ∧ Rd w (· < w.heap.size) A (ps.map Part.val) := by
  obtain ⟨A0, len0, cap0, ps, e, h1, h2, h3, h4, h5⟩ := h.row Tryd.underlying22 rfl Part.val (fun q => q.l.length ≤ q.c ∧ Rd w (· < w.heap.size) q.a (bvs q.l)) (fun cs hd => by
    obtain ⟨A1, n1, c1, l1, rfl, hl, hc, _, hr⟩ := hd.bytes Tryd.underlying24 Tryd.underlying5 rfl
    exact ⟨⟨A1, c1, l1⟩, by simp [Part.val, hl], by show l1.length ≤ c1; omega, hr⟩)
  injection e with e _
  injection e with e1 e2 e3
  subst e1 e2 e3
  exact ⟨ps, h1, h2, h3, h4, h5⟩
theorem allOf_snoc1 (ps : List Part) (q : Part) : allOf (ps ++ [q]) = allOf ps ++ q.l := by simp [allOf]
theorem allOf_bound (ps : List Part) (m : Nat) (h : ∀ q ∈ ps, q.l.length ≤ m) : (allOf ps).length ≤ m * ps.length := by
  induction ps with
  | nil => simp [allOf]
  | cons q ps ih =>
    have h1 := h q (List.mem_cons_self ..)
    have h2 := ih (fun x hx => h x (List.mem_cons_of_mem _ hx))
    have h3 : allOf (q :: ps) = q.l ++ allOf ps := by simp [allOf]
    rw [h3, List.length_append, List.length_cons, Nat.mul_succ]
    omega
/-- Parts of the call's own that lie apart from the row of them. -/
def Mine (w : World) (base : Nat) (A : Option Addr) (m : Nat) (ps : List Part) : Prop :=
  ∀ q ∈ ps, Rd w (fun k => base ≤ k ∧ k < w.heap.size ∧ ¬ ob A = some k) q.a (bvs q.l) ∧ q.l.length ≤ q.c ∧ q.l.length ≤ m
theorem Mine.ext {w w' : World} {base : Nat} {A : Option Addr} {m : Nat} {ps : List Part} (M : Mine w base A m ps) (x : Ext Non w w') : Mine w' base A m ps := fun q hq => by
  obtain ⟨h1, h2, h3⟩ := M q hq
  have := x.size
  exact ⟨(h1.extN x).imp (fun k _ hk => ⟨hk.1, by omega, hk.2.2⟩), h2, h3⟩
theorem Mine.snoc {wr w5 w7 : World} {base : Nat} {A A2 : Option Addr} {m : Nat} {ps : List Part} (M : Mine wr base A m ps) (hA : ∀ k, ob A = some k → k < wr.heap.size) (x5 : Ext Non wr w5) (x7 : Ext (fun k => ob A = some k) w5 w7)
    (hob : ob A2 = ob A ∨ ob A2 = some w5.heap.size) (hb : base ≤ wr.heap.size) (q : Part) (hq : Rd w7 (fun k => wr.heap.size ≤ k ∧ k < w5.heap.size) q.a (bvs q.l)) (hc : q.l.length ≤ q.c) (hm : q.l.length ≤ m) : Mine w7 base A2 m (ps ++ [q]) := by
  have h5 := x5.size
  have h7 := x7.size
  intro y hy
  rcases List.mem_append.1 hy with h | h
  · obtain ⟨h1, h2, h3⟩ := M y h
    refine ⟨(((h1.extN x5).ext x7 (fun k hk => hk.2.2)).imp (fun k _ hk => ⟨hk.1, by omega, fun h => ?_⟩)), h2, h3⟩
    rcases hob with e | e
    · exact hk.2.2 (by rw [← e]; exact h)
    · rw [e] at h
      have : w5.heap.size = k := Option.some.inj h
      omega
  · rw [List.mem_singleton.1 h]
    refine ⟨hq.imp (fun k _ hk => ⟨by omega, by omega, fun h => ?_⟩), hc, hm⟩
    rcases hob with e | e
    · have := hA k (by rw [← e]; exact h)
      omega
    · rw [e] at h
      have : w5.heap.size = k := Option.some.inj h
      omega
set_option maxRecDepth 100000 in
set_option maxHeartbeats 4000000 in
theorem tells_walk (w : World) (G : Glob w) (hw2 : 2 ≤ w.heap.size) (A0 : Option Addr) (len cap : Nat) (hd : Dec Tryd.prog w 22 [.slice A0 len cap]) :
    Calls Tryd.prog 3 #[.slice A0 len cap] w fun e w' => e = .returned (.bool true) ∧ Below w.heap.size w w' := by
  obtain ⟨qs, hql, hlc, hcm, hqs, r0⟩ := hd.parts
  clear hd
  simp only [maxLen] at hcm
  have z2 := zrow32_ne
  go_enter Tryd.func3, Tryd.ntmps3
  go_wp2_with fail
  have ctr := shown_calls G hw2
  with_reducible refine Calls.mono ctr ?_
  clear ctr
  rintro e w1 ⟨rfl, x1⟩
  go_wp2_with fail
  go_loopw [4, 5, 6] (fun o s i wr => ∃ (k : Nat) (ps : List Part) (A : Option Addr) (c : Nat), k ≤ len ∧ k ≤ 6 ∧ o = .slice A k c ∧ s = .string (str (allOf ps)) ∧ i = .int .i64 k ∧ ps.length = k ∧
    OwV 24 wr w.heap.size A c (ps.map Part.val) ∧ Mine wr w.heap.size A 200 ps ∧ Ext Non w wr) (fun _ _ i _ => len - (intOf i).toNat)
  case atStart => exact ⟨0, [], none, 0, by omega, by omega, rfl, rfl, rfl, rfl, OwV.nil _ _, by simp [Mine], x1⟩
  case round =>
    clear x1
    obtain ⟨k, ps, A, c, hk, hk6, rfl, rfl, rfl, hpl, o, M, X⟩ := hrel
    by_cases hlt : k < len ∧ k < 6
    · obtain ⟨hlt, hlt6⟩ := hlt
      have i1 : (k : Int) < (len : Int) := by omega
      have i6 : (k : Int) < 6 := by omega
      obtain ⟨q, hq⟩ : ∃ q, qs[k]? = some q := ⟨_, List.getElem?_eq_getElem (by omega)⟩
      have hqm : q ∈ qs := List.mem_of_getElem? hq
      obtain ⟨hqc, rq⟩ := hqs q hqm
      obtain ⟨S0, c0⟩ := (r0.extN X).ix (k := k) (u := .slice q.a q.l.length q.c) (by rw [List.getElem?_map, hq]; rfl)
      obtain ⟨qa, qc, ql⟩ := q
      dsimp only at *
      obtain ⟨qn, hqn⟩ : ∃ n, ql.length = n := ⟨_, rfl⟩
      obtain ⟨m, hm, hm1, hm2, hm3⟩ := min_at qn 200 (by omega)
      have vk : IntKind.i64.wrap (k : Int) = (k : Int) := by rw [IntKind.wrap_i64]; omega
      rw [hqn] at c0
      go_wp2_with fail
      have rm : Rd w (· < w.heap.size) qa (bvs (ql.take m)) := by
        have := rq.take m
        rwa [← bvs_take5] at this
      have lm : (ql.take m).length = m := by simp; omega
      obtain ⟨ml, hml⟩ : ∃ x, ql.take m = x := ⟨_, rfl⟩
      rw [hml] at rm lm
      have v6 : (200 : Int) < (qn : Int) ∨ True := .inr trivial
      have m1 : (m : Int) ≤ (qc : Int) := by omega
      have m0 : (0 : Int) ≤ (m : Int) := by omega
      have cw : ∀ W, Ext Non wr W → W.cell? ((A0.getD default).add k) = some (.slice qa qn qc) := fun W hW => hW.cell c0 (fun h => h)
      clear hqs r0 hq hqm rq hml c0
      refine wp_region_seqP (fun W => Ext Non wr W) ((1, true) :: (2, true) :: (3, true) :: (4, true) :: (5, true) :: (6, true) :: (7, true) :: (8, true) :: (9, true) :: (10, true) :: (11, true) :: (0, false) :: (12, false) :: (13, true) :: []) (by kernel_rfl) (by kernel_rfl) (by kernel_rfl) (Ext.refl _ wr).drew ?_
      iterate 11 (refine wpSeqP_quiet rfl rfl ?_; apply Exists.intro; refine ⟨?_, ?_⟩; (intro W hW; have c0 := cw W hW; go_simp; try with_reducible rfl); (intro K hK; simp only [Act.put, List.setIfInBounds_toArray, List.set_cons_zero, List.set_cons_succ]; refine hK _ ?_; clear hK K))
      clear cw
      have O1 : OwB (wr.drew.alloc (.cells #[] 5)) wr.heap.size (some ⟨wr.heap.size, 0, none⟩) 0 [] := World.ownsRow_made wr.drew #[] 0 (Nat.le_refl _) (by simp [maxLen]) rfl
      have X1 : Ext Non wr (wr.drew.alloc (.cells #[] 5)) := (Ext.refl Non wr).drew.alloc _
      have r1 := (rm.extN X).extN X1
      have hs1 : wr.heap.size ≤ (wr.drew.alloc (.cells #[] 5)).heap.size := X1.size
      refine wpSeqP_call rfl rfl (fun K hK => ?_)
      go_simp
      refine hK _ _ X1 ?_
      clear hK K
      obtain ⟨A', c', w5, hrun, o5, x5, hob⟩ := run_ap8 24 O1 r1 qc 0 m rfl lm (by simp; omega) hs1
      have X5 : Ext Non wr w5 := X1.trans x5 (fun i hi h => by
        have h : wr.heap.size = i := Option.some.inj h
        omega)
      refine wpSeqP_call rfl rfl (fun K hK => ?_)
      refine op_app _ _ rfl rfl rfl hrun ?_
      simp only [Act.put, List.setIfInBounds_toArray, List.set_cons_zero, List.set_cons_succ]
      refine hK _ _ X5 ?_
      clear hK K
      clear hrun x5 X1 O1 r1 hs1 hob
      iterate 1 (refine wpSeqP_quiet rfl rfl ?_; apply Exists.intro; refine ⟨?_, ?_⟩; (intro W hW; go_simp; try with_reducible rfl); (intro K hK; simp only [Act.put, List.setIfInBounds_toArray, List.set_cons_zero, List.set_cons_succ]; refine hK _ ?_; clear hK K))
      refine wpSeqP_end ?_
      rw [List.nil_append] at o5
      rw [Nat.zero_add]
      have oo := OwV.extN o X5
      have X' := X.transN X5
      have oP : OwV 24 (w5.alloc (.cells #[.slice A' m c'] 24)) w.heap.size A c (ps.map Part.val) := OwV.alloc oo _
      have o6 := o5.alloc (.cells #[.slice A' m c'] 24)
      have X6 : Ext Non w (w5.alloc (.cells #[.slice A' m c'] 24)) := X'.alloc _
      have hb : w.heap.size ≤ (w5.alloc (.cells #[.slice A' m c'] 24)).heap.size := X6.size
      have hpl' : (ps.map Part.val).length = k := by rw [List.length_map, hpl]
      go_wp2_with (at_builtin; refine wp_apV Tryd.underlying22 plinfo rfl (by decide) rfl (.tmp 35) (.tmp 37) rfl k rfl oP hpl' 1 1 rfl (rd_new w5 24 [.slice A' m c']) (by simp [Value.oneCell']) rfl (by rw [hpl']; simp; omega) hb ?_; intro A2 c2 w7 o7 x7 hob)
      have hA : ∀ i, ob A = some i → w.heap.size ≤ i ∧ i < wr.heap.size := fun i hi => o.lt hi
      have hwr := X.size
      have hw5 := X5.size
      have o8 := o6.ext x7 (fun i hi h => by have := hA i h; have := (o5.lt hi).1; omega)
      have M7 := Mine.snoc M (fun i hi => (hA i hi).2) (X5.alloc (.cells #[.slice A' m c'] 24)) x7 hob hwr ⟨A', c', ml⟩ (o8.rd.imp (fun i _ hi => by have := o5.lt hi; rw [World.size_alloc]; omega)) o5.len.1 (by show ml.length ≤ 200; omega)
      have o9 : OwV 24 w7 w.heap.size A2 c2 ((ps ++ [(⟨A', c', ml⟩ : Part)]).map Part.val) := by
        rw [List.map_append]
        show OwV _ _ _ _ _ (ps.map Part.val ++ [.slice A' ml.length c'])
        rw [lm]
        exact o7
      have X7 : Ext Non w w7 := X6.trans x7 (fun i hi h => by have := hA i h; omega)
      have cv := run_convert_rd w7 24 9 5 Tryd.underlying24 Tryd.underlying9 Tryd.underlying5 o8.rd m c' lm
      have hall := allOf_bound ps 200 (fun q hq => (M q hq).2.2)
      have hcat := (allOf_snoc1 ps ⟨A', c', ml⟩).symm
      obtain ⟨n1, hn1⟩ : ∃ n, (allOf ps).length = n := ⟨_, rfl⟩
      have hlen2 : (ps ++ [(⟨A', c', ml⟩ : Part)]).length = k + 1 := by simp [hpl]
      have hn6 : n1 ≤ 200 * 6 := by rw [← hn1]; refine Nat.le_trans hall (Nat.mul_le_mul_left _ (by omega))
      obtain ⟨hs1, hs2, hs3, hs4, hmax⟩ := sum_facts hcat n1 m hn1 lm (by omega)
      generalize ps ++ [(⟨A', c', ml⟩ : Part)] = ps2 at *
      clear hcat hall o oo o5 o6 o7 oP x7 X5 X6 X' X M hob hA hpl' hpl hb rm
      go_wp2_with fail
      exact ⟨⟨k + 1, ps2, A2, c2, by omega, by omega, rfl, rfl, by go_num, hlen2, o9, M7, X7⟩, by simp [intOf]; omega⟩
    · have i1 : ¬ ((k : Int) < (len : Int) ∧ (k : Int) < 6) := by omega
      have hall := allOf_bound ps 200 (fun q hq => (M q hq).2.2)
      have hll : (allOf ps).length ≤ 562949953421312 := Nat.le_trans hall (by rw [hpl]; exact Nat.le_trans (Nat.mul_le_mul_left 200 hk6) (by decide))
      have hps : Parts wr (fun k => k < wr.heap.size) A ps := ⟨o.rd.imp (fun k hk _ => hk), fun q hq => ⟨(M q hq).1.imp (fun k hk _ => hk), (M q hq).2.1⟩⟩
      have hcap := o.len.1
      rw [List.length_map, hpl] at hcap
      have hnl : (allOf ps).length ≤ 1200 := Nat.le_trans hall (by rw [hpl]; exact Nat.mul_le_mul_left 200 hk6)
      have Gw := G.extN X
      have hwr := X.size
      clear hall
      go_wp2_with fail
      all_goals
        have ctr := psum_calls k c hps hpl hcap Gw (by omega) (fun i hi => hi) hll (by omega)
        with_reducible refine Calls.mono ctr ?_
        clear ctr
        rintro e w4 ⟨rfl, x4⟩
        obtain ⟨L, hL⟩ : ∃ L, allOf ps = L := ⟨_, rfl⟩
        rw [hL] at hnl ⊢
        go_wp2_with fail
        have X4 : Ext Non wr (w4.alloc (.cells (ba (sha L)) 25)) := x4.alloc _
        have B4 := Blk.new w4 25 (ba (sha L))
        generalize w4.alloc (.cells (ba (sha L)) 25) = w5 at *
        generalize w4.heap.size = p at *
        have o5 := OwV.extN o X4
        have M5 := M.ext X4
        have X5 := X.transN X4
        have HL := Lib.hid hL
        clear hL
        go_loopw [9, 10] (fun s i wr2 => ∃ j : Nat, j ≤ k ∧ s = .string (str (allOf (ps.take j))) ∧ i = .int .i64 j ∧ w5 = wr2) (fun _ i _ => k - (intOf i).toNat)
        case atStart => exact ⟨0, by omega, rfl, rfl, rfl⟩
        case round =>
          obtain ⟨j, hj, rfl, rfl, rfl⟩ := hrel
          by_cases hjk : j < k
          · have j1 : (j : Int) < (k : Int) := by omega
            have hjp : j < ps.length := by omega
            obtain ⟨S, c0⟩ := (OwV.rd o5).ix (k := j) (u := Part.val ps[j]) (by rw [List.getElem?_map, List.getElem?_eq_getElem hjp]; rfl)
            obtain ⟨m1, m2, m3⟩ := M5 ps[j] (List.getElem_mem hjp)
            have hcat := (allOf_snoc ps j hjp).symm
            have hb := allOf_le ps j
            generalize ps[j] = q at *
            obtain ⟨qa, qc, ql⟩ := q
            dsimp only [Part.val] at *
            obtain ⟨qn, hqn⟩ : ∃ n, ql.length = n := ⟨_, rfl⟩
            obtain ⟨tn, htn⟩ : ∃ n, (allOf (ps.take j)).length = n := ⟨_, rfl⟩
            rw [hqn] at c0
            have cv := run_convert_rd w5 24 9 5 Tryd.underlying24 Tryd.underlying9 Tryd.underlying5 m1 qn qc hqn
            obtain ⟨hs1, hs2, hs3, hs4, hmax⟩ := sum_facts hcat tn qn htn hqn (by rw [HL.out] at hb; omega)
            clear hcat hb
            go_wp2_with fail
            exact ⟨⟨j + 1, by omega, rfl, by go_num, trivial⟩, by simp [intOf]; omega⟩
          · obtain rfl : k = j := by omega
            have htk : ps.take k = ps := List.take_of_length_le (by omega)
            rw [htk, HL.out]
            have cs := fun W => run_arr_all (P := Tryd.prog) W Tryd.underlying25 s8 p 0 (by decide)
            have cv := fun W (hW : Ext Non w5 W) => run_convert_rd W 24 9 5 Tryd.underlying24 Tryd.underlying9 Tryd.underlying5 ((rd_ba B4).extN hW) 32 32 (sha_len L)
            clear htk
            go_wp2_with fail

            refine wp_region_seq Non ((0, true) :: (1, true) :: (2, true) :: (3, true) :: (4, true) :: (5, false) :: (6, true) :: (7, true) :: (8, true) :: (9, true) :: (10, true) :: (11, true) :: (12, true) :: (13, true) :: []) (by kernel_rfl) (by kernel_rfl) (by kernel_rfl) ?_
            iterate 5 (refine wpSeq_quiet rfl rfl ?_; apply Exists.intro; refine ⟨?_, ?_⟩; (intro W hW; have c1 := cv W hW.drewL; go_simp; try with_reducible rfl); (intro K hK; simp only [Act.put, List.setIfInBounds_toArray, List.set_cons_zero, List.set_cons_succ]; refine hK _ ?_; clear hK K))
            refine wpSeq_call rfl rfl (fun K hK => ?_)
            go_simp
            have ctr := rsum_calls w5.drew L (by omega)
            with_reducible refine Calls.mono ctr ?_
            clear ctr
            rintro e w6 ⟨rfl, x6⟩
            go_simp
            refine hK _ _ x6 ?_
            clear hK K
            iterate 8 (refine wpSeq_quiet rfl rfl ?_; apply Exists.intro; refine ⟨?_, ?_⟩; (intro W hW; go_simp; try with_reducible rfl); (intro K hK; simp only [Act.put, List.setIfInBounds_toArray, List.set_cons_zero, List.set_cons_succ]; refine hK _ ?_; clear hK K))
            refine wpSeq_end ?_
            have X6 := X5.drew.transN x6
            go_wp2_with fail
            go_ret
            exact ⟨by simp, X6.belowN⟩
end Go.Proofs.YtbhplepbccgecaaDoor
