/- Layer 4's statements: parts of the call's own, and their texts. -/
import Derived.Test.YtgbaijmpfdhoeaaDoorHm04
namespace Go.Proofs.YtgbaijmpfdhoeaaDoor
open Go.RowKit

theorem strinfo : (Tryd.prog.info? 9).map (fun i => (i.zero, i.size, i.bytes)) = some (some (.string ByteArray.empty), 1, 16) := by kernel_rfl
theorem OwV.blk {E : TypeId} {w : World} {base : Nat} {A : Option Addr} {c : Nat} {xs : List Value} (h : OwV E w base A c xs) {k : Nat} (hk : ob A = some k) : ∃ cs, Blk w k E cs := by
  rcases h.2 with ⟨hv, _⟩ | ⟨g, cap, cur, hv, _, hg, _⟩
  · injection hv with hv
    rw [hv] at hk
    cases hk
  · injection hv with hv
    rw [hv] at hk
    obtain rfl : g = k := Option.some.inj hk
    exact ⟨cur, hg⟩
theorem OwB.ne_V {E : TypeId} {w : World} {base base' : Nat} {A A' : Option Addr} {c c' : Nat} {l : List UInt8} {xs : List Value} (h : OwB w base A c l) (h' : OwV E w base' A' c' xs) (hE : 5 ≠ E) {k : Nat} (hk : ob A = some k) : ¬ ob A' = some k := fun hk' => by
  obtain ⟨cs, hb, _⟩ := h.blk hk
  obtain ⟨cs', hb'⟩ := h'.blk hk'
  exact Blk.ne_ hb hb' hE rfl
theorem OwV.ne_V {E E' : TypeId} {w : World} {base base' : Nat} {A A' : Option Addr} {c c' : Nat} {xs ys : List Value} (h : OwV E w base A c xs) (h' : OwV E' w base' A' c' ys) (hE : E ≠ E') {k : Nat} (hk : ob A = some k) : ¬ ob A' = some k := fun hk' => by
  obtain ⟨cs, hb⟩ := h.blk hk
  obtain ⟨cs', hb'⟩ := h'.blk hk'
  exact Blk.ne_ hb hb' hE rfl
/-- Parts of the call's own, each in a block of its own. -/
structure Owns (w : World) (base : Nat) (m : Nat) (ps : List Part) : Prop where
  each : ∀ q ∈ ps, OwB w base q.a q.c q.l ∧ q.l.length ≤ m
  apart : ps.Pairwise fun p q => ∀ k, ob p.a = some k → ¬ ob q.a = some k
theorem Owns.nil (w : World) (base m : Nat) : Owns w base m [] := ⟨fun _ h => (nomatch h), .nil⟩
theorem Owns.ext {S : Nat → Prop} {w w' : World} {base m : Nat} {ps : List Part} (h : Owns w base m ps) (x : Ext S w w') (hS : ∀ q ∈ ps, ∀ k, ob q.a = some k → ¬ S k) : Owns w' base m ps :=
  ⟨fun q hq => ⟨(h.each q hq).1.ext x (hS q hq), (h.each q hq).2⟩, h.apart⟩
theorem Owns.extN {w w' : World} {base m : Nat} {ps : List Part} (h : Owns w base m ps) (x : Ext Non w w') : Owns w' base m ps := h.ext x (fun _ _ _ _ h => h)
theorem Owns.extV {E : TypeId} {w w' : World} {base base' m : Nat} {ps : List Part} {A : Option Addr} {c : Nat} {xs : List Value} (h : Owns w base m ps) (o : OwV E w base' A c xs) (hE : 5 ≠ E) (x : Ext (fun k => ob A = some k) w w') : Owns w' base m ps :=
  h.ext x (fun q hq _ hk => (h.each q hq).1.ne_V o hE hk)
theorem Owns.snoc {w w' : World} {base b2 m : Nat} {ps : List Part} (h : Owns w' base m ps) (hlt : ∀ q ∈ ps, ∀ k, ob q.a = some k → k < w.heap.size) (q : Part) (hq : OwB w' b2 q.a q.c q.l) (hb : w.heap.size ≤ b2) (hbase : base ≤ b2) (hm : q.l.length ≤ m) : Owns w' base m (ps ++ [q]) := by
  refine ⟨fun y hy => ?_, ?_⟩
  · rcases List.mem_append.1 hy with h' | h'
    · exact h.each y h'
    · rw [List.mem_singleton.1 h']
      exact ⟨hq.lower (fun k hk => by have := (hq.lt hk).1; omega), hm⟩
  · rw [List.pairwise_append]
    refine ⟨h.apart, List.pairwise_singleton _ _, fun p hp y hy k hk hk' => ?_⟩
    rw [List.mem_singleton.1 hy] at hk'
    have h1 := hlt p hp k hk
    have h2 := (hq.lt hk').1
    omega
theorem Owns.lt {w : World} {base m : Nat} {ps : List Part} (h : Owns w base m ps) : ∀ q ∈ ps, ∀ k, ob q.a = some k → k < w.heap.size := fun q hq _ hk => ((h.each q hq).1.lt hk).2
theorem Owns.parts {w : World} {base base' m : Nat} {ps : List Part} (h : Owns w base m ps) {A : Option Addr} {c : Nat} (o : OwV 22 w base' A c (ps.map Part.val)) : Parts w (· < w.heap.size) A ps :=
  ⟨o.rd.imp (fun _ hk _ => hk), fun q hq => ⟨(h.each q hq).1.rd.imp (fun _ hk _ => hk), (h.each q hq).1.len.1⟩⟩
theorem Owns.all {w : World} {base m : Nat} {ps : List Part} (h : Owns w base m ps) : (allOf ps).length ≤ m * ps.length := allOf_bound ps m (fun q hq => (h.each q hq).2)
def ptxt (q : Part) : Value := .string (str q.l)

set_option maxRecDepth 100000 in
set_option maxHeartbeats 4000000 in
theorem joined_calls {w : World} (A0 : Option Addr) (len cap : Nat) (hlc : len ≤ cap) (hcm : cap ≤ maxLen) {v : World} (X0 : Ext Non w v) (qs : List Part) (hql : qs.length = len) (hqs : ∀ q ∈ qs, q.l.length ≤ q.c ∧ Rd w (· < w.heap.size) q.a (bvs q.l)) (r0 : Rd w (· < w.heap.size) A0 (qs.map Part.val)) :
    Calls Tryd.prog 15 #[.slice A0 len cap] v fun e w' => ∃ (ps : List Part) (k : Nat) (A : Option Addr) (c : Nat) (T : Option Addr) (d : Nat), e = .returned (.tuple #[.slice A k c, .slice T k d, .string (str (allOf ps))]) ∧ ps.length = k ∧ k ≤ 5 ∧
      Owns w' v.heap.size 200 ps ∧ OwV 22 w' v.heap.size A c (ps.map Part.val) ∧ OwV 9 w' v.heap.size T d (ps.map ptxt) ∧ Ext Non v w' := by
  simp only [maxLen] at hcm
  go_enter Tryd.func15, Tryd.ntmps15
  go_wp2_with fail
  go_loopw [5, 6, 7, 8] (fun o t s i wr => ∃ (k : Nat) (ps : List Part) (A : Option Addr) (c : Nat) (T : Option Addr) (d : Nat), k ≤ len ∧ k ≤ 5 ∧ o = .slice A k c ∧ t = .slice T k d ∧ s = .string (str (allOf ps)) ∧ i = .int .i64 k ∧ ps.length = k ∧
    OwV 22 wr v.heap.size A c (ps.map Part.val) ∧ OwV 9 wr v.heap.size T d (ps.map ptxt) ∧ Owns wr v.heap.size 200 ps ∧ Ext Non v wr) (fun _ _ _ i _ => len - (intOf i).toNat)
  case atStart => exact ⟨0, [], none, 0, none, 0, by omega, by omega, rfl, rfl, rfl, rfl, rfl, OwV.nil _ _, OwV.nil _ _, Owns.nil _ _ _, Ext.refl _ _⟩
  case round =>
    obtain ⟨k, ps, A, c, T, d, hk, hk6, rfl, rfl, rfl, rfl, hpl, o, ot, M, X⟩ := hrel
    by_cases hlt : k < len ∧ k < 5
    · obtain ⟨hlt, hlt6⟩ := hlt
      have i1 : (k : Int) < (len : Int) := by omega
      have i6 : (k : Int) < 5 := by omega
      obtain ⟨q, hq⟩ : ∃ q, qs[k]? = some q := ⟨_, List.getElem?_eq_getElem (by omega)⟩
      have hqm : q ∈ qs := List.mem_of_getElem? hq
      obtain ⟨hqc, rq⟩ := hqs q hqm
      obtain ⟨S0, c0⟩ := (r0.extN (X0.transN X)).ix (k := k) (u := .slice q.a q.l.length q.c) (by rw [List.getElem?_map, hq]; rfl)
      obtain ⟨qa, qc, ql⟩ := q
      dsimp only at *
      obtain ⟨qn, hqn⟩ : ∃ n, ql.length = n := ⟨_, rfl⟩
      obtain ⟨m, hm, hm1, hm2, hm3⟩ := min_at qn 200 (by omega)
      have vk : IntKind.i64.wrap (k : Int) = (k : Int) := by rw [IntKind.wrap_i64]; omega
      rw [hqn] at c0
      go_wp2_with fail
      have rm : Rd w (· < w.heap.size) qa (bvs (ql.take m)) := by
        have := rq.take m
        rwa [← bvs_take5] at this
      have lm : (ql.take m).length = m := by simp; omega
      obtain ⟨ml, hml⟩ : ∃ x, ql.take m = x := ⟨_, rfl⟩
      rw [hml] at rm lm
      have m1 : (m : Int) ≤ (qc : Int) := by omega
      have m0 : (0 : Int) ≤ (m : Int) := by omega
      have cw : ∀ W, Ext Non wr W → W.cell? ((A0.getD default).add k) = some (.slice qa qn qc) := fun W hW => hW.cell c0 (fun h => h)
      clear hqs r0 hq hqm rq hml c0
      refine wp_region_seqP (fun W => Ext Non wr W) ((1, true) :: (2, true) :: (3, true) :: (4, true) :: (5, true) :: (6, true) :: (7, true) :: (8, true) :: (9, true) :: (10, true) :: (11, true) :: (0, false) :: (12, false) :: (13, true) :: []) (by kernel_rfl) (by kernel_rfl) (by kernel_rfl) (Ext.refl _ wr).drew ?_
      iterate 11 (refine wpSeqP_quiet rfl rfl ?_; apply Exists.intro; refine ⟨?_, ?_⟩; (intro W hW; have c0 := cw W hW; go_simp; try with_reducible rfl); (intro K hK; simp only [Act.put, List.setIfInBounds_toArray, List.set_cons_zero, List.set_cons_succ]; refine hK _ ?_; clear hK K))
      clear cw
      have O1 : OwB (wr.drew.alloc (.cells #[] 5)) wr.heap.size (some ⟨wr.heap.size, 0, none⟩) 0 [] := World.ownsRow_made wr.drew #[] 0 (Nat.le_refl _) (by simp [maxLen]) rfl
      have X1 : Ext Non wr (wr.drew.alloc (.cells #[] 5)) := (Ext.refl Non wr).drew.alloc _
      have r1 := (rm.extN (X0.transN X)).extN X1
      have hs1 : wr.heap.size ≤ (wr.drew.alloc (.cells #[] 5)).heap.size := X1.size
      refine wpSeqP_call rfl rfl (fun K hK => ?_)
      go_simp
      refine hK _ _ X1 ?_
      clear hK K
      obtain ⟨A', c', w5, hrun, o5, x5, hob⟩ := run_ap8 22 O1 r1 qc 0 m rfl lm (by simp; omega) hs1
      have X5 : Ext Non wr w5 := X1.trans x5 (fun i hi h => by
        have h : wr.heap.size = i := Option.some.inj h
        omega)
      refine wpSeqP_call rfl rfl (fun K hK => ?_)
      refine op_app _ _ rfl rfl rfl hrun ?_
      simp only [Act.put, List.setIfInBounds_toArray, List.set_cons_zero, List.set_cons_succ]
      refine hK _ _ X5 ?_
      clear hK K
      clear hrun x5 X1 O1 r1 hs1 hob
      iterate 1 (refine wpSeqP_quiet rfl rfl ?_; apply Exists.intro; refine ⟨?_, ?_⟩; (intro W hW; go_simp; try with_reducible rfl); (intro K hK; simp only [Act.put, List.setIfInBounds_toArray, List.set_cons_zero, List.set_cons_succ]; refine hK _ ?_; clear hK K))
      refine wpSeqP_end ?_
      rw [List.nil_append] at o5
      rw [Nat.zero_add]
      have hwr := X.size
      have hpl' : (ps.map Part.val).length = k := by rw [List.length_map, hpl]
      have hpt' : (ps.map ptxt).length = k := by rw [List.length_map, hpl]
      have M6 := M.extN (X5.alloc (.cells #[.slice A' m c'] 22))
      have oP : OwV 22 (w5.alloc (.cells #[.slice A' m c'] 22)) v.heap.size A c (ps.map Part.val) := OwV.alloc (OwV.extN o X5) _
      have oT : OwV 9 (w5.alloc (.cells #[.slice A' m c'] 22)) v.heap.size T d (ps.map ptxt) := OwV.alloc (OwV.extN ot X5) _
      have o6 := o5.alloc (.cells #[.slice A' m c'] 22)
      have X6 : Ext Non v (w5.alloc (.cells #[.slice A' m c'] 22)) := (X.transN X5).alloc _
      have hb : v.heap.size ≤ (w5.alloc (.cells #[.slice A' m c'] 22)).heap.size := X6.size
      have hAlt : ∀ i, ob A = some i → v.heap.size ≤ i := fun i hi => (o.lt hi).1
      have hTlt : ∀ i, ob T = some i → v.heap.size ≤ i := fun i hi => (ot.lt hi).1
      go_wp2_with (at_builtin; refine wp_apV Tryd.underlying30 plinfo rfl (by decide) rfl (.tmp 33) (.tmp 35) rfl k rfl oP hpl' 1 1 rfl (rd_new w5 22 [.slice A' m c']) (by simp [Value.oneCell']) rfl (by rw [hpl']; simp; omega) hb ?_; intro A2 c2 w7 o7 x7 hob)
      have o8 := o6.ext x7 (fun i hi h => o6.ne_V oP (by decide) hi h)
      have oT7 := OwV.ext oT x7 (fun i hi h => OwV.ne_V oT oP (by decide) hi h)
      have M7 := M6.extV oP (by decide) x7
      have X7 : Ext Non v w7 := X6.trans x7 (fun i hi h => by have := hAlt i h; omega)
      have o7' : OwV 22 w7 v.heap.size A2 c2 ((ps ++ [(⟨A', c', ml⟩ : Part)]).map Part.val) := by
        rw [List.map_append]
        show OwV _ _ _ _ _ (ps.map Part.val ++ [.slice A' ml.length c'])
        rw [lm]
        exact o7
      have cv := run_convert_rd w7 22 9 5 Tryd.underlying22 Tryd.underlying9 Tryd.underlying5 o8.rd m c' lm
      have oT8 := OwV.alloc oT7 (.cells #[.string (str ml)] 9)
      have oP8 := OwV.alloc o7' (.cells #[.string (str ml)] 9)
      have o8' := o8.alloc (.cells #[.string (str ml)] 9)
      have M8 := M7.extN ((Ext.refl Non w7).alloc (.cells #[.string (str ml)] 9))
      have X8 : Ext Non v (w7.alloc (.cells #[.string (str ml)] 9)) := X7.alloc _
      have hb8 : v.heap.size ≤ (w7.alloc (.cells #[.string (str ml)] 9)).heap.size := X8.size
      clear M6 oP oT o6 X6 hb o7 x7 hob oT7 M7 X7 o7' o8 hAlt
      go_simp
      go_wp2_with (at_builtin; refine wp_apV Tryd.underlying31 strinfo rfl (by decide) rfl (.tmp 37) (.tmp 40) rfl k rfl oT8 hpt' 1 1 rfl (rd_new w7 9 [.string (str ml)]) (by simp [Value.oneCell']) rfl (by rw [hpt']; simp; omega) hb8 ?_; intro T2 d2 w9 o9 x9 hob)
      have o9' : OwV 9 w9 v.heap.size T2 d2 ((ps ++ [(⟨A', c', ml⟩ : Part)]).map ptxt) := by
        rw [List.map_append]
        exact o9
      have oP9 := OwV.ext oP8 x9 (fun i hi h => OwV.ne_V oP8 oT8 (by decide) hi h)
      have o10 := o8'.ext x9 (fun i hi h => o8'.ne_V oT8 (by decide) hi h)
      have M9 := (M8.extV oT8 (by decide) x9).snoc (w := wr) M.lt ⟨A', c', ml⟩ o10 (Nat.le_refl _) hwr (by show ml.length ≤ 200; omega)
      have X9 : Ext Non v w9 := X8.trans x9 (fun i hi h => by have := hTlt i h; omega)
      have cv2 := run_convert_rd w9 22 9 5 Tryd.underlying22 Tryd.underlying9 Tryd.underlying5 o10.rd m c' lm
      have hall := M.all
      have hcat := (allOf_snoc1 ps ⟨A', c', ml⟩).symm
      obtain ⟨n1, hn1⟩ : ∃ n, (allOf ps).length = n := ⟨_, rfl⟩
      have hlen2 : (ps ++ [(⟨A', c', ml⟩ : Part)]).length = k + 1 := by simp [hpl]
      have hn6 : n1 ≤ 200 * 5 := by rw [← hn1]; refine Nat.le_trans hall (Nat.mul_le_mul_left _ (by omega))
      obtain ⟨hs1, hs2, hs3, hs4, hmax⟩ := sum_facts hcat n1 m hn1 lm (by omega)
      generalize ps ++ [(⟨A', c', ml⟩ : Part)] = ps2 at *
      clear hcat hall oT8 oP8 o8' M8 X8 hb8 o9 x9 hob o ot M X hpl' hpt' hpl rm cv o5 o10 hTlt
      go_wp2_with fail
      exact ⟨⟨k + 1, ps2, A2, c2, T2, d2, by omega, by omega, rfl, rfl, rfl, by go_num, hlen2, oP9, o9', M9, X9⟩, by simp [intOf]; omega⟩
    · have i1 : ¬ ((k : Int) < (len : Int) ∧ (k : Int) < 5) := by omega
      go_wp2_with fail
      all_goals
        go_ret3
        exact ⟨ps, k, A, c, T, d, rfl, hpl, hk6, M, o, ot, X⟩
end Go.Proofs.YtgbaijmpfdhoeaaDoor
