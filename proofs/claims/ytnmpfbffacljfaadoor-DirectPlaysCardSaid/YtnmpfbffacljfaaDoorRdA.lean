/- The document's directory: Add. -/
import Derived.Test.YtnmpfbffacljfaaDoorRd
import Derived.Test.YtnmpfbffacljfaaDoorSeqTN
namespace Go.Proofs.YtnmpfbffacljfaaDoor
open Go.RowKit

theorem rcs_take : ∀ (l : List Rc) (i : Nat), rcs (l.take i) = (rcs l).take (i * 4)
  | [], i => by simp [rcs]
  | r :: l, 0 => by simp [rcs]
  | r :: l, i + 1 => by
    have := rcs_take l i
    unfold rcs at *
    rw [List.take_succ_cons, List.flatMap_cons, List.flatMap_cons, this, show (i + 1) * 4 = (rcL r).length + i * 4 by rw [rcL_len]; omega, List.take_length_add_append]
theorem rcs_drop : ∀ (l : List Rc) (i : Nat), rcs (l.drop i) = (rcs l).drop (i * 4)
  | [], i => by simp [rcs]
  | r :: l, 0 => by simp [rcs]
  | r :: l, i + 1 => by
    have := rcs_drop l i
    unfold rcs at *
    rw [List.drop_succ_cons, List.flatMap_cons, this, show (i + 1) * 4 = (rcL r).length + i * 4 by rw [rcL_len]; omega, List.drop_length_add_append]
/-- A part of a slice of records. -/
theorem OwRD.front {w : World} {base : Nat} {A : Option Addr} {c : Nat} {l : List Rc} (h : OwRD w base A c l) (i : Nat) : Rd w (fun k => ob A = some k) A (rcs (l.take i)) := by
  rw [rcs_take]
  exact (h.rd).take _
theorem OwRD.back {w : World} {base : Nat} {A : Option Addr} {c : Nat} {l : List Rc} (h : OwRD w base A c l) (i : Nat) (hi : i ≤ l.length) : Rd w (fun k => ob A = some k) (if c = i then A else A.map (·.add (i * 4))) (rcs (l.drop i)) := by
  rw [rcs_drop]
  have hle := h.le
  split
  · rename_i e
    have : (rcs l).drop (i * 4) = [] := List.drop_of_length_le (by rw [rcs_len]; omega)
    rw [this]
    exact Rd.nil
  · rcases h.rd with h0 | ⟨a, rfl, hd, hc⟩
    · rw [h0]; simp [Rd]
    · refine .inr ⟨a.add (i * 4), rfl, by rw [block_of_add]; exact hd, fun j u hu => ?_⟩
      rw [add_of_add]
      exact hc _ u (by rw [← hu, List.getElem?_drop])
theorem run_apRS {w0 U : World} {A B : Option Addr} {c n m d : Nat} {l t : List Rc} {Ds : Nat → Prop} (hs : Rd w0 Ds B (rcs t)) (hD : ∀ k, Ds k → k < w0.heap.size) (X : Ext (fun k => w0.heap.size ≤ k) w0 U) (o : OwRD U w0.heap.size A c l) (hn : l.length = n) (hm : t.length = m) (hlen : n + m ≤ 300) :
    ∃ A' c' U', (Builtin.append_ #[30, 30] 30 #[.slice A n c, .slice B m d]).run Tryd.prog U = .ok (.slice A' (n + m) c') U' ∧ OwRD U' w0.heap.size A' c' (l ++ t) ∧ Ext (fun k => w0.heap.size ≤ k) w0 U' ∧
      ∀ g ty cs, Blk U g ty cs → ob A ≠ some g → Blk U' g ty cs := by
  have hb := X.size
  have hs2 := hs.ext X (fun k hk h => by have := hD k hk; omega)
  cases B with
  | some a =>
    obtain ⟨A', c', U', h1, h2, h3, _⟩ := run_apRD 30 o (B := a) (m := t) (fun j u hu => (hs2.ix hu).2) d n m hn hm (by omega) hb
    exact ⟨A', c', U', h1, h2, X.trans h3 (fun k hk h => by have := (o.lt h).1; omega), fun g ty cs hB hg => hB.ext h3 hg⟩
  | none =>
    have ht : t = [] := by
      have hr : rcs t = [] := by
        rcases hs with h | ⟨a, h, _⟩
        · exact h
        · cases h
      have := congrArg List.length hr
      rw [rcs_len, List.length_nil] at this
      exact List.eq_nil_of_length_eq_zero (by omega)
    subst ht
    obtain rfl : m = 0 := hm.symm
    obtain ⟨A', c', U', h1, h2, h3, _⟩ := run_apRQD 30 (qs := []) o (OwO.nil U 0) n 0 hn rfl d (by omega) hb
    exact ⟨A', c', U', h1, h2, X.trans h3 (fun k hk h => by have := (o.lt h).1; omega), fun g ty cs hB hg => hB.ext h3 hg⟩
theorem one_apR {w0 U : World} {A : Option Addr} {c n g : Nat} {l : List Rc} {a f u k : Nat} (X : Ext (fun k => w0.heap.size ≤ k) w0 U) (o : OwRD U w0.heap.size A c l) (Bp : Blk U g 40 (rcA ⟨a, f, u, k⟩)) (hn : l.length = n) (hlen : n ≤ 300) :
    ∃ A' c' U', (Builtin.append_ #[30, 30] 30 #[.slice A n c, .slice (some ⟨g, 0, none⟩) 1 1]).run Tryd.prog U = .ok (.slice A' (n + 1) c') U' ∧ OwRD U' w0.heap.size A' c' (l ++ [⟨a, f, u, k⟩]) ∧ Ext (fun k => w0.heap.size ≤ k) w0 U' := by
  have hb := X.size
  have hcell : ∀ j v, (rcs [(⟨a, f, u, k⟩ : Rc)])[j]? = some v → U.cell? ((⟨g, 0, none⟩ : Addr).add j) = some v := by
    intro j v hv
    rw [addr_add, Nat.zero_add, Bp.cell]
    have e : rcs [(⟨a, f, u, k⟩ : Rc)] = rcL ⟨a, f, u, k⟩ := by unfold rcs; simp
    rw [e] at hv
    rw [← hv]
    simp [rcL, rcA]
  obtain ⟨A', c', U', h1, h2, h3, _⟩ := run_apRD 30 o hcell 1 n 1 hn rfl (by omega) hb
  exact ⟨A', c', U', h1, h2, X.trans h3 (fun b hb h => by have := (o.lt h).1; omega)⟩
/-- Where one stands, step by step. -/
theorem place_step {S : List Rc} (h : S.Pairwise fun a b => klt a b = true) (r : Rc) (i : Nat) (hi : i < S.length) :
    (S.take (i + 1)).countP (klt · r) = if klt S[i] r then i + 1 else (S.take i).countP (klt · r) := by
  rw [List.take_succ_eq_append_getElem hi, List.countP_append]
  by_cases hk : klt S[i] r = true
  · rw [if_pos hk]
    have hall : (S.take i).countP (klt · r) = (S.take i).length := by
      rw [List.countP_eq_length]
      intro x hx
      rw [List.pairwise_iff_getElem] at h
      obtain ⟨j, hj, rfl⟩ := List.getElem_of_mem hx
      rw [List.length_take] at hj
      rw [List.getElem_take]
      exact klt_trans (h j i (by omega) hi (by omega)) hk
    rw [hall, List.length_take, List.countP_cons, if_pos hk, List.countP_nil]
    omega
  · rw [if_neg hk, List.countP_cons, if_neg hk, List.countP_nil]
    rfl
/-- As the document says it. -/
theorem clash_max {xa xf xu xl ra rf ru rn : Nat} (hx : (⟨xa, xf, xu, xl⟩ : Rc).fine = true) (hr : (⟨ra, rf, ru, rn⟩ : Rc).fine = true) : clash ⟨xa, xf, xu, xl⟩ ⟨ra, rf, ru, rn⟩ = decide (xa = ra ∧ max xf rf ≤ min xu ru) := by
  have hx : xa < 16 ∧ xf ≤ xu := by simpa [Rc.fine] using hx
  have hr : ra < 16 ∧ rf ≤ ru := by simpa [Rc.fine] using hr
  have e : clash ⟨xa, xf, xu, xl⟩ ⟨ra, rf, ru, rn⟩ = (decide (xa = ra) && (decide (xf ≤ rf ∧ rf ≤ xu) || decide (rf ≤ xf ∧ xf ≤ ru))) := rfl
  rw [e, Bool.eq_iff_iff]
  simp only [Bool.and_eq_true, Bool.or_eq_true, decide_eq_true_eq]
  omega
set_option maxRecDepth 100000 in
set_option maxHeartbeats 4000000 in
theorem radd_calls {w : World} {D : Nat → Prop} {d : Nat} {S : List Rc} (H : RDi w D d S) (hS : Sound S) (hDw : ∀ k, D k → k < w.heap.size) (ra rf ru rn : Nat) (hok : (⟨ra, rf, ru, rn⟩ : Rc).ok) (z : Nat) (hz : dire S ⟨ra, rf, ru, rn⟩ = z) (T : List Rc) (hT : dirl S ⟨ra, rf, ru, rn⟩ = T) :
    Calls Tryd.prog 16 #[.pointer (some ⟨d, 0, none⟩), .agg #[.int .u16 ra, .int .u32 rf, .int .u32 ru, .int .u32 rn]] w fun e w' => e = .returned (.int .i64 (z : Int)) ∧ Ext D w w' ∧ ∃ D' : Nat → Prop, RDi w' D' d T ∧ ∀ k, D' k → (D k ∨ w.heap.size ≤ k) ∧ k < w'.heap.size := by
  have HZ := Lib.hid hz
  have HT := Lib.hid hT
  clear hz hT
  have X1 := (Ext.refl Non w).alloc (.cells #[.int .u16 ra, .int .u32 rf, .int .u32 ru, .int .u32 rn] 40)
  have R1 := Blk.new w 40 #[.int .u16 ra, .int .u32 rf, .int .u32 ru, .int .u32 rn]
  have H1 := H.extN X1
  have hs1 : w.heap.size + 1 ≤ (w.alloc (.cells #[.int .u16 ra, .int .u32 rf, .int .u32 ru, .int .u32 rn] 40)).heap.size := by rw [World.size_alloc]; exact Nat.le_refl _
  have hkeep : ∀ W, Ext Non w W → T = S → Ext D w W ∧ ∃ D' : Nat → Prop, RDi W D' d T ∧ ∀ k, D' k → (D k ∨ w.heap.size ≤ k) ∧ k < W.heap.size := fun W x h => by
    subst h
    exact ⟨x.imp (fun _ _ h => h.elim), fun k => D k ∧ k < w.heap.size, ((H.imp (D' := fun k => D k ∧ k < w.heap.size) (fun k hk h => ⟨h, hk⟩)).extN x), fun k h => ⟨.inl h.1, by have := x.size; omega⟩⟩
  by_cases hf : (⟨ra, rf, ru, rn⟩ : Rc).fine = true
  case neg =>
    have hde : dire S ⟨ra, rf, ru, rn⟩ = 1 := by unfold dire; rw [if_neg hf]
    have hdl : dirl S ⟨ra, rf, ru, rn⟩ = S := by unfold dirl; rw [hde]; rfl
    obtain rfl : z = 1 := by rw [← HZ.out, hde]
    have HTS : Hid (T = S) := Lib.hid (by rw [← HT.out, hdl])
    clear hdl hde
    have hf' : ¬ (ra < 16 ∧ rf ≤ ru) := by simpa [Rc.fine] using hf
    by_cases h16 : 16 ≤ ra
    · have i1 : (16 : Int) ≤ (ra : Int) := by omega
      go_enter Tryd.func16, Tryd.ntmps16
      go_wp2_with fail
      go_ret
      exact ⟨rfl, hkeep _ X1 HTS.out⟩
    · have i1 : ¬ (16 : Int) ≤ (ra : Int) := by omega
      have i2 : (ru : Int) < (rf : Int) := by omega
      go_enter Tryd.func16, Tryd.ntmps16
      go_wp2_with fail
      go_ret
      exact ⟨rfl, hkeep _ X1 HTS.out⟩
  case pos =>
    obtain ⟨Ad, cd, B1, O1, hDA⟩ := H1.ex
    have hf' : ra < 16 ∧ rf ≤ ru := by simpa [Rc.fine] using hf
    have i1 : ¬ (16 : Int) ≤ (ra : Int) := by omega
    have i2 : ¬ (ru : Int) < (rf : Int) := by omega
    obtain ⟨m, hm⟩ : ∃ m, S.length = m := ⟨_, rfl⟩
    have hm64 : m ≤ 64 := by rw [← hm]; exact hS.len
    rw [hm] at B1
    go_enter Tryd.func16, Tryd.ntmps16
    go_upto_region 3 with (fail)
    generalize w.alloc (.cells #[.int .u16 ra, .int .u32 rf, .int .u32 ru, .int .u32 rn] 40) = w1 at *
    clear H1
    go_wp2_with fail
    go_loopw [5, 6] (fun y z wr => ∃ i : Nat, i ≤ m ∧ z = .int .i64 i ∧ y = .int .i64 ((S.take i).countP (klt · ⟨ra, rf, ru, rn⟩) : Nat) ∧ (∀ x ∈ S.take i, clash x ⟨ra, rf, ru, rn⟩ = false) ∧ Ext Non w1 wr) (fun _ z _ => m - (intOf z).toNat)
    case atStart => exact ⟨0, Nat.zero_le _, rfl, rfl, by simp, Ext.refl _ _⟩
    case round =>
      obtain ⟨i, hi, rfl, rfl, hnc, X⟩ := hrel
      have R3 := R1.extN_ X
      obtain ⟨r0, r1, r2, r3⟩ := rc_cells R3
      have cd0 : wr.cell? ⟨d, 0, none⟩ = some (.slice Ad m cd) := (B1.extN_ X).cell 0
      by_cases him : i < m
      · have i3 : (i : Int) < (m : Int) := by omega
        have i4 : (i : Int) < 64 := by omega
        have hil : i < S.length := by omega
        have hps := place_step hS.srt ⟨ra, rf, ru, rn⟩ i hil
        have hnc2 : clash S[i] ⟨ra, rf, ru, rn⟩ = false → ∀ x ∈ S.take (i + 1), clash x ⟨ra, rf, ru, rn⟩ = false := fun h x hx => by
          rw [List.take_succ_eq_append_getElem hil, List.mem_append, List.mem_singleton] at hx
          rcases hx with hx | rfl
          · exact hnc x hx
          · exact h
        have hxm := List.getElem_mem hil
        obtain ⟨hA, g, o, ha, _, e0, e1, e2, e3⟩ := OwRD.at_ (OwO.extN O1 X) i hil
        generalize S[i] = x at *
        obtain ⟨xa, xf, xu, xl⟩ := x
        have hxf := hS.fine _ hxm
        rw [clash_max hxf hf] at hnc2
        have h12 : clash ⟨xa, xf, xu, xl⟩ ⟨ra, rf, ru, rn⟩ = true → z = 12 ∧ T = S := fun h => by
          have hd : dire S ⟨ra, rf, ru, rn⟩ = 12 := by
            unfold dire
            rw [if_pos hf, if_pos (List.any_eq_true.2 ⟨_, hxm, h⟩)]
          exact ⟨by rw [← HZ.out, hd], by rw [← HT.out]; unfold dirl; rw [hd]; rfl⟩
        rw [clash_max hxf hf] at h12
        simp only at e0 e1 e2 e3
        have HPS := Lib.hid hps
        have HNC := Lib.hid hnc2
        have H12 := Lib.hid h12
        obtain ⟨kk, hkk⟩ : ∃ kk, klt ⟨xa, xf, xu, xl⟩ ⟨ra, rf, ru, rn⟩ = kk := ⟨_, rfl⟩
        rw [hkk] at HPS
        have HKK := Lib.hid hkk
        clear hps hnc2 h12 hnc hkk
        generalize (S.take i).countP (klt · ⟨ra, rf, ru, rn⟩) = q at *
        go_upto_region 8 with (fail)
        have Y4 := Blk.new wr 40 #[.int .u16 xa, .int .u32 xf, .int .u32 xu, .int .u32 xl]
        have x4 := (Ext.refl Non wr).alloc (.cells #[.int .u16 xa, .int .u32 xf, .int .u32 xu, .int .u32 xl] 40)
        have R4 := R3.extN_ x4
        have X4 := X.transN x4
        generalize wr.alloc (.cells #[.int .u16 xa, .int .u32 xf, .int .u32 xu, .int .u32 xl] 40) = w4 at *
        generalize wr.heap.size = y4 at *
        clear r0 r1 r2 r3 e0 e1 e2 e3 cd0 x4 X R3
        obtain ⟨r0, r1, r2, r3⟩ := rc_cells R4
        obtain ⟨y0, y1, y2, y3⟩ := rc_cells Y4
        have hle := less_calls w4 xa xf xu xl ra rf ru rn kk HKK.out
        by_cases ha : xa = ra
        · subst ha
          by_cases hmm : max xf rf ≤ min xu ru
          · obtain ⟨rfl, hTS⟩ := H12.out (decide_eq_true ⟨rfl, hmm⟩)
            have HTS := Lib.hid hTS
            clear hTS
            have k1 : ((max xf rf : Nat) : Int) ≤ ((min xu ru : Nat) : Int) := by omega
            go_wp2_with fail
            go_ret
            exact ⟨rfl, hkeep _ (X1.transN X4) HTS.out⟩
          · have k1 : ¬ ((max xf rf : Nat) : Int) ≤ ((min xu ru : Nat) : Int) := by omega
            have HN := HNC.out (decide_eq_false (fun h => hmm h.2))
            cases kk
            · skip
              go_wp2_with (go_at_call 31; refine hle.mono ?_; rintro e w5 ⟨rfl, x5⟩)
              exact ⟨⟨i + 1, by omega, by go_num, by rw [HPS.out]; rfl, HN, X4.transN x5⟩, by simp [intOf]; omega⟩
            · skip
              go_wp2_with (go_at_call 31; refine hle.mono ?_; rintro e w5 ⟨rfl, x5⟩)
              exact ⟨⟨i + 1, by omega, by go_num, by rw [HPS.out]; rfl, HN, X4.transN x5⟩, by simp [intOf]; omega⟩
        · have k1 : ¬ (xa : Int) = (ra : Int) := by omega
          have HN := HNC.out (decide_eq_false (fun h => ha h.1))
          cases kk
          · skip
            go_wp2_with (go_at_call 31; refine hle.mono ?_; rintro e w5 ⟨rfl, x5⟩)
            exact ⟨⟨i + 1, by omega, by go_num, by rw [HPS.out]; rfl, HN, X4.transN x5⟩, by simp [intOf]; omega⟩
          · skip
            go_wp2_with (go_at_call 31; refine hle.mono ?_; rintro e w5 ⟨rfl, x5⟩)
            exact ⟨⟨i + 1, by omega, by go_num, by rw [HPS.out]; rfl, HN, X4.transN x5⟩, by simp [intOf]; omega⟩
      · obtain rfl : m = i := by omega
        rw [List.take_of_length_le (by omega)] at hnc ⊢
        by_cases h64 : 64 ≤ m
        · have i3 : (64 : Int) ≤ (m : Int) := by omega
          have hde : dire S ⟨ra, rf, ru, rn⟩ = 8 := by
            unfold dire
            rw [if_pos hf, if_neg (by rw [Bool.not_eq_true, List.any_eq_false]; intro x hx; simp [hnc x hx]), if_pos (by omega)]
          obtain rfl : z = 8 := by rw [← HZ.out, hde]
          have HTS : Hid (T = S) := Lib.hid (by rw [← HT.out]; unfold dirl; rw [hde]; rfl)
          clear hde hnc
          go_wp2_with fail
          go_ret
          exact ⟨rfl, hkeep _ (X1.transN X) HTS.out⟩
        · have i3 : ¬ (64 : Int) ≤ (m : Int) := by omega
          have hde : dire S ⟨ra, rf, ru, rn⟩ = 0 := dire_of hf hnc (by omega)
          obtain rfl : z = 0 := by rw [← HZ.out, hde]
          have hTi : T = S.take (S.countP (klt · ⟨ra, rf, ru, rn⟩)) ++ ⟨ra, rf, ru, rn⟩ :: S.drop (S.countP (klt · ⟨ra, rf, ru, rn⟩)) := by
            rw [← HT.out, ← ins_place hS.srt]
            unfold dirl
            rw [if_pos hde]
          have hql : S.countP (klt · ⟨ra, rf, ru, rn⟩) ≤ m := by rw [← hm]; exact List.countP_le_length
          have HTI := Lib.hid hTi
          clear hde hTi hnc hkeep
          generalize S.countP (klt · ⟨ra, rf, ru, rn⟩) = q at *
          have i4 : (q : Int) ≤ (m : Int) := by omega
          have i5 : q ≤ cd := by have := O1.le; omega
          have B3 := B1.extN_ X
          have O3 := OwO.extN O1 X
          have X3 := X1.transN X
          have hsX := X3.size
          go_upto_region 14 with (fail)
          have jcz : ∀ W, Ext (fun k => wr.heap.size ≤ k) wr W → W.cell? ⟨d, 0, none⟩ = some (.slice Ad m cd) := fun W x => (B3.ext x (fun h => by have h : wr.heap.size ≤ d := h; have := B3.lt; omega)).cell 0
          have rcz := fun W (x : Ext (fun k => wr.heap.size ≤ k) wr W) => rc_cells (R3.ext x (fun h => by have h : wr.heap.size ≤ w.heap.size := h; have := R3.lt; omega))
          refine wp_region_treeN (fun W => Ext (fun k => wr.heap.size ≤ k) wr W) 19 (.q 0 (.q 2 (.q 3 (.q 4 (.q 5 (.q 6 (.q 7 (.q 9 (.q 12 (.q 13 (.q 14 (.q 15 (.q 16 (.q 17 (.b 1 (.b 8 (.c 10 (.c 11 (.c 18 .stop))) 10 (.c 8 (.c 11 (.c 18 .stop)))) 10 (.c 1 (.c 8 (.c 11 (.c 18 .stop))))))))))))))))))) [(19, true), (20, true), (21, false)] (by kernel_rfl) (by kernel_rfl) (by kernel_rfl) (by kernel_rfl) (Ext.refl _ wr).drew ?_
          iterate 14 (refine wpTreeE_quiet rfl rfl ?_; apply Exists.intro; refine ⟨?_, ?_⟩; (intro W hW; have u0 := jcz W hW; obtain ⟨u1, u2, u3, u4⟩ := rcz W hW; go_simp; try with_reducible rfl); (intro K hK; simp only [Act.put, List.setIfInBounds_toArray, List.set_cons_zero, List.set_cons_succ]; refine hK _ ?_; clear hK K))
          clear jcz rcz
          have fr := OwRD.front O3 q
          have bk := OwRD.back O3 q (by omega)
          obtain ⟨Bk, hBk⟩ : ∃ Bk, (if cd = q then Ad else Option.map (fun x => x.add (q * 4)) Ad) = Bk := ⟨_, rfl⟩
          rw [hBk] at bk ⊢
          clear hBk
          have hDl : ∀ k, ob Ad = some k → k < wr.heap.size := fun k hk => (O3.lt hk).2
          have ht1 : (S.take q).length = q := by rw [List.length_take]; omega
          have ht2 : (S.drop q).length = m - q := by rw [List.length_drop]; omega
          have htT : T.length = q + 1 + (m - q) := by rw [HTI.out, List.length_append, List.length_cons, ht1, ht2]; omega
          have hd3 := B3.lt
          have Xd : Ext (fun k => wr.heap.size ≤ k) wr wr.drew := (Ext.refl _ wr).drew
          have hvd : wr.heap.size ≤ wr.drew.heap.size := Nat.le_refl _
          generalize wr.drew = v at Xd hvd ⊢
          refine wpTreeE_both rfl rfl rfl rfl ?_ ?_
          · intro K hK
            go_simp
            refine hK _ _ (Xd.alloc (.cells #[] 40)) ?_
            clear hK K
            have Y1 := Xd.alloc (.cells #[] 40)
            have o1 := OwRD.made v wr.heap.size hvd
            refine wpTreeE_both rfl rfl rfl rfl ?_ ?_
            · intro K hK
              obtain ⟨A6, c6, u6, hrun6, o6, X6, _⟩ := run_apRS (n := 0) (m := q) (d := cd) fr hDl Y1 o1 rfl ht1 (by omega)
              rw [Nat.zero_add] at hrun6
              refine op_app (.tmp 64) (.tmp 70) rfl rfl rfl hrun6 ?_
              simp only [Act.put, List.setIfInBounds_toArray, List.set_cons_zero, List.set_cons_succ]
              refine hK _ _ X6 ?_
              clear hK K
              refine wpTreeE_call rfl rfl (fun K hK => ?_)
              go_simp
              refine hK _ _ (X6.alloc (.cells #[.int .u16 ra, .int .u32 rf, .int .u32 ru, .int .u32 rn] 40)) ?_
              clear hK K
              have Z6 := X6.alloc (.cells #[.int .u16 ra, .int .u32 rf, .int .u32 ru, .int .u32 rn] 40)
              have p6 := OwO.extN o6 ((Ext.refl Non u6).alloc (.cells #[.int .u16 ra, .int .u32 rf, .int .u32 ru, .int .u32 rn] 40))
              have Bp := Blk.new u6 40 (rcA ⟨ra, rf, ru, rn⟩)
              obtain ⟨A9, c9, u9, hrun9, o9, X9⟩ := one_apR (n := q) Z6 p6 Bp (by rw [List.nil_append]; exact ht1) (by omega)
              refine wpTreeE_call rfl rfl (fun K hK => ?_)
              refine op_app (.tmp 71) (.tmp 73) rfl rfl rfl hrun9 ?_
              simp only [Act.put, List.setIfInBounds_toArray, List.set_cons_zero, List.set_cons_succ]
              refine hK _ _ X9 ?_
              clear hK K
              obtain ⟨A0, c0, u0, hrun0, o0, X0, _⟩ := run_apRS (d := cd - q) (n := q + 1) (m := m - q) bk hDl X9 o9 (by rw [List.nil_append, List.length_append, ht1]; rfl) ht2 (by omega)
              refine wpTreeE_call rfl rfl (fun K hK => ?_)
              refine op_app (.tmp 74) (.tmp 80) rfl rfl rfl hrun0 ?_
              simp only [Act.put, List.setIfInBounds_toArray, List.set_cons_zero, List.set_cons_succ]
              refine hK _ _ X0 ?_
              clear hK K
              refine wpTreeE_end ?_
              have B0 := B3.ext X0 (fun h => by have h : wr.heap.size ≤ d := h; omega)
              have cJ : u0.cell? ⟨d, 0, none⟩ = some (.slice Ad m cd) := B0.cell 0
              have fJ := B0.frozen 0
              iterate 2 (refine wpSeqP_quiet rfl rfl ?_; apply Exists.intro; refine ⟨?_, ?_⟩; (intro W hW; go_simp; try with_reducible rfl); (intro K hK; simp only [Act.put, List.setIfInBounds_toArray, List.set_cons_zero, List.set_cons_succ]; refine hK _ ?_; clear hK K))
              refine wpSeqP_call rfl rfl (fun K hK => ?_)
              go_simp
              refine hK _ _ trivial ?_
              clear hK K cJ fJ
              refine wpSeqP_end ?_
              go_wp2_with fail
              go_ret
              have eT : [] ++ S.take q ++ [⟨ra, rf, ru, rn⟩] ++ S.drop q = T := by rw [HTI.out]; simp
              rw [eT] at o0
              have B9 := B0.set_ 0 (.slice A0 (q + 1 + (m - q)) c0)
              simp only [List.setIfInBounds_toArray, List.set_cons_zero] at B9
              have Y := (Ext.refl (One d) u0).setCell (p := ⟨d, 0, none⟩) (.inr rfl) (.slice A0 (q + 1 + (m - q)) c0)
              have o9' := OwO.ext o0 Y (fun b hb h => by have := (o0.lt hb).1; have h : b = d := h; omega)
              have XF : Ext D w (u0.setCell ⟨d, 0, none⟩ (.slice A0 (q + 1 + (m - q)) c0)) := ((X3.trans X0 (fun i hi h => by have h : wr.heap.size ≤ i := h; omega)).imp (fun _ _ h => h.elim)).setCell (p := ⟨d, 0, none⟩) (.inr H.dj) _
              refine ⟨rfl, XF, fun k => k = d ∨ ob A0 = some k, ⟨.inl rfl, A0, c0, by rw [htT]; exact B9, OwO.lower o9' (fun _ _ => Nat.zero_le _), fun k hk => .inr hk⟩, fun k hk => ?_⟩
              rw [World.size_setCell]
              rcases hk with rfl | hk
              · exact ⟨.inl H.dj, by have := X0.size; omega⟩
              · have := o0.lt hk
                exact ⟨.inr (by omega), this.2⟩
            · intro K hK
              go_simp
              refine hK _ _ (Y1.alloc (.cells #[.int .u16 ra, .int .u32 rf, .int .u32 ru, .int .u32 rn] 40)) ?_
              clear hK K
              have Y2 := Y1.alloc (.cells #[.int .u16 ra, .int .u32 rf, .int .u32 ru, .int .u32 rn] 40)
              have o2 := OwO.extN o1 ((Ext.refl Non _).alloc (.cells #[.int .u16 ra, .int .u32 rf, .int .u32 ru, .int .u32 rn] 40))
              have B2 := Blk.new (v.alloc (.cells #[] 40)) 40 (rcA ⟨ra, rf, ru, rn⟩)
              obtain ⟨A6, c6, u6, hrun6, o6, Z6, k6⟩ := run_apRS (n := 0) (m := q) (d := cd) fr hDl Y2 o2 rfl ht1 (by omega)
              have Bp := k6 _ _ _ B2 (fun h => by have h : v.heap.size = (v.alloc (.cells #[] 40)).heap.size := Option.some.inj h; rw [World.size_alloc] at h; omega)
              rw [World.size_alloc] at Bp
              rw [Nat.zero_add] at hrun6
              have p6 := o6
              refine wpTreeE_call rfl rfl (fun K hK => ?_)
              refine op_app (.tmp 64) (.tmp 70) rfl rfl rfl hrun6 ?_
              simp only [Act.put, List.setIfInBounds_toArray, List.set_cons_zero, List.set_cons_succ]
              refine hK _ _ Z6 ?_
              clear hK K
              obtain ⟨A9, c9, u9, hrun9, o9, X9⟩ := one_apR (n := q) Z6 p6 Bp (by rw [List.nil_append]; exact ht1) (by omega)
              refine wpTreeE_call rfl rfl (fun K hK => ?_)
              refine op_app (.tmp 71) (.tmp 73) rfl rfl rfl hrun9 ?_
              simp only [Act.put, List.setIfInBounds_toArray, List.set_cons_zero, List.set_cons_succ]
              refine hK _ _ X9 ?_
              clear hK K
              obtain ⟨A0, c0, u0, hrun0, o0, X0, _⟩ := run_apRS (d := cd - q) (n := q + 1) (m := m - q) bk hDl X9 o9 (by rw [List.nil_append, List.length_append, ht1]; rfl) ht2 (by omega)
              refine wpTreeE_call rfl rfl (fun K hK => ?_)
              refine op_app (.tmp 74) (.tmp 80) rfl rfl rfl hrun0 ?_
              simp only [Act.put, List.setIfInBounds_toArray, List.set_cons_zero, List.set_cons_succ]
              refine hK _ _ X0 ?_
              clear hK K
              refine wpTreeE_end ?_
              have B0 := B3.ext X0 (fun h => by have h : wr.heap.size ≤ d := h; omega)
              have cJ : u0.cell? ⟨d, 0, none⟩ = some (.slice Ad m cd) := B0.cell 0
              have fJ := B0.frozen 0
              iterate 2 (refine wpSeqP_quiet rfl rfl ?_; apply Exists.intro; refine ⟨?_, ?_⟩; (intro W hW; go_simp; try with_reducible rfl); (intro K hK; simp only [Act.put, List.setIfInBounds_toArray, List.set_cons_zero, List.set_cons_succ]; refine hK _ ?_; clear hK K))
              refine wpSeqP_call rfl rfl (fun K hK => ?_)
              go_simp
              refine hK _ _ trivial ?_
              clear hK K cJ fJ
              refine wpSeqP_end ?_
              go_wp2_with fail
              go_ret
              have eT : [] ++ S.take q ++ [⟨ra, rf, ru, rn⟩] ++ S.drop q = T := by rw [HTI.out]; simp
              rw [eT] at o0
              have B9 := B0.set_ 0 (.slice A0 (q + 1 + (m - q)) c0)
              simp only [List.setIfInBounds_toArray, List.set_cons_zero] at B9
              have Y := (Ext.refl (One d) u0).setCell (p := ⟨d, 0, none⟩) (.inr rfl) (.slice A0 (q + 1 + (m - q)) c0)
              have o9' := OwO.ext o0 Y (fun b hb h => by have := (o0.lt hb).1; have h : b = d := h; omega)
              have XF : Ext D w (u0.setCell ⟨d, 0, none⟩ (.slice A0 (q + 1 + (m - q)) c0)) := ((X3.trans X0 (fun i hi h => by have h : wr.heap.size ≤ i := h; omega)).imp (fun _ _ h => h.elim)).setCell (p := ⟨d, 0, none⟩) (.inr H.dj) _
              refine ⟨rfl, XF, fun k => k = d ∨ ob A0 = some k, ⟨.inl rfl, A0, c0, by rw [htT]; exact B9, OwO.lower o9' (fun _ _ => Nat.zero_le _), fun k hk => .inr hk⟩, fun k hk => ?_⟩
              rw [World.size_setCell]
              rcases hk with rfl | hk
              · exact ⟨.inl H.dj, by have := X0.size; omega⟩
              · have := o0.lt hk
                exact ⟨.inr (by omega), this.2⟩
          · intro K hK
            go_simp
            refine hK _ _ (Xd.alloc (.cells #[.int .u16 ra, .int .u32 rf, .int .u32 ru, .int .u32 rn] 40)) ?_
            clear hK K
            have Y1 := Xd.alloc (.cells #[.int .u16 ra, .int .u32 rf, .int .u32 ru, .int .u32 rn] 40)
            have B1' := Blk.new v 40 (rcA ⟨ra, rf, ru, rn⟩)
            refine wpTreeE_call rfl rfl (fun K hK => ?_)
            go_simp
            refine hK _ _ (Y1.alloc (.cells #[] 40)) ?_
            clear hK K
            have Y2 := Y1.alloc (.cells #[] 40)
            have o2 := OwRD.made (v.alloc (.cells #[.int .u16 ra, .int .u32 rf, .int .u32 ru, .int .u32 rn] 40)) wr.heap.size (by rw [World.size_alloc]; omega)
            have B2 := B1'.extN_ ((Ext.refl Non _).alloc (.cells #[] 40))
            obtain ⟨A6, c6, u6, hrun6, o6, Z6, k6⟩ := run_apRS (n := 0) (m := q) (d := cd) fr hDl Y2 o2 rfl ht1 (by omega)
            have Bp := k6 _ _ _ B2 (fun h => by have h : (v.alloc (.cells #[.int .u16 ra, .int .u32 rf, .int .u32 ru, .int .u32 rn] 40)).heap.size = v.heap.size := Option.some.inj h; rw [World.size_alloc] at h; omega)
            rw [Nat.zero_add, World.size_alloc] at hrun6
            have p6 := o6
            refine wpTreeE_call rfl rfl (fun K hK => ?_)
            refine op_app (.tmp 64) (.tmp 70) rfl rfl rfl hrun6 ?_
            simp only [Act.put, List.setIfInBounds_toArray, List.set_cons_zero, List.set_cons_succ]
            refine hK _ _ Z6 ?_
            clear hK K
            obtain ⟨A9, c9, u9, hrun9, o9, X9⟩ := one_apR (n := q) Z6 p6 Bp (by rw [List.nil_append]; exact ht1) (by omega)
            refine wpTreeE_call rfl rfl (fun K hK => ?_)
            refine op_app (.tmp 71) (.tmp 73) rfl rfl rfl hrun9 ?_
            simp only [Act.put, List.setIfInBounds_toArray, List.set_cons_zero, List.set_cons_succ]
            refine hK _ _ X9 ?_
            clear hK K
            obtain ⟨A0, c0, u0, hrun0, o0, X0, _⟩ := run_apRS (d := cd - q) (n := q + 1) (m := m - q) bk hDl X9 o9 (by rw [List.nil_append, List.length_append, ht1]; rfl) ht2 (by omega)
            refine wpTreeE_call rfl rfl (fun K hK => ?_)
            refine op_app (.tmp 74) (.tmp 80) rfl rfl rfl hrun0 ?_
            simp only [Act.put, List.setIfInBounds_toArray, List.set_cons_zero, List.set_cons_succ]
            refine hK _ _ X0 ?_
            clear hK K
            refine wpTreeE_end ?_
            have B0 := B3.ext X0 (fun h => by have h : wr.heap.size ≤ d := h; omega)
            have cJ : u0.cell? ⟨d, 0, none⟩ = some (.slice Ad m cd) := B0.cell 0
            have fJ := B0.frozen 0
            iterate 2 (refine wpSeqP_quiet rfl rfl ?_; apply Exists.intro; refine ⟨?_, ?_⟩; (intro W hW; go_simp; try with_reducible rfl); (intro K hK; simp only [Act.put, List.setIfInBounds_toArray, List.set_cons_zero, List.set_cons_succ]; refine hK _ ?_; clear hK K))
            refine wpSeqP_call rfl rfl (fun K hK => ?_)
            go_simp
            refine hK _ _ trivial ?_
            clear hK K cJ fJ
            refine wpSeqP_end ?_
            go_wp2_with fail
            go_ret
            have eT : [] ++ S.take q ++ [⟨ra, rf, ru, rn⟩] ++ S.drop q = T := by rw [HTI.out]; simp
            rw [eT] at o0
            have B9 := B0.set_ 0 (.slice A0 (q + 1 + (m - q)) c0)
            simp only [List.setIfInBounds_toArray, List.set_cons_zero] at B9
            have Y := (Ext.refl (One d) u0).setCell (p := ⟨d, 0, none⟩) (.inr rfl) (.slice A0 (q + 1 + (m - q)) c0)
            have o9' := OwO.ext o0 Y (fun b hb h => by have := (o0.lt hb).1; have h : b = d := h; omega)
            have XF : Ext D w (u0.setCell ⟨d, 0, none⟩ (.slice A0 (q + 1 + (m - q)) c0)) := ((X3.trans X0 (fun i hi h => by have h : wr.heap.size ≤ i := h; omega)).imp (fun _ _ h => h.elim)).setCell (p := ⟨d, 0, none⟩) (.inr H.dj) _
            refine ⟨rfl, XF, fun k => k = d ∨ ob A0 = some k, ⟨.inl rfl, A0, c0, by rw [htT]; exact B9, OwO.lower o9' (fun _ _ => Nat.zero_le _), fun k hk => .inr hk⟩, fun k hk => ?_⟩
            rw [World.size_setCell]
            rcases hk with rfl | hk
            · exact ⟨.inl H.dj, by have := X0.size; omega⟩
            · have := o0.lt hk
              exact ⟨.inr (by omega), this.2⟩
end Go.Proofs.YtnmpfbffacljfaaDoor
