/- The document's joiner in memory; slices of the document's pieces; of, Len. -/
import Derived.Test.YtcdpmedmhindaaaRjP
import Derived.Test.YtcdpmedmhindaaaRef16
import Derived.Great.BuildSlice
namespace Go.Proofs.Ytcdpmedmhindaaa
open Go.RowKit

@[go_sem ↓] theorem big_load_rp (x : Value) : Instr.loadAt 52 x = bigLoad 52 x := rfl
def rpl (p : Pc) : List Value := (rpc p).toList
def rpls (ps : List Pc) : List Value := ps.flatMap rpl
theorem rpl_len (p : Pc) : (rpl p).length = 7 := rfl
theorem rpls_len : ∀ ps : List Pc, (rpls ps).length = ps.length * 7
  | [] => rfl
  | p :: ps => by
    unfold rpls at *
    rw [List.flatMap_cons, List.length_append, rpl_len]
    have := rpls_len ps
    unfold rpls at this
    rw [this, List.length_cons]
    omega
theorem rpls_get : ∀ (ps : List Pc) (i : Nat) (hi : i < ps.length) (j : Nat), j < 7 → (rpls ps)[i * 7 + j]? = (rpl ps[i])[j]?
  | p :: ps, 0, _, j, hj => by
    unfold rpls
    rw [List.flatMap_cons, List.getElem?_append_left (by rw [rpl_len]; omega)]
    simp
  | p :: ps, i + 1, hi, j, hj => by
    have := rpls_get ps i (by simpa using hi) j hj
    unfold rpls at this ⊢
    rw [List.flatMap_cons, List.getElem?_append_right (by rw [rpl_len]; omega), rpl_len, show (i + 1) * 7 + j - 7 = i * 7 + j from by omega]
    exact this
theorem rpl_one (p : Pc) : ∀ u ∈ rpl p, u.oneCell' = true := by
  intro u hu
  simp only [rpl, rpc, List.mem_cons, List.not_mem_nil, or_false] at hu
  rcases hu with rfl | rfl | rfl | rfl | rfl | rfl | rfl <;> rfl
/-- Slices of the document's pieces. -/
abbrev OwP (w : World) (base : Nat) (A : Option Addr) (c : Nat) (ps : List Pc) : Prop := OwO 52 7 w base A ps.length c (rpls ps)
theorem rpinfo : (Try.prog.info? 52).map (fun i => (i.zero, i.size, i.bytes)) = some (some (.agg #[.int .i64 0, .int .u32 0, .int .u16 0, .int .u16 0, .int .i64 0, .int .i64 0, .string ⟨#[]⟩]), 7, 48) := by kernel_rfl
theorem load_rp {w : World} {p : Pc} {b o : Nat} (h : ∀ j u, (rpl p)[j]? = some u → w.cell? ⟨b, o + j, none⟩ = some u) : (bigLoad 52 (.pointer (some ⟨b, o, none⟩))).run Try.prog w = .ok (.agg (rpc p)) w := by
  have := run_loadAt_mid (P := Try.prog) w b o 52 (rpl p) _ h Try.underlying52 rfl (by kernel_rfl)
  have e : rpc p = (rpl p).toArray := by simp [rpl]
  rw [e]
  exact this
/-- Where an element is. -/
theorem OwP.at_ {w : World} {base : Nat} {A : Option Addr} {c : Nat} {ps : List Pc} (h : OwP w base A c ps) (i : Nat) (hi : i < ps.length) :
    A.isSome = true ∧ ∃ g o, (A.getD default).add (i * 7) = ⟨g, o, none⟩ ∧ ob A = some g ∧ ∀ j u, (rpl ps[i])[j]? = some u → w.cell? ⟨g, o + j, none⟩ = some u := by
  have hle := h.le
  rcases h.ex with ⟨_, h0⟩ | ⟨g, off, cur, rfl, hb, hg, h1, h2⟩
  · omega
  · refine ⟨rfl, g, off + i * 7, addr_add g off (i * 7), rfl, fun j u hu => ?_⟩
    have hj : j < 7 := (List.getElem?_eq_some_iff.1 hu).1
    rw [← rpls_get ps i hi j hj, ← h2, List.getElem?_take, if_pos (by omega), List.getElem?_drop] at hu
    rw [hg.cell, ← hu, Array.getElem?_toList]
    congr 1
    omega
def bigBuildP (n : Nat) (x : Array (Nat × Value)) : Sem Value := Instr.buildSlice 41 n x
@[go_sem ↓] theorem big_buildP (x : Array (Nat × Value)) : Instr.buildSlice 41 1 x = bigBuildP 1 x := rfl
theorem build_p (w : World) (p : Pc) : (bigBuildP 1 #[(0, .agg (rpc p))]).run Try.prog w = .ok (.slice (some ⟨w.heap.size, 0, none⟩) 1 1) (w.alloc (.cells (rpc p) 52)) := by
  obtain ⟨ie, hie, hz, hs, _⟩ := info_parts rpinfo
  refine run_buildSlice w 41 52 1 _ (rpc p) ie _ Try.underlying41 hie hz (by rw [hs]; decide) (by rw [hs]; decide) ?_
  rw [hs]
  have hf := Great.fill_whole (s := 7) (by decide) [.agg (rpc p)] ((Array.range (1 * 7)).map ((Value.agg #[.int .i64 0, .int .u32 0, .int .u16 0, .int .u16 0, .int .i64 0, .int .i64 0, .string ⟨#[]⟩]).cells[· % (Value.agg #[.int .i64 0, .int .u32 0, .int .u16 0, .int .u16 0, .int .i64 0, .int .i64 0, .string ⟨#[]⟩]).cells.size]!)) (fun v hv => by rw [List.mem_singleton.1 hv]; rfl) (by simp)
  refine hf.trans ?_
  have e : (List.flatMap (fun v : Value => v.cells.toList) [Value.agg (rpc p)]) = (rpc p).toList := by
    rw [List.flatMap_cons, List.flatMap_nil, List.append_nil]
    rfl
  rw [e]
theorem run_apP (ty : TypeId) {w : World} {base : Nat} {A : Option Addr} {c : Nat} {ps : List Pc} (hown : OwP w base A c ps) {B : Addr} {qs : List Pc} (hr : ∀ j u, (rpls qs)[j]? = some u → w.cell? (B.add j) = some u) (d n m : Nat) (hn : ps.length = n) (hm : qs.length = m) (hlen : n + m ≤ 900000) (hbase : base ≤ w.heap.size) :
    ∃ A' c' w', (Builtin.append_ #[41, 41] ty #[.slice A n c, .slice (some B) m d]).run Try.prog w = .ok (.slice A' (n + m) c') w' ∧ OwP w' base A' c' (ps ++ qs) ∧ Ext (fun k => ob A = some k) w w' ∧ (ob A' = ob A ∨ ob A' = some w.heap.size) := by
  subst hn hm
  obtain ⟨A', c', w', hrun, h2, h3, h4⟩ := run_apO (P := Try.prog) Try.underlying41 rpinfo rfl ty hown hr (m := qs.length) (rpls_len qs) (fun u hu => by
    unfold rpls at hu
    obtain ⟨q, _, hq⟩ := List.mem_flatMap.1 hu
    exact rpl_one q u hq) d (by omega) (by decide) hbase
  refine ⟨A', c', w', hrun, ?_, h3, h4⟩
  have e : rpls (ps ++ qs) = rpls ps ++ rpls qs := by unfold rpls; rw [List.flatMap_append]
  unfold OwP
  rw [List.length_append, e]
  exact h2
section
variable {w : World} {ops : Array Oper} {rest : List Oper} {o : Oper} {a : Act} {Q : Exit → Act → World → Prop}
theorem wp_apP (hgd : o.guard = none) (s x : Operand) (ho : o.op = .call { callee := .builtin .append, args := #[s, x], argTypes := #[41, 41] })
    {base : Nat} {A : Option Addr} {c : Nat} {ps : List Pc} (n : Nat) (hs : a.eval s = .slice A n c) (hown : OwP w base A c ps) (hn : ps.length = n)
    {g : Nat} {t : Pc} (d : Nat) (hx : a.eval x = .slice (some ⟨g, 0, none⟩) 1 d) (hr : Blk w g 52 (rpc t)) (hlen : n ≤ 800000) (hbase : base ≤ w.heap.size)
    (h : ∀ A' c' w', OwP w' base A' c' (ps ++ [t]) → Ext (fun k => ob A = some k) w w' → (ob A' = ob A ∨ ob A' = some w.heap.size) →
      wpList Try.prog ops Q rest (a.put o.dst (.slice A' (n + 1) c')) w') : wpList Try.prog ops Q (o :: rest) a w := by
  have hcell : ∀ j u, (rpls [t])[j]? = some u → w.cell? ((⟨g, 0, none⟩ : Addr).add j) = some u := by
    intro j u hu
    rw [addr_add, Nat.zero_add, hr.cell]
    have e : rpls [t] = rpl t := by unfold rpls; simp
    rw [e] at hu
    rw [← hu]
    simp [rpl]
  obtain ⟨A', c', w', hrun, h2, h3, h4⟩ := run_apP o.type hown hcell d n 1 hn rfl (by omega) hbase
  refine wpList_plain hgd fun K hK => ?_
  unfold Oper.wp execOp
  simp only [ho, resolve, invoke, builtin, Sem.run_bind, Sem.run_pure, Result.andThen_ok, List.map_toArray, List.map_cons, List.map_nil, hs, hx, hrun]
  exact hK _ _ (h A' c' w' h2 h3 h4)
end
set_option maxRecDepth 100000 in
set_option maxHeartbeats 1000000 in
/-- Are two pieces of one message? -/
theorem rof_calls (w : World) (p q : Pc) :
    Calls Try.prog 34 #[.agg (rpc p), .agg (rpc q)] w fun e w' => e = .returned (.bool (decide (p.key = q.key))) ∧ Ext Non w w' := by
  have hk : decide (p.key = q.key) = decide (p.id = q.id ∧ p.fr = q.fr ∧ p.bx = q.bx) := by
    unfold Pc.key
    simp only [Prod.mk.injEq]
  rw [hk]
  clear hk
  obtain ⟨ki, id, fr, bx, pl, co, b⟩ := p
  obtain ⟨ki', id', fr', bx', pl', co', b'⟩ := q
  unfold rpc
  simp only
  go_enter Try.func34, Try.ntmps34
  go_wp2_with fail
  all_goals go_ret
  all_goals refine ⟨?_, ((Ext.refl _ _).alloc _).alloc _⟩
  all_goals refine congrArg (fun b => Ending.returned (Value.bool b)) ?_
  all_goals rw [Bool.eq_iff_iff]
  all_goals try simp only [beq_iff_eq, beq_eq_false_iff_ne, ne_eq, decide_eq_true_eq, Bool.and_eq_true, Bool.false_eq_true, false_iff, true_iff] at *
  all_goals try omega
/-- The document's joiner in memory. -/
structure RJo (w : World) (D : Nat → Prop) (j : Nat) (R : RJ) : Prop where
  dj : D j
  ex : ∃ (AL : Option Addr) (cL : Nat) (AD : Option Addr) (cD : Nat), Blk w j 43 #[.int .i64 R.room, .slice AL R.L.length cL, .slice AD R.dn.length cD] ∧ OwP w 0 AL cL R.L ∧ OwP w 0 AD cD R.dn ∧ (∀ k, ob AL = some k → D k) ∧ (∀ k, ob AD = some k → D k)
section
variable {S D D' : Nat → Prop} {w w' : World} {j : Nat} {R : RJ}
theorem RJo.ext (h : RJo w D j R) (x : Ext S w w') (hS : ∀ k, D k → ¬ S k) : RJo w' D j R := by
  obtain ⟨AL, cL, AD, cD, h1, h2, h3, h4, h5⟩ := h.ex
  exact ⟨h.dj, AL, cL, AD, cD, h1.ext x (hS j h.dj), h2.ext x (fun k hk => hS k (h4 k hk)), h3.ext x (fun k hk => hS k (h5 k hk)), h4, h5⟩
theorem RJo.extN (h : RJo w D j R) (x : Ext Non w w') : RJo w' D j R := h.ext x (fun _ _ h => h)
theorem RJo.lt (h : RJo w D j R) : j < w.heap.size := by
  obtain ⟨AL, cL, AD, cD, h1, _⟩ := h.ex
  exact h1.lt
end
/-- The loads of an element, as the world grows. -/
theorem OwP.ld {w : World} {base : Nat} {A : Option Addr} {c : Nat} {ps : List Pc} (h : OwP w base A c ps) (i : Nat) (hi : i < ps.length) {p : Pc} (hp : ps[i] = p) :
    A.isSome = true ∧ ∀ W, Ext Non w W → (bigLoad 52 (.pointer (some ((A.getD default).add (i * 7))))).run Try.prog W = .ok (.agg (rpc p)) W := by
  subst hp
  obtain ⟨hA, g, o, ha, _, hc⟩ := h.at_ i hi
  refine ⟨hA, fun W x => ?_⟩
  rw [ha]
  exact load_rp (fun j u hu => x.cell (hc j u hu) (fun h => h))
theorem opn_le (L : List Pc) : (opnOf L).length ≤ L.length := by
  induction L using snoc_ind with
  | h0 => exact Nat.le_refl _
  | h1 L q ih =>
    rw [opn_len, List.length_append]
    split <;> simp <;> omega
theorem opn_take (L : List Pc) (i : Nat) (hi : i < L.length) : (opnOf (L.take (i + 1))).length = (opnOf (L.take i)).length + if own (L.take i) L[i].key = [] then 1 else 0 := by
  rw [List.take_succ_eq_append_getElem hi, opn_len]
theorem own_take (L : List Pc) (i : Nat) (hi : i < L.length) (k : Ky) : own (L.take (i + 1)) k = if L[i].key = k then own (L.take i) k ++ [L[i]] else own (L.take i) k := by
  rw [List.take_succ_eq_append_getElem hi, own_snoc]
set_option maxRecDepth 100000 in
set_option maxHeartbeats 2000000 in
theorem rlen_calls {w : World} {D : Nat → Prop} {j : Nat} {R : RJ} (H : RJo w D j R) (n : Nat) (hn : R.L.length = n) (hl : n ≤ 1000000) (m : Nat) (hm : (opnOf R.L).length = m) :
    Calls Try.prog 25 #[.pointer (some ⟨j, 0, none⟩)] w fun e w' => e = .returned (.int .i64 (m : Int)) ∧ Ext Non w w' := by
  subst hm
  obtain ⟨AL, cL, AD, cD, B, OL, _, _, _⟩ := H.ex
  rw [hn] at B
  generalize R.L = L at *
  have c1 : ∀ W, Ext Non w W → W.cell? ⟨j, 1, none⟩ = some (.slice AL n cL) := fun W x => (B.extN_ x).cell 1
  clear H B
  go_enter Try.func25, Try.ntmps25
  go_wp2_with fail
  go_loopw [3, 4] (fun m z wr => ∃ i : Nat, i ≤ n ∧ z = .int .i64 i ∧ m = .int .i64 ((opnOf (L.take i)).length : Nat) ∧ Ext Non w wr) (fun _ z _ => n - (intOf z).toNat)
  case atStart => exact ⟨0, by omega, rfl, rfl, Ext.refl _ _⟩
  case round =>
    obtain ⟨i, hi, rfl, rfl, X⟩ := hrel
    have cj := c1 wr X
    by_cases hlt : i < n
    · have i1 : (i : Int) < (n : Int) := by omega
      have hiL : i < L.length := by omega
      obtain ⟨p, hp⟩ : ∃ p, L[i] = p := ⟨_, rfl⟩
      have hot := opn_take L i hiL
      rw [hp] at hot
      obtain ⟨hA, ldi⟩ := OL.ld i hiL hp
      have hle : (opnOf (L.take i)).length ≤ 1000000 := by
        have := opn_le (L.take i)
        rw [List.length_take] at this
        omega
      generalize (opnOf (L.take i)).length = m at *
      go_wp2_with fail
      go_loopw [5, 6] (fun s z wq => ∃ k : Nat, k ≤ i ∧ z = .int .i64 k ∧ s = .bool (decide (own (L.take k) p.key = [])) ∧ Ext Non w wq) (fun _ z _ => i - (intOf z).toNat)
      case atStart => exact ⟨0, by omega, rfl, rfl, X⟩
      case round =>
        clear X cj
        obtain ⟨k, hk, rfl, rfl, X⟩ := hrel
        by_cases hlk : k < i
        · have i2 : (k : Int) < (i : Int) := by omega
          have hkL : k < L.length := by omega
          have i3 : (k : Int) < (n : Int) := by omega
          obtain ⟨q, hq⟩ : ∃ q, L[k] = q := ⟨_, rfl⟩
          have hok := own_take L k hkL p.key
          rw [hq] at hok
          have hfl : decide (own (L.take (k + 1)) p.key = []) = (decide (own (L.take k) p.key = []) && !decide (q.key = p.key)) := by
            rw [hok]
            by_cases h : q.key = p.key
            · rw [if_pos h]; simp [h]
            · rw [if_neg h]; simp [h]
          obtain ⟨_, ldk⟩ := OL.ld k hkL hq
          have HF := Lib.hid hfl
          clear hok hfl
          generalize decide (own (L.take k) p.key = []) = fl at *
          go_upto_region 9 with (fail)
          refine wp_region_seq Non ((0, true) :: (1, true) :: (2, true) :: (3, true) :: (4, true) :: (5, true) :: (6, true) :: (7, true) :: (8, true) :: (9, true) :: (10, true) :: (11, true) :: (12, true) :: (13, true) :: (14, false) :: (15, true) :: []) (by kernel_rfl) (by kernel_rfl) (by kernel_rfl) ?_
          iterate 14 (refine wpSeq_quiet rfl rfl ?_; apply Exists.intro; refine ⟨?_, ?_⟩; (intro W hW; have u0 := c1 W (X.transN hW.drewL); have u1 := ldk W (X.transN hW.drewL); have u2 := ldi W (X.transN hW.drewL); go_simp; try with_reducible rfl); (intro K hK; simp only [Act.put, List.setIfInBounds_toArray, List.set_cons_zero, List.set_cons_succ]; refine hK _ ?_; clear hK K))
          refine wpSeq_call rfl rfl (fun K hK => ?_)
          go_simp
          have ctr := rof_calls wr.drew q p
          with_reducible refine Calls.mono ctr ?_
          clear ctr
          rintro e w3 ⟨rfl, x3⟩
          go_simp
          refine hK _ _ x3 ?_
          clear hK K
          iterate 1 (refine wpSeq_quiet rfl rfl ?_; apply Exists.intro; refine ⟨?_, ?_⟩; (intro W hW; go_simp; try with_reducible rfl); (intro K hK; simp only [Act.put, List.setIfInBounds_toArray, List.set_cons_zero, List.set_cons_succ]; refine hK _ ?_; clear hK K))
          refine wpSeq_end ?_
          have X3 := X.transN x3.drewL
          cases fl
          · go_wp2_with fail
            exact ⟨⟨k + 1, by omega, by go_num, by rw [HF.out]; rfl, X3⟩, by simp [intOf]; omega⟩
          · go_wp2_with fail
            exact ⟨⟨k + 1, by omega, by go_num, by rw [HF.out]; rfl, X3⟩, by simp [intOf]; omega⟩
        · obtain rfl : k = i := by omega
          have i2 : ¬ (k : Int) < (k : Int) := by omega
          by_cases h0 : own (L.take k) p.key = []
          · rw [if_pos h0] at hot
            have hd : decide (own (L.take k) p.key = []) = true := decide_eq_true h0
            rw [hd]
            go_wp2_with fail
            exact ⟨⟨k + 1, by omega, by go_num, by rw [hot]; rfl, X⟩, by simp [intOf]; omega⟩
          · rw [if_neg h0] at hot
            have hd : decide (own (L.take k) p.key = []) = false := decide_eq_false h0
            rw [hd]
            go_wp2_with fail
            exact ⟨⟨k + 1, by omega, by go_num, by rw [hot]; rfl, X⟩, by simp [intOf]; omega⟩
    · obtain rfl : i = n := by omega
      have i1 : ¬ (i : Int) < (i : Int) := by omega
      have e : L.take i = L := List.take_of_length_le (by omega)
      rw [e]
      go_wp2_with fail
      go_ret
      exact ⟨rfl, X⟩
end Go.Proofs.Ytcdpmedmhindaaa
