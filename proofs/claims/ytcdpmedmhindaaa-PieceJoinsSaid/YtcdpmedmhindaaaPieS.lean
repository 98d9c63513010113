/- A message cut into chunks: slices.Collect over slices.Chunk. -/
import Derived.Test.YtcdpmedmhindaaaPieC
import Derived.Test.YtcdpmedmhindaaaOwV
import Derived.RangeFuncBox
import Derived.RangeFuncLeaves
import Derived.Shelf.Abstract
import Derived.WalkKit
import Derived.OwnWalkIn
import Derived.TacticsInMore
import Derived.LoopNIn
import Derived.LoopIn
import Derived.Maps.AppendAt
namespace Go.Proofs.Ytcdpmedmhindaaa
open Go.RowKit Go.Shelf
attribute [local go_sem] Oper.semAt_some

/-- The chunks of a message, as slices of it. -/
def chk (A : Option Addr) (m : List UInt8) (k : Nat) : Part := ⟨A.map (·.add (244 * k)), (pce m k).length, pce m k⟩
def chks (A : Option Addr) (m : List UInt8) (k : Nat) : List Part := (List.range k).map (chk A m)
theorem chks_succ (A : Option Addr) (m : List UInt8) (k : Nat) : chks A m (k + 1) = chks A m k ++ [chk A m k] := by simp [chks, List.range_succ]
theorem chks_len (A : Option Addr) (m : List UInt8) (k : Nat) : (chks A m k).length = k := by simp [chks]
def nch (m : List UInt8) : Nat := (m.length + 243) / 244

set_option maxRecDepth 100000 in
set_option maxHeartbeats 2000000 in
theorem chunk1_in (n : Nat) (hn : 1 ≤ n) (l Bs Bn n₀ : Nat) (A : Option Addr) (c : Nat) (m : List UInt8) (hml : m.length ≤ 1000000) (hmc : m.length ≤ c) (hcm : c ≤ maxLen) (hBs0 : Bs < n₀) (hBn0 : Bn < n₀)
    (J Jx : List Part → World → Prop) (hAJ : ∀ pre W, J pre W → J pre W.drew)
    (hY : ∀ pre x W, J pre W → pre.length < nch m → YieldAt Fence.wide (n - 1) Try.prog l #[Part.val x] W fun e W' =>
      (e = .returned (.bool true) ∧ J (pre ++ [x]) W' ∧ Below n₀ W W') ∨ (e = .returned (.bool false) ∧ Jx (pre ++ [x]) W'))
    (W : World) (hBs : W.cell? ⟨Bs, 0, none⟩ = some (.slice A m.length c)) (hBn : W.cell? ⟨Bn, 0, none⟩ = some (.int .i64 244)) (hA : m ≠ [] → A.isSome = true) (h0 : J [] W) :
    CallsIn Fence.wide n Try.prog 55 #[.func (.yield l) #[] #[], .pointer (some ⟨Bs, 0, none⟩), .pointer (some ⟨Bn, 0, none⟩)] W fun e W' => (∃ v, e = .returned v) ∧
      ((∃ ys, ys = chks A m (nch m) ∧ J ys W') ∨ (∃ pre, (∃ k, k ≤ nch m ∧ pre = chks A m k) ∧ Jx pre W')) := by
  refine callsIn_of_wp Try.func55 rfl trivial ?_ rfl
  simp only [Try.ntmps55, List.size_toArray, List.length_cons, List.length_nil, Nat.reduceAdd, Nat.reduceSub, Array.replicate_succ, Array.replicate_zero, List.push_toArray, List.append_toArray, List.nil_append, List.cons_append]
  simp only [maxLen] at hcm
  have hnch : nch m = (m.length + 243) / 244 := rfl
  gi_wp2
  gi_loopw [4] (fun i wr => ∃ k : Nat, k ≤ nch m ∧ i = .int .i64 ((244 * k : Nat) : Int) ∧ J (chks A m k) wr ∧ Below n₀ W wr)
    (fun i _ => 1000000 - (intOf i).toNat)
  case atStart => exact ⟨0, Nat.zero_le _, rfl, h0, Below.refl _ _⟩
  case round =>
    obtain ⟨k, hk, rfl, hJs, hnx⟩ := hrel
    have b1 := (hnx.cell (p := ⟨Bs, 0, none⟩) hBs0).trans hBs
    have b2 := (hnx.cell (p := ⟨Bn, 0, none⟩) hBn0).trans hBn
    by_cases hlt : k < nch m
    · obtain ⟨fn, tmps, assign, body, hy, hR⟩ := hY _ (chk A m k) wr.drew (hAJ _ _ hJs) (by rw [chks_len]; exact hlt)
      have hk2 : 244 * k < m.length := by omega
      have hnext : 244 * (k + 1) = 244 * k + 244 := rfl
      have i0 : (0 : Int) ≤ ((244 * k : Nat) : Int) := by omega
      have i1 : ((244 * k : Nat) : Int) ≤ (m.length : Int) := by omega
      have hpl : (pce m k).length = min 244 (m.length - 244 * k) := pce_len m k
      have hval : Part.val (chk A m k) = .slice (A.map (·.add (244 * k))) (pce m k).length (pce m k).length := rfl
      have cw1 : ∀ W', Ext Non wr.drew W' → W'.cell? ⟨Bs, 0, none⟩ = some (.slice A m.length c) := fun W' x => x.cell b1 (fun h => h)
      have cw2 : ∀ W', Ext Non wr.drew W' → W'.cell? ⟨Bn, 0, none⟩ = some (.int .i64 244) := fun W' x => x.cell b2 (fun h => h)
      have hz : ∀ z : Nat, (z = m.length - 244 * k ∨ z = 244) → (pce m k).length = z → Value.slice (cut A (244 * k) (((244 * k : Nat) : Int) + (z : Int)).toNat) ((((244 * k : Nat) : Int) + (z : Int)).toNat - 244 * k) ((((244 * k : Nat) : Int) + (z : Int)).toNat - 244 * k) = Part.val (chk A m k) := by
        intro z hz1 hz2
        rw [hval]
        have e : (((244 * k : Nat) : Int) + (z : Int)).toNat = 244 * k + z := by omega
        rw [e, Nat.add_sub_cancel_left, hz2]
        unfold cut
        rw [if_neg (by omega)]
      have hz1 := hz (m.length - 244 * k) (.inl rfl)
      have hz2 : (pce m k).length = 244 → Value.slice (cut A (244 * k) (((244 * k : Nat) : Int) + 244).toNat) ((((244 * k : Nat) : Int) + 244).toNat - 244 * k) ((((244 * k : Nat) : Int) + 244).toNat - 244 * k) = Part.val (chk A m k) := hz 244 (.inr rfl)
      have hsc := chks_succ A m k
      have HSC := Lib.hid hsc
      clear hsc
      generalize chk A m k = ck at *
      generalize hi : 244 * k = i at *
      clear hz hval
      gi_wp2
      refine wpIn_wide.2 ?_
      refine wp_region_seq Non ((0, true) :: (1, true) :: (2, true) :: (3, true) :: (4, true) :: (5, true) :: (6, true) :: []) (by kernel_rfl) (by kernel_rfl) (by kernel_rfl) ?_
      iterate 7 (refine wpSeq_quiet rfl rfl ?_; apply Exists.intro; refine ⟨?_, ?_⟩; (intro W hW; have c1 := cw1 W hW; have c2 := cw2 W hW; go_simp; try with_reducible rfl); (intro K hK; simp only [Act.put, List.setIfInBounds_toArray, List.set_cons_zero, List.set_cons_succ]; refine hK _ ?_; clear hK K))
      refine wpSeq_end ?_
      clear cw1 cw2
      gi_wp2
      · rename_i hmin
        rw [hz1 (by omega), hy]
        gi_wp2
        refine hR.mono ?_
        rintro e W3 (⟨rfl, hJ3, hk3⟩ | ⟨rfl, hJx3⟩)
        · have b3 := (hk3.cell (p := ⟨Bn, 0, none⟩) hBn0).trans b2
          gi_wp2
          go_roundw
          case rel => exact ⟨k + 1, by omega, by rw [hnext]; simp, by rw [HSC.out]; exact hJ3, hnx.trans ⟨hk3.os, hk3.tape, hk3.output, hk3.size, hk3.block⟩⟩
          case measure => simp [intOf]; omega
        · gi_wp2
          refine bodyPost_ret (results_none rfl _ _ _) rfl ?_
          exact ⟨⟨_, rfl⟩, .inr ⟨_, ⟨k + 1, by omega, rfl⟩, by rw [HSC.out]; exact hJx3⟩⟩
      · rename_i hmin
        rw [hz2 (by omega), hy]
        gi_wp2
        refine hR.mono ?_
        rintro e W3 (⟨rfl, hJ3, hk3⟩ | ⟨rfl, hJx3⟩)
        · have b3 := (hk3.cell (p := ⟨Bn, 0, none⟩) hBn0).trans b2
          gi_wp2
          go_roundw
          case rel => exact ⟨k + 1, by omega, by rw [hnext]; simp, by rw [HSC.out]; exact hJ3, hnx.trans ⟨hk3.os, hk3.tape, hk3.output, hk3.size, hk3.block⟩⟩
          case measure => simp [intOf]; omega
        · gi_wp2
          refine bodyPost_ret (results_none rfl _ _ _) rfl ?_
          exact ⟨⟨_, rfl⟩, .inr ⟨_, ⟨k + 1, by omega, rfl⟩, by rw [HSC.out]; exact hJx3⟩⟩
    · obtain rfl : k = nch m := by omega
      gi_wp2
      go_end0
      exact ⟨⟨_, rfl⟩, .inl ⟨_, rfl, hJs⟩⟩

theorem chunk_stops (n : Nat) (hn : 1 ≤ n) (Bs Bn n₀ : Nat) (A : Option Addr) (c : Nat) (m : List UInt8) (hml : m.length ≤ 1000000) (hmc : m.length ≤ c) (hcm : c ≤ maxLen) (hBs0 : Bs < n₀) (hBn0 : Bn < n₀) (w : World) (hn₀ : n₀ ≤ w.heap.size)
    (hBs : w.cell? ⟨Bs, 0, none⟩ = some (.slice A m.length c)) (hBn : w.cell? ⟨Bn, 0, none⟩ = some (.int .i64 244)) (hA : m ≠ [] → A.isSome = true) :
    SeqStopsK Fence.wide n Try.prog 55 #[.pointer (some ⟨Bs, 0, none⟩), .pointer (some ⟨Bn, 0, none⟩)] (fun x : Part => #[Part.val x]) (Below n₀) (fun ys => ys = chks A m (nch m)) (fun pre => ∃ k, k ≤ nch m ∧ pre = chks A m k) (nch m) w := fun l J Jx W hW hJ _ hY h0 =>
  chunk1_in n hn l Bs Bn n₀ A c m hml hmc hcm hBs0 hBn0 J Jx (fun pre W h => hJ pre W W.drew none h ⟨rfl, rfl, rfl, Nat.le_refl _, fun _ _ _ => rfl⟩ (fun _ h => by cases h)) hY W ((hW.cell (p := ⟨Bs, 0, none⟩) (by show Bs < _; omega)).trans hBs) ((hW.cell (p := ⟨Bn, 0, none⟩) (by show Bn < _; omega)).trans hBn) hA h0

theorem plinfo2 : (Try.prog.info? 24).map (fun i => (i.zero, i.size, i.bytes)) = some (some (.slice none 0 0), 1, 24) := by kernel_rfl
set_option maxRecDepth 100000 in
set_option maxHeartbeats 2000000 in
/-- All chunks are put into a slice of the call's own. -/
theorem appendseq_in (Bs Bn : Nat) (A : Option Addr) (c : Nat) (m : List UInt8) (hml : m.length ≤ 1000000) (hmc : m.length ≤ c) (hcm : c ≤ maxLen) (w : World) (hBs0 : Bs < w.heap.size) (hBn0 : Bn < w.heap.size)
    (hBs : w.cell? ⟨Bs, 0, none⟩ = some (.slice A m.length c)) (hBn : w.cell? ⟨Bn, 0, none⟩ = some (.int .i64 244)) (hA : m ≠ [] → A.isSome = true) :
    CallsIn Fence.wide 6 Try.prog 54 #[.slice none 0 0, .func (.func 55) #[] #[.pointer (some ⟨Bs, 0, none⟩), .pointer (some ⟨Bn, 0, none⟩)]] w fun e W' =>
      ∃ A' c', e = .returned (.slice A' (nch m) c') ∧ OwV 24 W' w.heap.size A' c' ((chks A m (nch m)).map Part.val) ∧ Below w.heap.size w W' := by
  obtain ⟨i0, hi, hz0, hz1, hz2⟩ := info_parts plinfo2
  refine callsIn_of_wp_marks Try.func54 rfl trivial ?_ rfl
  simp only [Try.ntmps54, List.size_toArray, List.length_cons, List.length_nil, Nat.reduceAdd, Nat.reduceSub, Array.replicate_succ, Array.replicate_zero, List.push_toArray, List.append_toArray, List.nil_append, List.cons_append]
  gi_wp2
  have bO := Boxed.new w 86 (.slice none 0 0)
  have hB0 : Below w.heap.size w (w.alloc (.cells #[.slice none 0 0] 86)) := (Below.refl _ w).alloc (Nat.le_refl _) _
  refine wpIn_rangeFunc_ownG rfl (by decide) (gf := 55) (lb := #[.pointer (some ⟨Bs, 0, none⟩), .pointer (some ⟨Bn, 0, none⟩)]) rfl trivial (enters_of Try.func55 (by kernel_rfl) rfl)
    (chunk_stops (6 - 1) (by omega) Bs Bn w.heap.size A c m hml hmc hcm hBs0 hBn0 _ (by simp) ((hB0.cell (p := ⟨Bs, 0, none⟩) hBs0).trans hBs) ((hB0.cell (p := ⟨Bn, 0, none⟩) hBn0).trans hBn) hA) belowK_t (belowK_b (by simp)) (Below.refl _ _) (fun _ => rfl)
    (fun (pre : List Part) W => (∃ v, Boxed W w.heap.size 86 v ∧ W.ownsRow w.heap.size 24 1 v pre.length (pre.map Part.val) ∧ True) ∧ Below w.heap.size w W)
    (fun _ _ _ => False)
    (OwnFrom.and (Own.from (holdsRow_own w.heap.size w.heap.size 86 24 1 (fun (pre : List Part) => pre.length) (fun pre => pre.map Part.val) (fun _ _ => True)) _) (ownFrom_below (Nat.le_refl _) (by simp)))
    (fun _ _ _ _ _ hs _ _ => hs)
    ⟨⟨_, bO, World.ownsRow_nil _ _ _ _, trivial⟩, hB0⟩
    (fun x => { tmps := #[.slice none 0 0, .func (.func 55) #[] #[.pointer (some ⟨Bs, 0, none⟩), .pointer (some ⟨Bn, 0, none⟩)], .pointer (some ⟨w.heap.size, 0, none⟩), undef, .slice none 0 0, Part.val x, .func (.func 55) #[] #[.pointer (some ⟨Bs, 0, none⟩), .pointer (some ⟨Bn, 0, none⟩)], Part.val x, undef, undef, undef, undef, undef], defers := [] }) ?assign ?body ?done ?stop
  case assign =>
    intro l x W K hK
    unfold Part.val at hK ⊢
    gi_wp2
    exact hK
  case body =>
    rintro l pre x W ⟨⟨v, hv, hrow, _⟩, hB⟩ hlt
    have hc := hv.cell
    have hx : Part.val x = .slice x.a x.l.length x.c := rfl
    rw [hx]
    have hnch : nch m = (m.length + 243) / 244 := rfl
    gi_wp2_with (gi_at_builtin; refine wpListIn_append_own _ rfl _ _ 86 rfl w.heap.size 24 i0 (.slice none 0 0) 1 24 Try.underlying86 hi hz0 hz1 hz2 rfl (by decide) _ _ _ rfl (hrow.alloc _) ⟨W.heap.size, 0, none⟩ 1 1 [.slice x.a x.l.length x.c] rfl rfl (cell_one_new _ _ _) (by simp [Value.oneCell']) (by simp only [maxLen]; omega) (by omega) (by have := hB.size; simp; omega) ?_; intro v' w1 hown' hgrow _; obtain ⟨g', cap', rfl⟩ := ownsRow_succ hown'; obtain ⟨hv1, hv2, hr2, hk2, hb2⟩ := hv.appended (by decide) hrow hB.size (Nat.le_refl _) hown' hgrow; have hc1 := hv1.cell; have hf1 := hv1.frozen)
    exact ⟨hk2.from _, hb2, ⟨_, hv2, by rw [List.map_append, List.length_append]; exact hr2, trivial⟩, hB.trans hb2⟩
  case done =>
    rintro D ys W hD rfl ⟨⟨v, hv, hrow, _⟩, hB⟩ hK
    have hc := hv.cell
    have hlen : (chks A m (nch m)).length = nch m := chks_len A m _
    obtain ⟨A', c', rfl⟩ : ∃ A' c', v = .slice A' (nch m) c' := by
      rcases hrow.2 with ⟨hv0, h0⟩ | ⟨g, cap, cur, hv0, _⟩
      · exact ⟨none, 0, by rw [hv0, ← hlen, h0]⟩
      · exact ⟨_, _, by rw [hv0, hlen]⟩
    gi_wp2
    refine ⟨by simp, .inl ⟨_, _, rfl, run_takeDeferred hK, ?_⟩⟩
    have hr2 := ownsRow_putObj hrow (.deferred none) hK rfl
    refine ⟨_, results_tmp rfl _ _ _, A', c', rfl, ?_, hB.trans (belowK_b (w := w) (Nat.le_refl _) W D _ _ (by simp at hD; omega) hK rfl rfl)⟩
    unfold OwV
    rw [List.length_map, hlen]
    rw [hlen] at hr2
    exact hr2
  case stop =>
    rintro D c pre W _ _ h _
    exact h.elim

theorem collect_calls {w : World} {D : Nat → Prop} {A : Option Addr} {m : List UInt8} (c n : Nat) (hr : Rd w D A (bvs m)) (hn : m.length = n) (hml : m.length ≤ 1000000) (hmc : m.length ≤ c) (hcm : c ≤ maxLen)
    (Bs Bn : Nat) (hBs0 : Bs < w.heap.size) (hBn0 : Bn < w.heap.size) (hBs : w.cell? ⟨Bs, 0, none⟩ = some (.slice A n c)) (hBn : w.cell? ⟨Bn, 0, none⟩ = some (.int .i64 244)) :
    Calls Try.prog 32 #[.func (.func 55) #[] #[.pointer (some ⟨Bs, 0, none⟩), .pointer (some ⟨Bn, 0, none⟩)]] w fun e W' =>
      ∃ A' c', e = .returned (.slice A' (nch m) c') ∧ OwV 24 W' w.heap.size A' c' ((chks A m (nch m)).map Part.val) ∧ Ext Non w W' := by
  subst hn
  have hA : m ≠ [] → A.isSome = true := by
    intro hne
    cases m with
    | nil => exact absurd rfl hne
    | cons x m =>
      obtain ⟨a, rfl, _⟩ := hr.at_ (k := 0) (u := .int .u8 (x.toNat : Int)) rfl
      rfl
  have ctr := callsIn_wide.1 (appendseq_in Bs Bn A c m hml hmc hcm w hBs0 hBn0 hBs hBn hA)
  go_enter Try.func32, Try.ntmps32
  go_wp2_with fail
  with_reducible refine Calls.mono ctr ?_
  rintro e w1 ⟨A', c', rfl, o, hb⟩
  go_wp2_with fail
  go_ret
  exact ⟨A', c', rfl, o, (Ext.of_below hb).imp (fun k hk h => by omega)⟩
theorem chunk_calls (w : World) (A : Option Addr) (n c : Nat) :
    Calls Try.prog 33 #[.slice A n c, .int .i64 244] w fun e w' => e = .returned (.func (.func 55) #[] #[.pointer (some ⟨w.heap.size, 0, none⟩), .pointer (some ⟨w.heap.size + 1, 0, none⟩)]) ∧
      w' = (w.alloc (.cells #[.slice A n c] 24)).alloc (.cells #[.int .i64 244] 3) := by
  go_enter Try.func33, Try.ntmps33
  go_wp2
  go_ret
  exact ⟨rfl, rfl⟩
end Go.Proofs.Ytcdpmedmhindaaa
