/- The law ShaEdges: one, two and three rows of one byte have the document's sums; for any numbers. -/
import Derived.Test.YtbhplepbccgecaaDoorRef03S
import Derived.Test.YtbhplepbccgecaaDoorShaL
namespace Go.Proofs.YtbhplepbccgecaaDoor
open Go.RowKit

set_option maxRecDepth 100000 in
set_option maxHeartbeats 4000000 in
theorem edges_walk (b0 x0 : Int) (hb0 : (Lit.int .u8 b0).wf = true) (w : World) (G : Glob w) (hw2 : 2 ≤ w.heap.size) :
    Calls Tryd.prog 6 #[.int .u8 b0, .int .i64 x0] w fun e w' => e = .returned (.bool true) ∧ Below w.heap.size w w' := by
  obtain ⟨bb, hbb⟩ : ∃ b : UInt8, (b.toNat : Int) = b0 := by
    simp [Lit.wf, IntKind.min, IntKind.max, IntKind.signed, IntKind.bits] at hb0
    exact ⟨UInt8.ofNat b0.toNat, by simp; omega⟩
  subst hbb
  clear hb0
  obtain ⟨n0, hn0, hn0a⟩ := and16_at x0
  obtain ⟨n, hn⟩ : ∃ n, n = 1 + n0 % 200 := ⟨_, rfl⟩
  obtain ⟨N, hN⟩ : ∃ N, N = n + 1 := ⟨_, rfl⟩
  have hn1 : 1 ≤ n := by omega
  have hn2 : n ≤ 200 := by omega
  have en : (n0 : Int).tmod 200 = ((n0 % 200 : Nat) : Int) := rfl
  have en2 : (1 : Int) + (n0 : Int) % 200 = (n : Int) := by omega
  have eN : (n : Int) + 1 = (N : Int) := by omega
  have i0 : (0 : Int) ≤ (N : Int) := by omega
  have i1 : (N : Int) ≤ 70368744177664 := by omega
  have tn : (N : Int).toNat = N := rfl
  have HN := Lib.hid hN
  clear hn hN
  have z2 := zrow32_ne
  go_enter Tryd.func6, Tryd.ntmps6
  go_wp2_with fail
  have ctr := shown_calls G hw2
  with_reducible refine Calls.mono ctr ?_
  clear ctr
  rintro e w1 ⟨rfl, x1⟩
  go_wp2_with fail
  have O1 := own_zeros w1 w.heap.size x1.size N (by omega)
  have X1 : Ext Non w (w1.alloc (.cells (zrow N) 5)) := x1.alloc _
  generalize some (⟨w1.heap.size, 0, none⟩ : Addr) = A at O1 ⊢
  go_loopw [7] (fun i wr => ∃ (k : Nat) (l : List UInt8), k ≤ N ∧ i = .int .i64 k ∧ l.length = N ∧ OwB wr w.heap.size A N l ∧ Ext Non w wr) (fun i _ => N - (intOf i).toNat)
  case atStart => exact ⟨0, _, by omega, rfl, zeros_length N, O1, X1⟩
  case round =>
    clear O1 X1 x1
    obtain ⟨k, l, hk, rfl, hl, o, X⟩ := hrel
    by_cases hkn : k < N
    · obtain ⟨hA, ⟨u, hc⟩, hf, o', x'⟩ := o.set_ (j := k) (by omega) bb _ rfl
      have X' := X.trans x' (fun i hi he => by have := (o.lt he).1; omega)
      clear X
      go_wp2_with fail
      exact ⟨⟨k + 1, l.set k bb, by omega, by go_num, by simpa using hl, o', X'⟩, by simp [intOf]; omega⟩
    · obtain rfl : N = k := by omega
      have en3 : (n : Int) - 1 = ((n - 1 : Nat) : Int) := by omega
      clear hk hkn
      go_wp2_with fail
      go_loopw [8] (fun i wr => ∃ (k : Nat), n - 1 ≤ k ∧ k ≤ N + 1 ∧ i = .int .i64 k ∧ OwB wr w.heap.size A N l ∧ Ext Non w wr) (fun i _ => N + 1 - (intOf i).toNat)
      case atStart => exact ⟨n - 1, by omega, by have := HN.out; omega, rfl, o, X⟩
      case round =>
        clear o X
        obtain ⟨k, hk1, hk2, rfl, o, X⟩ := hrel
        by_cases hkn : k ≤ N
        · have k1 : (k : Int) ≤ (N : Int) := by omega
          have oA : ∀ i, ob A = some i → w.heap.size ≤ i ∧ i < wr.heap.size := fun i hi => o.lt hi
          have Gw := G.extN X
          have hwr := X.size
          have rr : Rd wr (fun k => ob A = some k) A (bvs (l.take k)) := by
            have := o.rd.take k
            rwa [← bvs_take5] at this
          have ll : (l.take k).length = k := by simp; omega
          have pA : ∀ q ∈ ([⟨A, N, l.take k⟩] : List Part), Rd wr (· < wr.heap.size) q.a (bvs q.l) ∧ q.l.length ≤ q.c := fun q hq => by
            simp only [List.mem_cons, List.not_mem_nil, or_false] at hq
            subst hq
            exact ⟨rr.imp (fun k hk _ => hk), by show (l.take k).length ≤ N; omega⟩
          have V : Hid ((([⟨A, N, l.take k⟩] : List Part).map Part.val).toArray = #[.slice A k N]) := by
            show _ = _
            simp [Part.val, ll]
          have E : Hid (allOf [⟨A, N, l.take k⟩] = l.take k) := by show _ = _; simp [allOf]
          have hll : (l.take k).length ≤ 562949953421312 := by omega
          have LL := Lib.hid ll
          have HL := Lib.hid hl
          clear hl ll
          generalize l.take k = m at *
          go_wp2_with fail
          have ctr := sumN_calls (Ext.refl Non wr) Gw (by omega) [⟨A, N, m⟩] pA 1 rfl (by rw [E.out]; exact hll) (by decide) #[.slice A k N] V.out (Ext.refl Non _) m E.out
          with_reducible refine Calls.mono ctr ?_
          clear ctr
          rintro e w4 ⟨rfl, x4⟩
          go_wp2_with fail
          have X4 : Ext Non wr (w4.alloc (.cells (ba (sha m)) 25)) := (((Ext.refl Non wr).alloc _).transN x4).alloc _
          have B4 := Blk.new w4 25 (ba (sha m))
          generalize w4.alloc (.cells (ba (sha m)) 25) = w5 at *
          generalize w4.heap.size = p at *
          have o5 := o.extN X4
          have X5 := X.transN X4
          have cs := fun W => run_arr_all (P := Tryd.prog) W Tryd.underlying25 s8 p 0 (by decide)
          have cv := fun W (hW : Ext Non w5 W) => run_convert_rd W 24 9 5 Tryd.underlying24 Tryd.underlying9 Tryd.underlying5 ((rd_ba B4).extN hW) 32 32 (sha_len m)
          have cm := fun W (hW : Ext Non w5 W) => run_convert_rd W 24 9 5 Tryd.underlying24 Tryd.underlying9 Tryd.underlying5 (rr.extN (X4.transN hW)) k N LL.out
          clear o X B4 x4 pA V E
          refine wp_region_seq Non ((0, true) :: (1, true) :: (2, true) :: (3, true) :: (4, true) :: (5, true) :: (6, false) :: (7, true) :: []) (by kernel_rfl) (by kernel_rfl) (by kernel_rfl) ?_
          iterate 6 (refine wpSeq_quiet rfl rfl ?_; apply Exists.intro; refine ⟨?_, ?_⟩; (intro W hW; have c1 := cv W hW.drewL; have c2 := cm W hW.drewL; go_simp; try with_reducible rfl); (intro K hK; simp only [Act.put, List.setIfInBounds_toArray, List.set_cons_zero, List.set_cons_succ]; refine hK _ ?_; clear hK K))
          refine wpSeq_call rfl rfl (fun K hK => ?_)
          go_simp
          have ctr := rsum_calls w5.drew m (by have := LL.out; have := HN.out; omega)
          with_reducible refine Calls.mono ctr ?_
          clear ctr
          rintro e w6 ⟨rfl, x6⟩
          go_simp
          refine hK _ _ x6 ?_
          clear hK K
          iterate 1 (refine wpSeq_quiet rfl rfl ?_; apply Exists.intro; refine ⟨?_, ?_⟩; (intro W hW; go_simp; try with_reducible rfl); (intro K hK; simp only [Act.put, List.setIfInBounds_toArray, List.set_cons_zero, List.set_cons_succ]; refine hK _ ?_; clear hK K))
          refine wpSeq_end ?_
          have X6 := X5.drew.transN x6
          have o6 := (OwB.drew o5).extN x6
          clear cs cv cm rr
          go_wp2_with fail
          exact ⟨⟨k + 1, by omega, by omega, by go_num, o6, X6⟩, by simp [intOf]; omega⟩
        · have k1 : ¬ (k : Int) ≤ (N : Int) := by omega
          go_wp2_with fail
          go_ret
          exact ⟨rfl, X.belowN⟩
end Go.Proofs.YtbhplepbccgecaaDoor
