/- Contract of package sha: the sum of parts. -/
import Derived.Test.YtnmpfbffacljfaaDoorShaS
namespace Go.Proofs.YtnmpfbffacljfaaDoor
open Go.RowKit

/-- All bytes of parts. -/
def allOf (ps : List Part) : List UInt8 := ps.flatMap Part.l
theorem allOf_snoc (ps : List Part) (j : Nat) (h : j < ps.length) : allOf (ps.take (j + 1)) = allOf (ps.take j) ++ ps[j].l := by
  unfold allOf
  rw [List.take_succ_eq_append_getElem h, List.flatMap_append]
  simp
theorem allOf_le (ps : List Part) (j : Nat) : (allOf (ps.take j)).length ≤ (allOf ps).length := by
  have : allOf ps = allOf (ps.take j) ++ allOf (ps.drop j) := by
    unfold allOf
    rw [← List.flatMap_append, List.take_append_drop]
  rw [this, List.length_append]
  omega
theorem ba32 (l : List UInt8) : (ba (sha l)).size = 32 := by rw [ba_size, sha_len]

set_option maxRecDepth 100000 in
set_option maxHeartbeats 2000000 in
theorem psum_calls {w : World} {ps : List Part} {D : Nat → Prop} {A : Option Addr} (n cap : Nat) (hP : Parts w D A ps) (hn : ps.length = n) (hc : n ≤ cap) (G : Glob w) (hw2 : 2 ≤ w.heap.size) (hD : ∀ k, D k → k < w.heap.size) (hlen : (allOf ps).length ≤ 562949953421312) (hn6 : n ≤ 4611686018427387904) :
    Calls Tryd.prog 38 #[.slice A n cap] w fun e w' => e = .returned (.agg (ba (sha (allOf ps)))) ∧ Ext Non w w' := by
  have n1 := row_ne (zrow_size 32)
  have n2 := row_ne strm0_size
  have X1 : Ext Non w ((w.alloc (.cells (zrow 32) 82)).alloc (.cells strm0 100)) := ((Ext.refl _ _).alloc _).alloc _
  have B1 : Blk ((w.alloc (.cells (zrow 32) 82)).alloc (.cells strm0 100)) w.heap.size 82 (zrow 32) := (Blk.new w _ _).alloc _
  have S1 : Strm ((w.alloc (.cells (zrow 32) 82)).alloc (.cells strm0 100)) (w.heap.size + 1) [] := by
    have := strm_new (w.alloc (.cells (zrow 32) 82))
    rwa [World.size_alloc] at this
  go_enter Tryd.func38, Tryd.ntmps38
  go_wp2_with fail
  go_loopw [8] (fun t wr => ∃ j : Nat, j ≤ n ∧ t = .int .i64 j ∧ Strm wr (w.heap.size + 1) (allOf (ps.take j)) ∧ Blk wr w.heap.size 82 (zrow 32) ∧ Ext Non w wr) (fun t _ => n - (intOf t).toNat)
  case atStart => exact ⟨0, by omega, rfl, S1, B1, X1⟩
  case round =>
    clear S1 B1 X1 n1 n2
    obtain ⟨j, hj, rfl, hs, hb, hx⟩ := hrel
    by_cases hlt : j < n
    · have hP2 := hP.extN hx
      obtain ⟨hA, hc2⟩ := hP2.row.ix (k := j) (u := ps[j].val) (by simp [show j < ps.length from by omega])
      obtain ⟨hr, hcl⟩ := hP2.each ps[j] (List.getElem_mem _)
      have hal := allOf_snoc ps j (by omega)
      have hle := allOf_le ps (j + 1)
      have hv : ps[j].val = .slice ps[j].a ps[j].l.length ps[j].c := rfl
      rw [hv] at hc2
      generalize ps[j] = q at *
      have hlq : (allOf (ps.take j)).length + q.l.length ≤ 1125899906842624 := by rw [hal, List.length_append] at hle; omega
      have HAL := Lib.hid hal
      have Gw := G.extN hx
      have hnD : ¬ D (w.heap.size + 1) := fun h => by have := hD _ h; omega
      have i0 : (0 : Int) ≤ (j : Int) := by omega
      have i1 : (j : Int) < (n : Int) := by omega
      clear hal hle hv hP2
      go_wp2_with fail
      have ctr := write_calls hs Gw (by omega) q.c q.l.length hr rfl hcl hnD hlq
      with_reducible refine Calls.mono ctr ?_
      clear ctr
      rintro e w4 ⟨⟨v1, rfl⟩, S4, x4⟩
      have X4 : Ext Non w w4 := hx.trans x4 (fun i hi h => by have h : i = w.heap.size + 1 := h; omega)
      have B4 := hb.ext x4 (fun h => by have h : w.heap.size = w.heap.size + 1 := h; omega)
      rw [← HAL.out] at S4
      go_wp2_with fail
      exact ⟨⟨j + 1, by omega, by go_num, S4.strm, B4, X4⟩, by simp [intOf]; omega⟩
    · obtain rfl : j = n := by omega
      rw [List.take_of_length_le (by omega)] at hs
      have Gw := G.extN hx
      have hw3 := hx.size
      go_wp2_with fail
      have ctr := ssum_calls hs Gw (by omega) hlen
      with_reducible refine Calls.mono ctr ?_
      clear ctr
      rintro e w4 ⟨rfl, x4⟩
      have B4 := hb.extN_ x4
      have X4 := hx.transN x4
      have st := B4.big_store (P := Tryd.prog) (ty := 82) (cs' := ba (sha (allOf ps))) (by rw [zrow_size, ba32]) (o_info _ (ba32 _)) (ba_all _)
      have B5 := B4.setRow (ba (sha (allOf ps)))
      have X5 : Ext Non w (w4.setRow w.heap.size (ba (sha (allOf ps)))) := X4.setRow (.inl (Nat.le_refl _)) _
      go_wp2_with fail
      exact bodyPost_ret (B5.results Tryd.results38 _ rfl Tryd.underlying82 rfl (o_info _ (ba32 _))) rfl ⟨rfl, X5⟩
end Go.Proofs.YtnmpfbffacljfaaDoor
