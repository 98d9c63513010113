/- The document's answer for layer 10: Pack, Right. -/
import Derived.Test.YtgfjpoopghdilaaRz
import Derived.Test.YtgfjpoopghdilaaSlotS
namespace Go.Proofs.Ytgfjpoopghdilaa
open Go.RowKit

theorem cv_sub {w : World} {g : Nat} {t : TypeId} {cs : List Value} (hb : Blk w g t cs.toArray) (pre : List Value) (l : List UInt8) (post : List Value) (e : cs = pre ++ (bvs l ++ post)) (o n : Nat) (ho : pre.length = o) (hn : l.length = n) : (convert 40 9 (.slice (some ⟨g, o, none⟩) n n)).run Try.prog w = .ok (.string (str l)) w :=
  run_convert_rd w 40 9 5 Try.underlying40 Try.underlying9 Try.underlying5 (hb.sub pre l post e o ho) n n hn
set_option maxRecDepth 100000 in
set_option maxHeartbeats 4000000 in
theorem rpack_calls (w : World) {s : Pk} (h : s.ok) : Calls Try.prog 21 #[.agg (pk s)] w fun e w' => e = .returned (.string (str (pkb s))) ∧ Ext Non w w' := by
  have np := pk_ne s
  have B0 := Blk.new w 50 (pk s)
  have X0 : Ext Non w (w.alloc (.cells (pk s) 50)) := (Ext.refl Non w).alloc _
  go_enter Try.func21, Try.ntmps21
  go_upto_region 1 with (fail)
  generalize w.alloc (.cells (pk s) 50) = v at *
  obtain ⟨g, hg⟩ : ∃ g, w.heap.size = g := ⟨_, rfl⟩
  have c0 := fun W (x : Ext Non v W) => ((B0.extN_ x).cell 0).trans (pk_get0 (s := s))
  have c1 := fun W (x : Ext Non v W) => ((B0.extN_ x).cell 1).trans (pk_get1 (s := s))
  have v0 := fun W (x : Ext Non v W) => cv_sub (B0.extN_ x) _ _ _ (pkL_0 s) 2 16 rfl h.nonce
  have v1 := fun W (x : Ext Non v W) => cv_sub (B0.extN_ x) _ _ _ (pkL_1 s) 18 16 (by simp [pkh, bvs_length, h.nonce]) h.mac
  have v2 := fun W (x : Ext Non v W) => cv_sub (B0.extN_ x) _ _ _ (pkL_2 s) 34 320 (by simp [pkh, bvs_length, h.nonce, h.mac]) h.head
  have v3 := fun W (x : Ext Non v W) => cv_sub (B0.extN_ x) _ _ _ (pkL_3 s) 354 256 (by simp [pkh, bvs_length, h.nonce, h.mac, h.head]) h.body
  have s2 := fun W => run_arr_all (P := Try.prog) W Try.underlying28 s8 w.heap.size 2 (by decide)
  have s18 := fun W => run_arr_all (P := Try.prog) W Try.underlying29 s8 w.heap.size 18 (by decide)
  have s34 := fun W => run_arr_all (P := Try.prog) W Try.underlying47 s8 w.heap.size 34 (by decide)
  have s354 := fun W => run_arr_all (P := Try.prog) W Try.underlying48 s8 w.heap.size 354 (by decide)
  have hw := h.who
  have he := h.epoch
  have wv1 : IntKind.u64.wrap (s.who : Int) = (s.who : Int) := by rw [IntKind.wrap_u64]; omega
  have wv2 : IntKind.u64.wrap (s.epoch : Int) = (s.epoch : Int) := by rw [IntKind.wrap_u64]; omega
  obtain ⟨L1, h1⟩ : ∃ L, be 2 s.who ++ be 4 s.epoch = L := ⟨_, rfl⟩
  obtain ⟨L2, h2⟩ : ∃ L, L1 ++ s.nonce = L := ⟨_, rfl⟩
  obtain ⟨L3, h3⟩ : ∃ L, L2 ++ s.mac = L := ⟨_, rfl⟩
  obtain ⟨L4, h4⟩ : ∃ L, L3 ++ s.head = L := ⟨_, rfl⟩
  obtain ⟨L5, h5⟩ : ∃ L, L4 ++ s.body = L := ⟨_, rfl⟩
  have hfin : pkb s = L5 := by rw [← h5, ← h4, ← h3, ← h2, ← h1]; rfl
  have n1 : L1.length = 6 := by rw [← h1]; simp [be_length]
  have n2 : L2.length = 22 := by rw [← h2]; simp [n1, h.nonce]
  have n3 : L3.length = 38 := by rw [← h3]; simp [n2, h.mac]
  have n4 : L4.length = 358 := by rw [← h4]; simp [n3, h.head]
  obtain ⟨a1, a2, a3, a4, a5⟩ := sum_facts h1 2 4 (be_length _ _) (be_length _ _) (by omega)
  obtain ⟨b1, b2, b3, b4, b5⟩ := sum_facts h2 6 16 n1 h.nonce (by omega)
  obtain ⟨d1, d2, d3, d4, d5⟩ := sum_facts h3 22 16 n2 h.mac (by omega)
  obtain ⟨e1, e2, e3, e4, e5⟩ := sum_facts h4 38 320 n3 h.head (by omega)
  obtain ⟨f1, f2, f3, f4, f5⟩ := sum_facts h5 358 256 n4 h.body (by omega)
  have HF := Lib.hid hfin
  clear h1 h2 h3 h4 h5 n1 n2 n3 n4 hfin hg
  go_wp2_with fail
  refine wp_region_seq Non ((0, true) :: (1, true) :: (2, true) :: (4, true) :: (5, true) :: (6, true) :: (9, true) :: (10, true) :: (11, true) :: (13, true) :: (14, true) :: (15, true) :: (17, true) :: (18, true) :: (19, true) :: (21, true) :: (22, true) :: (23, true) :: (3, false) :: (7, false) :: (8, true) :: (12, true) :: (16, true) :: (20, true) :: (24, true) :: (25, true) :: []) (by kernel_rfl) (by kernel_rfl) (by kernel_rfl) ?_
  iterate 18 (refine wpSeq_quiet rfl rfl ?_; apply Exists.intro; refine ⟨?_, ?_⟩; (intro W hW; have u0 := c0 W hW.drewL; have u1 := c1 W hW.drewL; have u2 := v0 W hW.drewL; have u3 := v1 W hW.drewL; have u4 := v2 W hW.drewL; have u5 := v3 W hW.drewL; go_simp; try with_reducible rfl); (intro K hK; simp only [Act.put, List.setIfInBounds_toArray, List.set_cons_zero, List.set_cons_succ]; refine hK _ ?_; clear hK K))
  refine wpSeq_call rfl rfl (fun K hK => ?_)
  go_simp
  have ctr := text_calls v.drew s.who (by omega) 2 (by omega)
  with_reducible refine Calls.mono ctr ?_
  clear ctr
  rintro e w1 ⟨rfl, x1⟩
  go_simp
  refine hK _ _ x1 ?_
  clear hK K
  refine wpSeq_call rfl rfl (fun K hK => ?_)
  go_simp
  have ctr := text_calls w1 s.epoch (by omega) 4 (by omega)
  with_reducible refine Calls.mono ctr ?_
  clear ctr
  rintro e w2 ⟨rfl, x2⟩
  go_simp
  refine hK _ _ x2 ?_
  clear hK K
  iterate 6 (refine wpSeq_quiet rfl rfl ?_; apply Exists.intro; refine ⟨?_, ?_⟩; (intro W hW; go_simp; try with_reducible rfl); (intro K hK; simp only [Act.put, List.setIfInBounds_toArray, List.set_cons_zero, List.set_cons_succ]; refine hK _ ?_; clear hK K))
  refine wpSeq_end ?_
  have X2 := (X0.drew.transN x1).transN x2
  go_wp2_with fail
  go_ret
  exact ⟨by rw [HF.out]; rfl, X2⟩
end Go.Proofs.Ytgfjpoopghdilaa
