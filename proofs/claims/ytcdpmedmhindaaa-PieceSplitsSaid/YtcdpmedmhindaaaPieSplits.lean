/- The law PieceSplits: messages are split as the document says. -/
import Derived.Test.YtcdpmedmhindaaaRef16S
import Derived.StillTailTactics
namespace Go.Proofs.Ytcdpmedmhindaaa
open Go.RowKit

theorem OwA.at_ {w : World} {base : Nat} {A : Option Addr} {c : Nat} {ls : List (List UInt8)} (h : OwA w base A c ls) (i : Nat) (hi : i < ls.length) :
    A.isSome = true ∧ ∃ g o, (A.getD default).add (i * 256) = ⟨g, o, none⟩ ∧ Rd w (fun k => k = g) (some ⟨g, o, none⟩) (bvs ls[i]) := by
  have hle := h.own.le
  have hl := h.each _ (List.getElem_mem hi)
  rcases h.own.ex with ⟨_, h0⟩ | ⟨g, off, cur, rfl, hb, hg, h1, h2⟩
  · omega
  · refine ⟨rfl, g, off + i * 256, addr_add g off (i * 256), .inr ⟨_, rfl, rfl, fun j u hu => ?_⟩⟩
    have hj : j < 256 := by
      have := (List.getElem?_eq_some_iff.1 hu).1
      rwa [bvs_length, hl] at this
    have key : (bvs ls.flatten)[i * 256 + j]? = some u := by
      rw [bvs, List.getElem?_map, flat_get h.each i hi j hj]
      rwa [bvs, List.getElem?_map] at hu
    rw [addr_add, hg.cell, ← key, ← h2, List.getElem?_take, if_pos (by omega), List.getElem?_drop, Array.getElem?_toList]
    congr 1
    omega
set_option maxRecDepth 100000 in
set_option maxHeartbeats 4000000 in
theorem splits_walk (id fr bx : Nat) (A : Option Addr) (n c : Nat) (l : List UInt8) (w : World) (hid : id < 4294967296) (hfr : fr < 65536) (hbx : bx < 65536) (hn : l.length = n) (hc : n ≤ c) (hcm : c ≤ maxLen) (r : Rd w (· < w.heap.size) A (bvs l)) :
    Calls Try.prog 3 #[.int .u32 id, .int .u16 fr, .int .u16 bx, .slice A n c] w fun e w' => e = .returned (.bool true) ∧ Below w.heap.size w w' := by
  obtain ⟨k, hk, hka, hkb, hkc⟩ := min_at n 5000 (by omega)
  obtain ⟨m, hmd⟩ : ∃ m, l.take k = m := ⟨_, rfl⟩
  have hmk : m.length = k := by rw [← hmd, List.length_take]; omega
  have rm : Rd w (· < w.heap.size) A (bvs m) := by
    have := r.take k
    rw [← hmd]
    simpa [bvs, List.map_take] using this
  clear r hmd
  go_enter Try.func3, Try.ntmps3
  go_wp2_with fail
  have ctr := shown_calls w
  with_reducible refine Calls.mono ctr ?_
  clear ctr
  rintro e w1 ⟨rfl, X1⟩
  have O2 : OwB (w1.alloc (.cells #[] 5)) w.heap.size (some ⟨w1.heap.size, 0, none⟩) 0 [] := World.ownsRow_made w1 #[] 0 X1.size (by simp [maxLen]) rfl
  have X2 := X1.alloc (.cells #[] 5)
  have hs2 := X2.size
  go_wp2_with (at_builtin; refine wp_ap8 rfl (.tmp 17) (.tmp 22) rfl 0 rfl O2 rfl k c rfl (rm.extN X2) hmk (by simp; omega) hs2 ?_; intro A3 c3 w3 o3 x3 hob3)
  rw [List.nil_append] at o3
  have X3 := X2.trans x3 (fun b hb h => by have h : w1.heap.size = b := Option.some.inj h; have := X1.size; omega)
  have hc3 := o3.len
  rw [hmk] at hc3
  clear O2 X2 hs2 x3 hob3 X1
  have cv := conv_str o3.rd k c3 hmk
  go_simp
  go_wp2_with fail
  clear cv
  by_cases h4 : k ≤ 4096
  · obtain ⟨N, hN⟩ : ∃ N, cnt m = N := ⟨_, rfl⟩
    have hm4 : m.length ≤ 4096 := by omega
    have ctr := split_x (m := m) c3 k id fr bx o3.rd (fun b hb => (o3.lt hb).2) hmk hm4 hc3.1 hc3.2 hid hfr hbx rfl rfl rfl N hN
    with_reducible refine Calls.mono ctr ?_
    clear ctr
    rintro e w4 ⟨A4, c4, rfl, O4, x4⟩
    have o4 := o3.extN x4
    have X4 := X3.transN x4
    clear o3 X3 x4
    go_wp2_with fail
    have ctr := rsplit_calls w4 id fr bx m hm4 hid hfr hbx N hN
    with_reducible refine Calls.mono ctr ?_
    clear ctr
    rintro e w5 ⟨A5, c5, rfl, O5, x5⟩
    have o5 := o4.extN x5
    have P5 := O4.extN x5
    have X5 := X4.transN x5
    clear o4 O4 X4 x5
    have cf := cnt_facts m hm4
    rw [hN] at cf
    have cf2 := cf.2.1
    go_wp2_with fail
    go_loopw [15] (fun z wr => ∃ i : Nat, i ≤ N ∧ z = .int .i64 i ∧ Ext Non w5 wr) (fun z _ => N - (intOf z).toNat)
    case atStart => exact ⟨0, by omega, rfl, Ext.refl _ _⟩
    case round =>
      obtain ⟨i, hi, rfl, X⟩ := hrel
      by_cases hlt : i < N
      · have i1 : (i : Int) < (N : Int) := by omega
        obtain ⟨hA, g, o, ha, hr⟩ := (P5.extN X).at_ i (by rw [pcbs_len]; exact hlt)
        rw [pcbs_get] at hr
        have hrt := prt_len (mpc_rt id fr bx hm4 (i := i) (by rw [hN]; exact hlt))
        have cv : ∀ W, Ext Non wr W → (convert 24 9 (.slice (some ⟨g, o, none⟩) 256 256)).run Try.prog W = .ok (.string (str (pcb (mpc id fr bx m i)))) W := fun W x => conv_str (hr.extN x) 256 256 hrt
        have sx := fun W => run_arr_all (P := Try.prog) W Try.underlying35 s8 g o (by decide)
        have gx : ((pcbs id fr bx m N).map tx)[i]? = some (.string (str (pcb (mpc id fr bx m i)))) := by
          rw [List.getElem?_map, List.getElem?_eq_getElem (by rw [pcbs_len]; exact hlt), pcbs_get]
          rfl
        obtain ⟨hB, cx⟩ := (OwV.rd (O5.extN X)).ix gx
        have cw : ∀ W, Ext Non wr W → W.cell? ((A5.getD default).add i) = some (.string (str (pcb (mpc id fr bx m i)))) := fun W x => x.cell cx (fun h => h)
        clear gx hr cx
        go_upto_region 11 with (fail)
        refine wp_region_seq Non ((0, true) :: (1, true) :: (2, true) :: (3, true) :: (4, true) :: (5, true) :: (6, true) :: (7, true) :: (8, true) :: (9, true) :: []) (by kernel_rfl) (by kernel_rfl) (by kernel_rfl) ?_
        iterate 10 (refine wpSeq_quiet rfl rfl ?_; apply Exists.intro; refine ⟨?_, ?_⟩; (intro W hW; have u1 := cv W hW.drewL; have u2 := cw W hW.drewL; go_simp; try with_reducible rfl); (intro K hK; simp only [Act.put, List.setIfInBounds_toArray, List.set_cons_zero, List.set_cons_succ]; refine hK _ ?_; clear hK K))
        refine wpSeq_end ?_
        go_wp2_with fail
        exact ⟨⟨i + 1, by omega, by go_num, X.drew⟩, by simp [intOf]; omega⟩
      · obtain rfl : i = N := by omega
        have i1 : ¬ (i : Int) < (i : Int) := by omega
        have cv := conv_str (o5.extN X).rd k c3 hmk
        go_wp2_with fail
        go_ret
        exact ⟨rfl, (X5.transN X).belowN⟩
  · have ctr := split_full w3 A3 k c3 (id : Int) (fr : Int) (bx : Int) (by omega)
    with_reducible refine Calls.mono ctr ?_
    clear ctr
    rintro e w4 ⟨rfl, rfl⟩
    go_wp2_with fail
    have ctr := rsplit_full w3 m (id : Int) (fr : Int) (bx : Int) (by omega) (by omega)
    with_reducible refine Calls.mono ctr ?_
    clear ctr
    rintro e w5 ⟨rfl, rfl⟩
    go_wp2_with fail
    go_loopw [15] (fun z wr => z = .int .i64 0 ∧ w3 = wr) (fun _ _ => 0)
    case atStart => exact ⟨rfl, rfl⟩
    case round =>
      obtain ⟨rfl, rfl⟩ := hrel
      have cv := conv_str o3.rd k c3 hmk
      go_wp2_with fail
      go_ret
      exact ⟨rfl, X3.belowN⟩
end Go.Proofs.Ytcdpmedmhindaaa
