/- Package direct: Bytes. -/
import Derived.Test.YtnmpfbffacljfaaDoorDirB
import Derived.Test.YtnmpfbffacljfaaDoorShaG
namespace Go.Proofs.YtnmpfbffacljfaaDoor
open Go.RowKit

/-- A record's bytes, and those of a row of records. -/
def rcb (r : Rc) : List UInt8 := be 2 r.ad ++ be 4 r.fr ++ be 4 r.up ++ be 4 r.ln
def dirb (l : List Rc) : List UInt8 := l.flatMap rcb
theorem rcb_len (r : Rc) : (rcb r).length = 14 := by simp [rcb, be_length]
theorem dirb_len : ∀ l : List Rc, (dirb l).length = l.length * 14
  | [] => rfl
  | r :: l => by
    have := dirb_len l
    unfold dirb at *
    rw [List.flatMap_cons, List.length_append, rcb_len, this, List.length_cons]
    omega
theorem dirb_snoc (l : List Rc) (r : Rc) : dirb (l ++ [r]) = dirb l ++ rcb r := by unfold dirb; simp
theorem dirb_take (l : List Rc) (k : Nat) (h : k < l.length) : dirb (l.take (k + 1)) = (((dirb (l.take k) ++ be 2 l[k].ad) ++ be 4 l[k].fr) ++ be 4 l[k].up) ++ be 4 l[k].ln := by
  rw [List.take_succ_eq_append_getElem h, dirb_snoc]
  unfold rcb
  simp only [List.append_assoc]
/-- All bytes of a directory. -/
def dirs (S : List Rc) : List UInt8 := dirb S ++ sha (dirb S)
theorem dirs_len (S : List Rc) : (dirs S).length = S.length * 14 + 32 := by unfold dirs; rw [List.length_append, dirb_len, sha_len]
theorem WStep.extN {w w' w'' : World} {base p : Nat} {g g' : Option Nat} {l : List UInt8} (h : WStep w base p g w' g' l) (x : Ext Non w' w'') : WStep w base p g w'' g' l := ⟨h.wr.extN x, h.ext.transN x, h.row⟩
theorem wr_new (w : World) : Wr (w.alloc (.cells #[.slice none 0 0] 79)) 0 w.heap.size none [] := ⟨none, 0, Blk.new w _ _, OwB.nil _ _, rfl⟩
theorem Wr.lift {w : World} {base base' p : Nat} {g : Option Nat} {l : List UInt8} (h : Wr w base p g l) (hg : ∀ k, g = some k → base' ≤ k) : Wr w base' p g l := by
  obtain ⟨A, c, hb, ho, rfl⟩ := h.ex
  exact ⟨A, c, hb, ho.lower hg, rfl⟩

set_option maxRecDepth 100000 in
set_option maxHeartbeats 2000000 in
theorem bytes_calls {w : World} (G : Glob w) (hw2 : 2 ≤ w.heap.size) {D : Nat → Prop} {d : Nat} {S : List Rc} (H : Di w D d S) (n : Nat) (hn : (dirs S).length = n) :
    Calls Tryd.prog 24 #[.pointer (some ⟨d, 0, none⟩)] w fun e' w' => ∃ A c, e' = .returned (.slice A n c) ∧ OwB w' w.heap.size A c (dirs S) ∧ Ext Non w w' := by
  have hS64 := H.sound.len
  have hok := H.sound.ok
  have X1 := (Ext.refl Non w).alloc (.cells #[.slice none 0 0] 79)
  have W1 := wr_new w
  have ctr := all_calls (H.extN X1) (tells_all _)
  rw [List.filter_eq_self.2 (fun _ _ => rfl)] at ctr
  obtain ⟨m, hm⟩ : ∃ m, S.length = m := ⟨_, rfl⟩
  rw [hm] at ctr
  go_enter Tryd.func24, Tryd.ntmps24
  go_wp2_with (go_at_call 32; refine ctr.mono ?_; rintro e w2 ⟨A, c, rfl, O2, x2⟩)
  have hsz2 := x2.size
  rw [World.size_alloc] at hsz2 O2
  have W2 : Wr w2 w2.heap.size w.heap.size none [] := (W1.extN x2).lift (fun k hk => by cases hk)
  have X2 := X1.transN x2
  clear ctr X1 W1
  go_loopw [12] (fun i wr => ∃ (k : Nat) (g : Option Nat), k ≤ m ∧ i = .int .i64 k ∧ WStep w2 w2.heap.size w.heap.size none wr g (dirb (S.take k))) (fun i _ => m - (intOf i).toNat)
  case atStart => exact ⟨0, none, by omega, rfl, WStep.refl W2⟩
  case round =>
    obtain ⟨k, g, hk, rfl, T⟩ := hrel
    have O3 := O2.ext T.ext (fun k hk h => by
      have := (O2.lt hk).1
      rcases h with h | h
      · omega
      · cases h)
    by_cases hlt : k < m
    · have i1 : (k : Int) < (m : Int) := by omega
      obtain ⟨hA, ge, oe, ha, hog, e0, e1, e2, e3⟩ := OwR.at_ O3 k (by omega)
      have hdt := dirb_take S k (by omega)
      have hlen := dirb_len (S.take k)
      rw [List.length_take] at hlen
      have hokr := hok _ (List.getElem_mem (show k < S.length by omega))
      generalize S[k] = r at *
      obtain ⟨ra, rf, ru, rn⟩ := r
      have hk1 : ra < 65536 := hokr.ad
      have hk2 : rf < 4294967296 := hokr.fr
      have hk3 : ru < 4294967296 := hokr.up
      have hk4 : rn < 4294967296 := hokr.ln
      simp only at hdt e0 e1 e2 e3
      have HDT := Lib.hid hdt
      clear hdt hokr
      go_upto_region 5 with (fail)
      have Y5 := Blk.new wr 37 #[.int .u16 ra, .int .u32 rf, .int .u32 ru, .int .u32 rn]
      have T5 := T.extN ((Ext.refl Non wr).alloc (.cells #[.int .u16 ra, .int .u32 rf, .int .u32 ru, .int .u32 rn] 37))
      have hp1 : wr.heap.size ≠ w.heap.size := by have := T.wr.lt; omega
      have hg1 : ∀ k, g = some k → k ≠ wr.heap.size := fun k hk => by have := (T.wr.row hk).2; omega
      have hb5 : w2.heap.size ≤ (wr.alloc (.cells #[.int .u16 ra, .int .u32 rf, .int .u32 ru, .int .u32 rn] 37)).heap.size := T5.ext.size
      generalize hy : wr.heap.size = y at *
      generalize wr.alloc (.cells #[.int .u16 ra, .int .u32 rf, .int .u32 ru, .int .u32 rn] 37) = w5 at *
      have hy5 : y + 1 ≤ w5.drew.heap.size := Y5.lt
      obtain ⟨Sg, hSg⟩ : ∃ Sg : Nat → Prop, Sg = fun k => k = w.heap.size ∨ g = some k ∨ y < k := ⟨_, rfl⟩
      have inS : ∀ g' : Option Nat, (g' = g ∨ ∃ k, g' = some k ∧ y < k) → ∀ k, WrS w.heap.size g' k → Sg k := fun g' h k hk => by
        rw [hSg]
        rcases hk with hk | hk
        · exact .inl hk
        · rcases h with rfl | ⟨k', rfl, h⟩
          · exact .inr (.inl hk)
          · injection hk with hk
            subst hk
            exact .inr (.inr h)
      have y4 : ∀ W, Ext Sg w5.drew W → _ := fun W x => rc_cells (Y5.drew.ext x (fun h => by
        rw [hSg] at h
        rcases h with h | h | h
        · exact hp1 h
        · exact hg1 _ h rfl
        · omega))
      clear hA e0 e1 e2 e3 ha hog O3
      refine wp_region_seq Sg ((0, true) :: (1, true) :: (2, true) :: (4, true) :: (5, true) :: (7, true) :: (8, true) :: (10, true) :: (11, true) :: (3, false) :: (6, false) :: (9, false) :: (12, false) :: []) (by kernel_rfl) (by kernel_rfl) (by kernel_rfl) ?_
      iterate 9 (refine wpSeq_quiet rfl rfl ?_; apply Exists.intro; refine ⟨?_, ?_⟩; (intro W hW; obtain ⟨u0, u1, u2, u3⟩ := y4 W hW; go_simp; try with_reducible rfl); (intro K hK; simp only [Act.put, List.setIfInBounds_toArray, List.set_cons_zero, List.set_cons_succ]; refine hK _ ?_; clear hK K))
      clear y4
      have R0 := WStep.refl (T5.wr.extN (Ext.refl Non w5).drew)
      have hb6 : w2.heap.size ≤ w5.drew.heap.size := hb5
      have T6 := T5.extN ((Ext.refl Non w5).drew)
      generalize w5.drew = v5 at R0 hb6 hy5 T6 ⊢
      have row : ∀ {v : World} {g' : Option Nat} {l : List UInt8}, WStep v5 w2.heap.size w.heap.size g v g' l → (g' = g ∨ ∃ k, g' = some k ∧ y < k) := fun S => by
        rcases S.row with h | ⟨k, h, hk⟩
        · exact .inl h
        · exact .inr ⟨k, h, by omega⟩
      refine wpSeq_call rfl rfl (fun K hK => ?_)
      go_simp
      have ctr := wu16_calls R0.wr hb6 ra (by omega) (by omega)
      with_reducible refine Calls.mono ctr ?_
      clear ctr
      rintro e v6 ⟨rfl, g6, S6⟩
      go_simp
      refine hK _ _ (S6.ext.imp (fun k _ h => inS _ (row R0) k h)) ?_
      clear hK K
      have S6' := R0.trans S6
      refine wpSeq_call rfl rfl (fun K hK => ?_)
      go_simp
      have ctr := wu32_calls S6'.wr (Nat.le_trans hb6 S6'.ext.size) rf (by omega) (by rw [List.length_append, be_length]; omega)
      with_reducible refine Calls.mono ctr ?_
      clear ctr
      rintro e v7 ⟨rfl, g7, S7⟩
      go_simp
      refine hK _ _ (S7.ext.imp (fun k _ h => inS _ (row S6') k h)) ?_
      clear hK K
      have S7' := S6'.trans S7
      refine wpSeq_call rfl rfl (fun K hK => ?_)
      go_simp
      have ctr := wu32_calls S7'.wr (Nat.le_trans hb6 S7'.ext.size) ru (by omega) (by rw [List.length_append, List.length_append, be_length, be_length]; omega)
      with_reducible refine Calls.mono ctr ?_
      clear ctr
      rintro e v8 ⟨rfl, g8, S8⟩
      go_simp
      refine hK _ _ (S8.ext.imp (fun k _ h => inS _ (row S7') k h)) ?_
      clear hK K
      have S8' := S7'.trans S8
      refine wpSeq_call rfl rfl (fun K hK => ?_)
      go_simp
      have ctr := wu32_calls S8'.wr (Nat.le_trans hb6 S8'.ext.size) rn (by omega) (by simp only [List.length_append, be_length]; omega)
      with_reducible refine Calls.mono ctr ?_
      clear ctr
      rintro e v9 ⟨rfl, g9, S9⟩
      go_simp
      refine hK _ _ (S9.ext.imp (fun k _ h => inS _ (row S8') k h)) ?_
      clear hK K
      have S9' := S8'.trans S9
      refine wpSeq_end ?_
      clear S6 S7 S8 S9 S6' S7' S8'
      rw [← HDT.out] at S9'
      go_wp2_with fail
      exact ⟨⟨k + 1, g9, by omega, by go_num, T6.trans S9'⟩, by simp [intOf]; omega⟩
    · obtain rfl : k = m := by omega
      rw [List.take_of_length_le (by omega)] at T
      have hdl := dirb_len S
      obtain ⟨n5, hn5⟩ : ∃ n, (dirb S).length = n := ⟨_, rfl⟩
      have sl := fun W g => run_arr_all (P := Tryd.prog) W Tryd.underlying82 s8 g 0 (by decide)
      have XT : Ext Non w wr := X2.trans T.ext (fun i hi h => by
        rcases h with h | h
        · omega
        · cases h)
      have hb3 := T.ext.size
      have i1 : ¬ (k : Int) < (k : Int) := by omega
      go_wp2_with fail
      have ctr := wdone_calls T.wr n5 hn5 (by omega)
      with_reducible refine Calls.mono ctr ?_
      clear ctr
      rintro e w5 ⟨A5, c5, rfl, O5, x5⟩
      have X5 := XT.transN x5
      have T5 := T.extN x5
      have hw5 : 2 ≤ w5.heap.size := by have := X5.size; omega
      have G5 := G.extN X5
      have hO5 := O5.len
      have hal : allOf [⟨A5, c5, dirb S⟩] = dirb S := by simp [allOf]
      go_wp2_with fail
      have ctr := sumN_calls (Ext.refl Non w5) G5 hw5 [⟨A5, c5, dirb S⟩] (fun q hq => by rw [List.mem_singleton] at hq; subst hq; exact ⟨O5.rd.imp (fun k _ hk => (O5.lt hk).2), hO5.1⟩) 1 rfl (by rw [hal]; omega) (by decide) #[.slice A5 n5 c5] (by rw [← hn5]; rfl) (Ext.refl _ _) (dirb S) hal
      with_reducible refine Calls.mono ctr ?_
      clear ctr
      rintro e w6 ⟨rfl, x6⟩
      go_wp2_with fail
      have x56 := ((Ext.refl Non w5).alloc (.cells #[.slice A5 n5 c5] 50)).transN x6
      have x67 := (Ext.refl Non w6).alloc (.cells (ba (sha (dirb S))) 82)
      have T7 := (T5.extN x56).extN x67
      have X7 := (X5.transN x56).transN x67
      have R7 := rd_newB w6 82 (sha (dirb S))
      generalize w6.alloc (.cells (ba (sha (dirb S))) 82) = w7 at *
      have ctr := wbytes_calls T7.wr T7.ext.size 32 32 R7 (sha_len _) (by rw [sha_len]; omega)
      with_reducible refine Calls.mono ctr ?_
      clear ctr
      rintro e w8 ⟨rfl, g8, S8⟩
      have T8 := T7.trans S8
      have X8 : Ext Non w w8 := X2.trans T8.ext (fun i hi h => by
        rcases h with h | h
        · omega
        · cases h)
      have hs8 := X8.size
      go_wp2_with fail
      have ctr := wdone_calls T8.wr n hn (by rw [show dirb S ++ sha (dirb S) = dirs S from rfl, dirs_len]; omega)
      with_reducible refine Calls.mono ctr ?_
      clear ctr
      rintro e w9 ⟨A9, c9, rfl, O9, x9⟩
      go_wp2_with fail
      go_ret
      exact ⟨A9, c9, rfl, OwB.lower O9 (fun k hk => by have := (O9.lt hk).1; omega), X8.transN x9⟩
end Go.Proofs.YtnmpfbffacljfaaDoor
