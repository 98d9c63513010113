/- Contracts of package piece: what a joiner is in memory; its small functions. -/
import Derived.Test.YtcdpmedmhindaaaPieT
import Derived.Test.YtcdpmedmhindaaaPieK
namespace Go.Proofs.Ytcdpmedmhindaaa
open Go.RowKit

def kyL (k : Ky) : List Value := [.int .u32 k.1, .int .u16 k.2.1, .int .u16 k.2.2]
theorem kyv_cells (k : Ky) : kyv k = .agg (kyL k).toArray := rfl
theorem kyL_get (l : List Ky) : ∀ (i : Nat) (h : i < l.length) (j : Nat), j < 3 → (l.flatMap kyL)[i * 3 + j]? = (kyL l[i])[j]? := by
  induction l with
  | nil => intro i h; simp at h
  | cons k l ih =>
    intro i h j hj
    rw [List.flatMap_cons]
    cases i with
    | zero => rw [List.getElem?_append_left (by simp [kyL]; omega)]; simp
    | succ i =>
      rw [List.getElem?_append_right (by simp [kyL]; omega), show (i + 1) * 3 + j - (kyL k).length = i * 3 + j from by simp [kyL]; omega]
      exact ih i (by simpa using h) j hj
theorem kyL_len (l : List Ky) : (l.flatMap kyL).length = l.length * 3 := by
  induction l with
  | nil => rfl
  | cons k l ih => rw [List.flatMap_cons, List.length_append, ih]; simp [kyL]; omega

set_option maxRecDepth 100000 in
set_option maxHeartbeats 2000000 in
theorem index_calls {w : World} {D : Nat → Prop} {A : Option Addr} {l : List Ky} (c n : Nat) (hr : Rd w D A (l.flatMap kyL)) (hn : l.length = n) (hl : l.length ≤ 1000000) (k : Ky) :
    Calls Try.prog 65 #[.slice A n c, .agg #[.int .u32 k.1, .int .u16 k.2.1, .int .u16 k.2.2]] w fun e w' => (∃ z : Int, e = .returned (.int .i64 z) ∧ (0 ≤ z ↔ k ∈ l)) ∧ Ext Non w w' := by
  subst hn
  have eqi := fun (W : World) (b : Ky) => equalIn_ky W k b
  unfold kyv at eqi
  have Xb := (Ext.refl Non w).alloc (.cells #[.int .u32 k.1, .int .u16 k.2.1, .int .u16 k.2.2] 104)
  have Bb := Blk.new w 104 #[.int .u32 k.1, .int .u16 k.2.1, .int .u16 k.2.2]
  obtain ⟨k1, k2, k3⟩ := k
  go_enter Try.func65, Try.ntmps65
  go_wp2_with fail
  go_loopw [8] (fun i wr => ∃ j : Nat, j ≤ l.length ∧ i = .int .i64 j ∧ Blk wr w.heap.size 104 #[.int .u32 k1, .int .u16 k2, .int .u16 k3] ∧ Ext Non w wr ∧ ∀ x ∈ l.take j, x ≠ (k1, k2, k3)) (fun i _ => l.length - (intOf i).toNat)
  case atStart => exact ⟨0, Nat.zero_le _, rfl, Bb, Xb, by simp⟩
  case round =>
    clear Bb Xb
    obtain ⟨j, hj, rfl, B, X, hno⟩ := hrel
    by_cases hjl : j < l.length
    · have i1 : (j : Int) < (l.length : Int) := by omega
      have hg : ∀ q u, (kyL l[j])[q]? = some u → A.isSome = true ∧ ∀ W, Ext Non wr.drew W → W.cell? (((A.getD default).add (j * 3)).add q) = some u := by
        intro q u hu
        have hq : q < 3 := by
          have := (List.getElem?_eq_some_iff.1 hu).1
          simpa [kyL] using this
        have h1 := hr.ix (k := j * 3 + q) (u := u) (by rw [kyL_get l j hjl q hq]; exact hu)
        refine ⟨h1.1, fun W hW => ?_⟩
        have := (X.drew.transN hW).cell h1.2 (fun h => h)
        rw [← add_of_add] at this
        exact this
      have hA := (hg 0 _ rfl).1
      have g0 : ∀ W, Ext Non wr.drew W → W.cell? ((A.getD default).add (j * 3)) = some (.int .u32 l[j].1) := (hg 0 _ rfl).2
      have g1 : ∀ W, Ext Non wr.drew W → W.cell? ⟨((A.getD default).add (j * 3)).block, ((A.getD default).add (j * 3)).off + 1, none⟩ = some (.int .u16 l[j].2.1) := (hg 1 _ rfl).2
      have g2 : ∀ W, Ext Non wr.drew W → W.cell? ⟨((A.getD default).add (j * 3)).block, ((A.getD default).add (j * 3)).off + 2, none⟩ = some (.int .u16 l[j].2.2) := (hg 2 _ rfl).2
      have bb := fun W (x : Ext Non wr.drew W) => B.drew.extN_ x
      have b0 : ∀ W, Ext Non wr.drew W → W.cell? ⟨w.heap.size, 0, none⟩ = some (.int .u32 k1) := fun W x => (bb W x).cell 0
      have b1 : ∀ W, Ext Non wr.drew W → W.cell? ⟨w.heap.size, 1, none⟩ = some (.int .u16 k2) := fun W x => (bb W x).cell 1
      have b2 : ∀ W, Ext Non wr.drew W → W.cell? ⟨w.heap.size, 2, none⟩ = some (.int .u16 k3) := fun W x => (bb W x).cell 2
      have hlj : l.take (j + 1) = l.take j ++ [l[j]] := List.take_succ_eq_append_getElem hjl
      have hm : l[j] ∈ l := List.getElem_mem hjl
      generalize l[j] = y at *
      obtain ⟨y1, y2, y3⟩ := y
      have eq2 := fun W => eqi W (y1, y2, y3)
      have HLJ := Lib.hid hlj
      clear hg bb eqi hlj
      go_wp2_with fail
      refine wp_region_seq Non ((0, true) :: (1, true) :: (2, true) :: (3, true) :: (4, true) :: (5, true) :: []) (by kernel_rfl) (by kernel_rfl) (by kernel_rfl) ?_
      iterate 6 (refine wpSeq_quiet rfl rfl ?_; apply Exists.intro; refine ⟨?_, ?_⟩; (intro W hW; have c0 := g0 W hW; have c1 := g1 W hW; have c2 := g2 W hW; have d0 := b0 W hW; have d1 := b1 W hW; have d2 := b2 W hW; go_simp; try with_reducible rfl); (intro K hK; simp only [Act.put, List.setIfInBounds_toArray, List.set_cons_zero, List.set_cons_succ]; refine hK _ ?_; clear hK K))
      refine wpSeq_end ?_
      clear g0 g1 g2 b0 b1 b2
      go_wp2_with fail
      · have he : (k1, k2, k3) = (y1, y2, y3) := by rename_i h; obtain ⟨rfl, rfl, rfl⟩ := h; rfl
        go_ret
        exact ⟨⟨(j : Int), rfl, fun _ => by rw [he]; exact hm, fun _ => by omega⟩, X.drew⟩
      · have he : ¬ (k1, k2, k3) = (y1, y2, y3) := by
          rename_i h
          intro e
          simp only [Prod.mk.injEq] at e
          rcases h with h | h | h
          · exact h e.1
          · exact h e.2.1
          · exact h e.2.2
        refine ⟨⟨j + 1, by omega, by go_num, B.drew, X.drew, fun x hx => ?_⟩, by simp [intOf]; omega⟩
        rw [HLJ.out, List.mem_append, List.mem_singleton] at hx
        rcases hx with hx | rfl
        · exact hno x hx
        · exact fun h => he h.symm
    · obtain rfl : j = l.length := by omega
      rw [List.take_length] at hno
      go_wp2_with fail
      go_ret
      exact ⟨⟨-1, rfl, fun h => by omega, fun h => absurd rfl (hno _ h)⟩, X⟩
theorem contains_calls {w : World} {D : Nat → Prop} {A : Option Addr} {l : List Ky} (c n : Nat) (hr : Rd w D A (l.flatMap kyL)) (hn : l.length = n) (hl : l.length ≤ 1000000) (k : Ky) :
    Calls Try.prog 56 #[.slice A n c, .agg #[.int .u32 k.1, .int .u16 k.2.1, .int .u16 k.2.2]] w fun e w' => e = .returned (.bool (decide (k ∈ l))) ∧ Ext Non w w' := by
  have Xb := (Ext.refl Non w).alloc (.cells #[.int .u32 k.1, .int .u16 k.2.1, .int .u16 k.2.2] 104)
  have ctr := index_calls c n (hr.extN Xb) hn hl k
  obtain ⟨r, hr'⟩ : ∃ r, decide (k ∈ l) = r := ⟨_, rfl⟩
  rw [hr']
  have HR := Lib.hid hr'
  clear hr'
  go_enter Try.func56, Try.ntmps56
  go_wp2_with fail
  with_reducible refine Calls.mono ctr ?_
  rintro e w1 ⟨⟨z, rfl, hz⟩, x1⟩
  obtain rfl : r = decide (0 ≤ z) := by rw [← HR.out]; simp [hz]
  clear hz ctr HR
  go_wp2_with fail
  go_ret
  exact ⟨rfl, Xb.transN x1⟩

set_option maxRecDepth 100000 in
set_option maxHeartbeats 2000000 in
theorem equal_calls {w : World} {D1 D2 : Nat → Prop} {A1 A2 : Option Addr} {l1 l2 : List UInt8} (c1 c2 n1 n2 : Nat) (hr1 : Rd w D1 A1 (bvs l1)) (hr2 : Rd w D2 A2 (bvs l2)) (hn1 : l1.length = n1) (hn2 : l2.length = n2) (hl : l1.length ≤ 1000000) :
    Calls Try.prog 57 #[.slice A1 n1 c1, .slice A2 n2 c2] w fun e w' => e = .returned (.bool (l1 == l2)) ∧ Ext Non w w' := by
  obtain ⟨r, hr'⟩ : ∃ r, (l1 == l2) = r := ⟨_, rfl⟩
  rw [hr']
  have HR := Lib.hid hr'
  clear hr'
  go_enter Try.func57, Try.ntmps57
  by_cases hln : n1 = n2
  · subst hln
    go_wp2_with fail
    go_loopw [13] (fun i wr => ∃ j : Nat, j ≤ n1 ∧ i = .int .i64 j ∧ Ext Non w wr ∧ l1.take j = l2.take j) (fun i _ => n1 - (intOf i).toNat)
    case atStart => exact ⟨0, Nat.zero_le _, rfl, Ext.refl _ _, rfl⟩
    case round =>
      obtain ⟨j, hj, rfl, X, he⟩ := hrel
      by_cases hjl : j < n1
      · have i1 : (j : Int) < (n1 : Int) := by omega
        obtain ⟨hA1, g1⟩ := hr1.ix (bvs_get l1 j (by omega))
        obtain ⟨hA2, g2⟩ := hr2.ix (bvs_get l2 j (by omega))
        have t1 := List.take_succ_eq_append_getElem (show j < l1.length by omega)
        have t2 := List.take_succ_eq_append_getElem (show j < l2.length by omega)
        have hb1 := l1[j].toNat_lt
        have hb2 := l2[j].toNat_lt
        have hd : l1[j].toNat = l2[j].toNat → l1[j] = l2[j] := fun h => UInt8.toNat_inj.1 h
        have hdd : l1 = l2 → l1[j].toNat = l2[j].toNat := by rintro rfl; rfl
        generalize hq1 : l1[j].toNat = q1 at *
        generalize hq2 : l2[j].toNat = q2 at *
        have cw1 : ∀ W, Ext Non wr.drew W → W.cell? ((A1.getD default).add j) = some (.int .u8 q1) := fun W hW => (X.drew.transN hW).cell g1 (fun h => h)
        have cw2 : ∀ W, Ext Non wr.drew W → W.cell? ((A2.getD default).add j) = some (.int .u8 q2) := fun W hW => (X.drew.transN hW).cell g2 (fun h => h)
        have T1 := Lib.hid t1
        have T2 := Lib.hid t2
        have HE := Lib.hid he
        clear t1 t2 hq1 hq2 he g1 g2
        go_wp2_with fail
        refine wp_region_seq Non ((0, true) :: (1, true) :: (2, true) :: (3, true) :: (4, true) :: (5, true) :: (6, true) :: (7, true) :: (8, true) :: []) (by kernel_rfl) (by kernel_rfl) (by kernel_rfl) ?_
        iterate 9 (refine wpSeq_quiet rfl rfl ?_; apply Exists.intro; refine ⟨?_, ?_⟩; (intro W hW; have c1 := cw1 W hW; have c2 := cw2 W hW; go_simp; try with_reducible rfl); (intro K hK; simp only [Act.put, List.setIfInBounds_toArray, List.set_cons_zero, List.set_cons_succ]; refine hK _ ?_; clear hK K))
        refine wpSeq_end ?_
        clear cw1 cw2
        go_wp2_with fail
        · have hne : q1 ≠ q2 := by
            rename_i h
            rintro rfl
            simp at h
          obtain rfl : r = false := by
            rw [← HR.out, beq_eq_false_iff_ne]
            exact fun h => hne (hdd h)
          go_ret
          exact ⟨rfl, X.drew⟩
        · have heq : q1 = q2 := by
            rename_i h
            have h' : ((q1 : Int) != (q2 : Int)) = false := h
            simp only [bne_eq_false_iff_eq] at h'
            omega
          exact ⟨⟨j + 1, by omega, by go_num, X.drew, by rw [T1.out, T2.out, HE.out, hd heq]⟩, by simp [intOf]; omega⟩
      · obtain rfl : j = n1 := by omega
        have hee : (l1 == l2) = true := by
          rw [List.take_of_length_le (by omega), List.take_of_length_le (by omega)] at he
          rw [he]
          simp
        obtain rfl : r = true := by rw [← HR.out, hee]
        go_wp2_with fail
        go_ret
        exact ⟨rfl, X⟩
  · have hee : (l1 == l2) = false := by
      rw [beq_eq_false_iff_ne]
      rintro rfl
      omega
    have i1 : ¬ ((n1 : Int) = (n2 : Int)) := by omega
    obtain rfl : r = false := by rw [← HR.out, hee]
    go_wp2_with fail
    go_ret
    exact ⟨rfl, Ext.refl _ _⟩
theorem newJoiner_calls (w : World) (room : Int) :
    Calls Try.prog 19 #[.int .i64 room] w fun e w' => e = .returned (.pointer (some ⟨w.heap.size + 1, 0, none⟩)) ∧
      w' = (w.alloc (.map #[] 0)).alloc (.cells #[.int .i64 (jn0 room).room, .map (some w.heap.size), .slice none 0 0] 94) := by
  have hmm := @run_makeMap Try.prog
  have e : (jn0 room).room = if room < 1 then 1 else room := rfl
  have HE := Lib.hid e
  clear e
  generalize (jn0 room).room = r at *
  go_enter Try.func19, Try.ntmps19
  go_wp2
  · have h : room < 1 := by assumption
    go_ret
    exact ⟨rfl, by rw [HE.out, if_pos h]⟩
  · have h : 1 ≤ room := by assumption
    go_ret
    exact ⟨rfl, by rw [HE.out, if_neg (by omega)]⟩
end Go.Proofs.Ytcdpmedmhindaaa
