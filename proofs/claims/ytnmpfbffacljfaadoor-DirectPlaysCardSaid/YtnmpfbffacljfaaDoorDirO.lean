/- Package direct: record, Load. -/
import Derived.Test.YtnmpfbffacljfaaDoorDirN
import Derived.Test.YtnmpfbffacljfaaDoorSeqS
namespace Go.Proofs.YtnmpfbffacljfaaDoor
open Go.RowKit

/-- The record of bytes. -/
def rdr (l : List UInt8) : Rc := ⟨num (l.take 2), num ((l.drop 2).take 4), num ((l.drop 6).take 4), num ((l.drop 10).take 4)⟩
theorem rdr_ok {l : List UInt8} (h : 14 ≤ l.length) : (rdr l).ok :=
  ⟨num_lt 2 _ (by simp; omega), num_lt 4 _ (by simp; omega), num_lt 4 _ (by simp; omega), num_lt 4 _ (by simp; omega)⟩
/-- The records of bytes, one behind the other. -/
def recs (l : List UInt8) : List Rc := (List.range (l.length / 14)).map fun i => rdr (l.drop (i * 14))
theorem recs_len (l : List UInt8) : (recs l).length = l.length / 14 := by simp [recs]
theorem recs_get (l : List UInt8) (i : Nat) (h : i < (recs l).length) : (recs l)[i] = rdr (l.drop (i * 14)) := by simp [recs]
/-- Records, one behind the other, each behind those ahead of it. -/
def ldl : List Rc → List Rc → Option (List Rc)
  | S, [] => some S
  | S, x :: rs => if (S.getLast?.any fun y => klt x y) || decide (dire S x ≠ 0) then none else ldl (S ++ [x]) rs
/-- Who comes behind the last one, and is taken, comes last. -/
theorem ins_behind {S : List Rc} (h : Sound S) {x : Rc} (hd : dire S x = 0) (hl : (S.getLast?.any fun y => klt x y) = false) : ins x S = S ++ [x] := by
  refine ins_last fun y hy => ?_
  rcases h.tri hd y hy with h1 | h1
  · exact h1
  · exfalso
    obtain ⟨z, hz⟩ : ∃ z, S.getLast? = some z := by
      cases e : S.getLast? with
      | none => rw [List.getLast?_eq_none_iff] at e; subst e; cases hy
      | some z => exact ⟨z, rfl⟩
    rw [hz] at hl
    have hl : klt x z = false := hl
    by_cases e : y = z
    · subst e; rw [h1] at hl; cases hl
    · have hS : S = S.dropLast ++ [z] := by
        rw [List.getLast?_eq_some_iff] at hz
        obtain ⟨ys, rfl⟩ := hz
        simp
      have hp := h.srt
      rw [hS, List.pairwise_append] at hp
      have hy' : y ∈ S.dropLast := by
        rw [hS, List.mem_append] at hy
        rcases hy with hy | hy
        · exact hy
        · rw [List.mem_singleton] at hy; exact absurd hy e
      have := klt_trans h1 (hp.2.2 y hy' z (List.mem_singleton.2 rfl))
      rw [this] at hl
      cases hl
theorem dirl_behind {S : List Rc} (h : Sound S) {x : Rc} (hd : dire S x = 0) (hl : (S.getLast?.any fun y => klt x y) = false) : dirl S x = S ++ [x] := by
  unfold dirl
  rw [if_pos hd, ins_behind h hd hl]
/-- What Load answers, and what it loads. -/
def lode (b : List UInt8) : Nat × List Rc :=
  if b.length < 32 then (2, [])
  else if sha (b.take (b.length - 32)) = b.drop (b.length - 32) then
    (if (b.length - 32) % 14 = 0 then
      (match ldl [] (recs (b.take (b.length - 32))) with
      | none => (3, [])
      | some S => (0, S))
    else (3, []))
  else (4, [])
theorem left_calls {w : World} {D : Nat → Prop} {p : Nat} {l : List UInt8} (hr : Rdr w p D l) (n : Nat) (hn : l.length = n) :
    Calls Tryd.prog 42 #[.pointer (some ⟨p, 0, none⟩)] w fun e w' => e = .returned (.int .i64 (n : Int)) ∧ w = w' := by
  subst hn
  obtain ⟨A, c, hb, _, _, _⟩ := hr.ex
  have hc : w.cell? ⟨p, 0, none⟩ = some (.slice A l.length c) := hb.cell 0
  go_enter Tryd.func42, Tryd.ntmps42
  go_wp2
  go_ret
  exact ⟨rfl, rfl⟩
set_option maxHeartbeats 1000000 in
theorem record_calls {w : World} {D : Nat → Prop} {p : Nat} {l : List UInt8} (hr : Rdr w p D l) (hp : ¬ D p) (hl : 14 ≤ l.length) :
    Calls Tryd.prog 43 #[.pointer (some ⟨p, 0, none⟩)] w fun e w' => e = .returned (.agg (rcA (rdr l))) ∧ Rdr w' p D (l.drop 14) ∧ Ext (One p) w w' := by
  have hlt := hr.lt
  have X1 := (Ext.refl (One p) w).alloc (.cells #[.int .u16 0, .int .u32 0, .int .u32 0, .int .u32 0] 37)
  have hp0 : ¬ (D p ∧ p < w.heap.size) := fun h => hp h.1
  have R1 := (hr.imp (D' := fun k => D k ∧ k < w.heap.size) (fun k hk h => ⟨h, hk⟩)).extN ((Ext.refl Non w).alloc (.cells #[.int .u16 0, .int .u32 0, .int .u32 0, .int .u32 0] 37))
  have B1 := Blk.new w 37 #[.int .u16 0, .int .u32 0, .int .u32 0, .int .u32 0]
  unfold rdr rcA
  simp only
  go_enter Tryd.func43, Tryd.ntmps43
  go_upto_region 1 with (fail)
  generalize w.alloc (.cells #[.int .u16 0, .int .u32 0, .int .u32 0, .int .u32 0] 37) = w1 at *
  go_wp2_with fail
  have ctr := u16_calls R1 hp0 (by omega)
  with_reducible refine Calls.mono ctr ?_
  clear ctr
  rintro e w2 ⟨rfl, R2, x2⟩
  go_wp2_with fail
  have ctr := u32_calls R2 hp0 (by simp; omega)
  with_reducible refine Calls.mono ctr ?_
  clear ctr
  rintro e w3 ⟨rfl, R3, x3⟩
  rw [List.drop_drop] at R3
  go_wp2_with fail
  have ctr := u32_calls R3 hp0 (by simp; omega)
  with_reducible refine Calls.mono ctr ?_
  clear ctr
  rintro e w4 ⟨rfl, R4, x4⟩
  rw [List.drop_drop] at R4
  go_wp2_with fail
  have ctr := u32_calls R4 hp0 (by simp; omega)
  with_reducible refine Calls.mono ctr ?_
  clear ctr
  rintro e w5 ⟨rfl, R5, x5⟩
  rw [List.drop_drop] at R5
  have x25 := ((x2.trans' x3).trans' x4).trans' x5
  have B5 := B1.ext x25 (fun h => by have h : w.heap.size = p := h; omega)
  have X5 := X1.trans' x25
  obtain ⟨c0, c1, c2, c3⟩ := rc_cells (a := 0) (b := 0) (u := 0) (l := 0) B5
  obtain ⟨f0, f1, f2, f3⟩ := rc_froz B5
  go_wp2_with fail
  have B6 := rc_set B5 (.int .u16 (num (l.take 2))) (.int .u32 (num ((l.drop 2).take 4))) (.int .u32 (num ((l.drop 6).take 4))) (.int .u32 (num ((l.drop 10).take 4)))
  have R6 := R5.ext (rc_ext (Ext.refl (One w.heap.size) w5) (.inr rfl) (.int .u16 (num (l.take 2))) (.int .u32 (num ((l.drop 2).take 4))) (.int .u32 (num ((l.drop 6).take 4))) (.int .u32 (num ((l.drop 10).take 4)))) (fun h => by have h : p = w.heap.size := h; omega) (fun k hk h => by have h : k = w.heap.size := h; omega)
  exact bodyPost_ret (B6.results Tryd.results43 _ rfl Tryd.underlying37 rfl (by kernel_rfl)) rfl ⟨rfl, R6.imp (fun k _ h => h.1), rc_ext X5 (.inl (Nat.le_refl _)) _ _ _ _⟩

/-- How many bytes a reader has. -/
def rdLeft (w : World) (p : Nat) : Nat := match w.cell? ⟨p, 0, none⟩ with | some (.slice _ n _) => n | _ => 0
theorem Rdr.left {w : World} {D : Nat → Prop} {p : Nat} {l : List UInt8} (h : Rdr w p D l) : rdLeft w p = l.length := by
  obtain ⟨A, c, hb, _⟩ := h.ex
  have : w.cell? ⟨p, 0, none⟩ = some (.slice A l.length c) := hb.cell 0
  unfold rdLeft
  rw [this]
theorem key_set {w : World} {g : Nat} {t : TypeId} {v0 v1 : Value} (B : Blk w g t #[v0, v1]) (u0 u1 : Value) : Blk ((w.setCell ⟨g, 0, none⟩ u0).setCell ⟨g, 1, none⟩ u1) g t #[u0, u1] := by
  have := (B.set_ 0 u0).set_ 1 u1
  simpa using this
theorem key_ext {v w : World} {S : Nat → Prop} (X : Ext S v w) {g : Nat} (hg : v.heap.size ≤ g ∨ S g) (u0 u1 : Value) : Ext S v ((w.setCell ⟨g, 0, none⟩ u0).setCell ⟨g, 1, none⟩ u1) :=
  (X.setCell (p := ⟨g, 0, none⟩) hg u0).setCell (p := ⟨g, 1, none⟩) hg u1
theorem cmp_x (w : World) (a b c d : Nat) (r : Int) (hr : cmpK a b c d = r) :
    Calls Tryd.prog 44 #[.agg #[.int .u16 a, .int .u32 b], .agg #[.int .u16 c, .int .u32 d]] w fun e w' => e = .returned (.int .i64 r) ∧ Gr w w' := by
  subst hr
  exact compare_calls w a b c d
theorem add_x {w : World} {D : Nat → Prop} {d : Nat} {S : List Rc} (H : Di w D d S) (xa xf xu xn : Nat) (hok : (⟨xa, xf, xu, xn⟩ : Rc).ok) (z : Nat) (hz : dire S ⟨xa, xf, xu, xn⟩ = z) (T : List Rc) (hT : dirl S ⟨xa, xf, xu, xn⟩ = T) :
    Calls Tryd.prog 15 #[.pointer (some ⟨d, 0, none⟩), .agg #[.int .u16 xa, .int .u32 xf, .int .u32 xu, .int .u32 xn]] w fun e w' => e = .returned (.int .i64 (z : Int)) ∧ Di w' D d T ∧ Ext D w w' := by
  subst hz hT
  exact add_calls H _ hok
set_option maxRecDepth 100000 in
set_option maxHeartbeats 4000000 in
theorem load_calls {w : World} (G : Glob w) (hw2 : 2 ≤ w.heap.size) {Db : Nat → Prop} {A : Option Addr} {b : List UInt8} (c n : Nat) (hr : Rd w Db A (bvs b)) (hn : b.length = n) (hnc : n ≤ c) (hl : b.length ≤ 1000000) (hDb : ∀ k, Db k → k < w.heap.size) :
    Calls Tryd.prog 25 #[.slice A n c] w fun e w' => Ext Non w w' ∧ ((lode b).1 ≠ 0 ∧ e = .returned (.tuple #[.pointer none, .int .i64 ((lode b).1 : Nat)]) ∨
      (lode b).1 = 0 ∧ ∃ d, e = .returned (.tuple #[.pointer (some ⟨d, 0, none⟩), .int .i64 0]) ∧ Di w' (fun k => w.heap.size ≤ k ∧ k < w'.heap.size) d (lode b).2) := by
  subst hn
  obtain ⟨z, hz⟩ : ∃ z, lode b = z := ⟨_, rfl⟩
  rw [hz]
  unfold lode at hz
  have HZ := Lib.hid hz
  clear hz
  by_cases h32 : b.length < 32
  · have i1 : (b.length : Int) - 32 < 0 := by omega
    have i2 : IntKind.i64.wrap ((b.length : Int) - 32) = (b.length : Int) - 32 := by rw [IntKind.wrap_i64]; omega
    obtain rfl : z = (2, []) := by rw [← HZ.out, if_pos h32]
    go_enter Tryd.func25, Tryd.ntmps25
    go_wp2_with fail
    go_ret2
    exact ⟨Ext.refl _ _, .inl ⟨by decide, rfl⟩⟩
  · obtain ⟨m, hm⟩ : ∃ m : Nat, b.length = m + 32 := ⟨b.length - 32, by omega⟩
    have hm2 : b.length - 32 = m := by omega
    rw [if_neg h32, hm2] at HZ
    have i1 : ¬ (m : Int) < 0 := by omega
    have i2 : IntKind.i64.wrap (((m + 32 : Nat) : Int) - 32) = (m : Int) := by rw [IntKind.wrap_i64]; omega
    have ro : Rd w Db A (bvs (b.take m)) := by have := hr.take m; simpa [bvs, List.map_take] using this
    have hlo : (b.take m).length = m := by rw [List.length_take]; omega
    have rs : Rd w Db (cut A m c) (bvs (b.drop m)) := by have := hr.cut (k := m) (by rw [bvs_length]; exact hnc); simpa [bvs, List.map_drop] using this
    have htl : (b.drop m).length = 32 := by rw [List.length_drop]; omega
    rw [hm] at hnc ⊢
    generalize b.take m = own at *
    generalize b.drop m = tl at *
    go_enter Tryd.func25, Tryd.ntmps25
    go_wp2_with fail
    have hal : allOf [⟨A, c, own⟩] = own := by simp [allOf]
    have ctr := sumN_calls (Ext.refl Non w) G hw2 [⟨A, c, own⟩] (fun q hq => by rw [List.mem_singleton] at hq; subst hq; exact ⟨ro.imp (fun k _ hk => hDb k hk), by show own.length ≤ c; omega⟩) 1 rfl (by rw [hal]; omega) (by decide) #[.slice A m c] (by rw [← hlo]; rfl) (Ext.refl _ _) own hal
    with_reducible refine Calls.mono ctr ?_
    clear ctr
    rintro e w2 ⟨rfl, x2⟩
    have X2 := ((Ext.refl Non w).alloc (.cells #[.slice A m c] 50)).transN x2
    go_upto_region 5 with (fail)
    have X3 := X2.alloc (.cells (ba (sha own)) 82)
    have R3 := rd_newB w2 82 (sha own)
    have sl := fun W g => run_arr_all (P := Tryd.prog) W Tryd.underlying82 s8 g 0 (by decide)
    generalize hv3 : w2.alloc (.cells (ba (sha own)) 82) = w3 at *
    have cv1 : ∀ W, Ext Non w3.drew W → (convert 50 9 (.slice (some ⟨w2.heap.size, 0, none⟩) 32 32)).run Tryd.prog W = .ok (.string (str (sha own))) W := fun W x => run_convert_rd W 50 9 5 Tryd.underlying50 Tryd.underlying9 Tryd.underlying5 (R3.extN (Ext.drewL x)) 32 32 (sha_len _)
    have cv2 : ∀ W, Ext Non w3.drew W → (convert 50 9 (.slice (cut A m c) 32 (c - m))).run Tryd.prog W = .ok (.string (str tl)) W := fun W x => run_convert_rd W 50 9 5 Tryd.underlying50 Tryd.underlying9 Tryd.underlying5 ((rs.extN X3).extN (Ext.drewL x)) 32 (c - m) htl
    have i3 : (m : Int) ≤ (m : Int) + 32 := by omega
    refine wp_region_seq Non ((0, true) :: (1, true) :: (2, true) :: (3, true) :: (4, true) :: (5, true) :: (6, true) :: []) (by kernel_rfl) (by kernel_rfl) (by kernel_rfl) ?_
    iterate 6 (refine wpSeq_quiet rfl rfl ?_; apply Exists.intro; refine ⟨?_, ?_⟩; (intro W hW; have c1 := cv1 W hW; have c2 := cv2 W hW; go_simp; try with_reducible rfl); (intro K hK; simp only [Act.put, List.setIfInBounds_toArray, List.set_cons_zero, List.set_cons_succ]; refine hK _ ?_; clear hK K))
    by_cases hsum : sha own = tl
    case neg =>
      have hne : (!(sha own == tl)) = true := by simpa using hsum
      have sn : ∀ W, (binOp .neq 9 (.string (str (sha own))) (.string (str tl))).run Tryd.prog W = .ok (.bool true) W := fun W => by rw [string_neq, hne]; rfl
      obtain rfl : z = (4, []) := by rw [← HZ.out, if_neg hsum]
      iterate 1 (refine wpSeq_quiet rfl rfl ?_; apply Exists.intro; refine ⟨?_, ?_⟩; (intro W hW; have s1 := sn W; go_simp; try with_reducible rfl); (intro K hK; simp only [Act.put, List.setIfInBounds_toArray, List.set_cons_zero, List.set_cons_succ]; refine hK _ ?_; clear hK K))
      refine wpSeq_end ?_
      go_wp2_with fail
      go_ret2
      first | exact ⟨X3.drew, .inl ⟨by decide, rfl⟩⟩ | exact ⟨X3.drew, rfl⟩
    have hne : (!(sha own == tl)) = false := by simpa using hsum
    have sn : ∀ W, (binOp .neq 9 (.string (str (sha own))) (.string (str tl))).run Tryd.prog W = .ok (.bool false) W := fun W => by rw [string_neq, hne]; rfl
    rw [if_pos hsum] at HZ
    iterate 1 (refine wpSeq_quiet rfl rfl ?_; apply Exists.intro; refine ⟨?_, ?_⟩; (intro W hW; have s1 := sn W; go_simp; try with_reducible rfl); (intro K hK; simp only [Act.put, List.setIfInBounds_toArray, List.set_cons_zero, List.set_cons_succ]; refine hK _ ?_; clear hK K))
    refine wpSeq_end ?_
    clear cv1 cv2 sn hne rs
    have X4 : Ext Non w w3.drew := X3.drew
    have R4 := ro.extN X4
    generalize w3.drew = w4 at *
    by_cases h14 : m % 14 = 0
    case neg =>
      have i4 : ¬ (Int.tmod (m : Int) 14 = 0) := by rw [Int.tmod_eq_emod_of_nonneg (by omega)]; omega
      obtain rfl : z = (3, []) := by rw [← HZ.out, if_neg h14]
      go_wp2_with fail
      go_ret2
      first | exact ⟨X4, .inl ⟨by decide, rfl⟩⟩ | exact ⟨X4, rfl⟩
    rw [if_pos h14] at HZ
    have i4 : Int.tmod (m : Int) 14 = 0 := by rw [Int.tmod_eq_emod_of_nonneg (by omega)]; omega
    go_wp2_with fail
    have ctr := new_calls w4
    with_reducible refine Calls.mono ctr ?_
    clear ctr
    rintro e w5 ⟨d, rfl, H5, x5⟩
    have X5 := X4.transN x5
    have R5 := R4.extN x5
    obtain ⟨D5, hD5⟩ : ∃ D5 : Nat → Prop, D5 = fun k => w4.heap.size ≤ k ∧ k < w5.heap.size := ⟨_, rfl⟩
    rw [← hD5] at H5
    go_wp2_with fail
    have L6 := Blk.new w5 71 #[.int .u16 0, .int .u32 0]
    have x6 := (Ext.refl Non w5).alloc (.cells #[.int .u16 0, .int .u32 0] 71)
    have H6 := H5.extN x6
    have X6 := X5.transN x6
    have hs6 : (w5.alloc (.cells #[.int .u16 0, .int .u32 0] 71)).heap.size = w5.heap.size + 1 := World.size_alloc ..
    generalize w5.alloc (.cells #[.int .u16 0, .int .u32 0] 71) = w6 at *
    have ctr := read_calls c m (R5.extN x6) hlo (by omega)
    with_reducible refine Calls.mono ctr ?_
    clear ctr
    rintro e w7 ⟨p, rfl, R7, hp7, x7⟩
    obtain ⟨Dr, hDr⟩ : ∃ Dr : Nat → Prop, Dr = fun k => w6.heap.size ≤ k ∧ k < p := ⟨_, rfl⟩
    rw [← hDr] at R7
    have X7 := X6.transN x7
    have H7 := H6.extN x7
    have L7 := L6.extN_ x7
    have hs4 := X4.size
    have hs5 := x5.size
    clear H5 H6 L6 x5 x6 x7 R4 R5 X5 X6 x2 X2 X3 R3
    generalize hg7 : w5.heap.size = g7 at *
    obtain ⟨R, hR⟩ : ∃ R, ldl [] (recs own) = R := ⟨_, rfl⟩
    have hrl : (recs own).length * 14 = m := by rw [recs_len, hlo]; omega
    go_wp2_with fail
    go_loopw [9] (fun _ wr => ∃ (k : Nat) (S : List Rc) (a f : Nat), k * 14 ≤ m ∧ Di wr D5 d S ∧ Rdr wr p Dr (own.drop (k * 14)) ∧ Blk wr g7 71 #[.int .u16 a, .int .u32 f] ∧ (∀ y, S.getLast? = some y → a = y.ad ∧ f = y.fr) ∧ Hid (ldl S ((recs own).drop k) = R) ∧ Ext Non w wr) (fun _ wr => rdLeft wr p)
    case atStart => exact ⟨0, [], 0, 0, by omega, H7, by simpa using R7, L7, (fun y h => nomatch h), by rw [List.drop_zero]; exact hR, X7⟩
    case round =>
      clear H7 R7 L7 X7
      obtain ⟨k, S, a, f, hk, H, R1, L1, hla, HL, X⟩ := hrel
      have hleft := R1.left
      have hdl : (own.drop (k * 14)).length = m - k * 14 := by rw [List.length_drop, hlo]
      obtain ⟨q, hq⟩ : ∃ q, m - k * 14 = q := ⟨_, rfl⟩
      rw [hq] at hdl
      rw [hdl] at hleft
      by_cases hlt : 0 < q
      · have i1 : (0 : Int) < (q : Int) := by omega
        have hpD : ¬ Dr p := by rw [hDr]; omega
        have h14q : 14 ≤ q := by omega
        have hkr : k < (recs own).length := by omega
        have hrk := recs_get own k hkr
        have hro := rdr_ok (l := own.drop (k * 14)) (by omega)
        rw [← hrk] at hro
        have hcons : (recs own).drop k = (recs own)[k] :: (recs own).drop (k + 1) := List.drop_eq_getElem_cons hkr
        rw [hcons] at HL
        have rct := fun W (R2 : Rdr W p Dr (own.drop (k * 14))) => record_calls R2 hpD (by omega)
        rw [← hrk] at rct
        generalize (recs own)[k] = x at *
        obtain ⟨rest, hrest⟩ : ∃ rest, (recs own).drop (k + 1) = rest := ⟨_, rfl⟩
        rw [hrest] at HL
        have HREST := Lib.hid hrest
        clear hrest
        clear hcons hrk
        go_wp2_with fail
        have ctr := left_calls R1 q hdl
        with_reducible refine Calls.mono ctr ?_
        clear ctr
        rintro e w8 ⟨rfl, rfl⟩
        go_wp2_with fail
        have ctr := rct wr R1
        with_reducible refine Calls.mono ctr ?_
        clear ctr
        rintro e w8 ⟨rfl, R8, x8⟩
        rw [List.drop_drop] at R8
        obtain ⟨xa, xf, xu, xn⟩ := x
        unfold rcA
        simp only
        have hpw := R1.lt
        have X8 : Ext Non w w8 := X.trans x8 (fun i hi h => by have h : i = p := h; omega)
        have H8 := H.ext x8 (fun i hi h => by rw [hD5] at hi; have h : i = p := h; omega)
        have L8 := L1.ext x8 (fun h => by have h : g7 = p := h; omega)
        go_upto_region 14 with (fail)
        have x89 := (Ext.refl Non w8).alloc (.cells #[.int .u16 xa, .int .u32 xf, .int .u32 xu, .int .u32 xn] 37)
        have Y9 := Blk.new w8 37 #[.int .u16 xa, .int .u32 xf, .int .u32 xu, .int .u32 xn]
        have hs8 := x8.size
        have R9 := R8.extN x89
        have X9 := X8.transN x89
        have H9 := H8.extN x89
        have L9 := L8.extN_ x89
        have hy8 : p < w8.heap.size := R8.lt
        generalize w8.alloc (.cells #[.int .u16 xa, .int .u32 xf, .int .u32 xu, .int .u32 xn] 37) = w9 at *
        generalize hy9 : w8.heap.size = y9 at *
        clear rct x8 x89 R8 X8 H8 L8 L1 H R1 X
        obtain ⟨n, hn⟩ : ∃ n, S.length = n := ⟨_, rfl⟩
        have hK9 := (Ext.refl Non w9).drew
        have HA := H9.extN hK9
        have YA := Y9.extN_ hK9
        have LA := L9.extN_ hK9
        have RA := R9.extN hK9
        have XA := X9.transN hK9
        clear H9 Y9 L9 R9 X9 hK9
        have yc := fun W (x : Ext D5 w9.drew W) => rc_cells (YA.ext x (fun h => by rw [hD5] at h; omega))
        have lc := fun W (x : Ext D5 w9.drew W) => LA.ext x (fun h => by rw [hD5] at h; omega)
        have lc0 : ∀ W, Ext D5 w9.drew W → W.cell? ⟨g7, 0, none⟩ = some (.int .u16 a) := fun W x => (lc W x).cell 0
        have lc1 : ∀ W, Ext D5 w9.drew W → W.cell? ⟨g7, 1, none⟩ = some (.int .u32 f) := fun W x => (lc W x).cell 1
        clear lc
        refine wp_region_seq D5 ((0, true) :: (1, false) :: (2, true) :: (3, true) :: (4, true) :: (6, true) :: (5, false) :: (7, false) :: (8, true) :: (9, true) :: (10, true) :: (11, true) :: (12, true) :: (13, false) :: (14, true) :: (15, true) :: []) (by kernel_rfl) (by kernel_rfl) (by kernel_rfl) ?_
        iterate 1 (refine wpSeq_quiet rfl rfl ?_; apply Exists.intro; refine ⟨?_, ?_⟩; (intro W hW; go_simp; try with_reducible rfl); (intro K hK; simp only [Act.put, List.setIfInBounds_toArray, List.set_cons_zero, List.set_cons_succ]; refine hK _ ?_; clear hK K))
        generalize w9.drew = v9 at *
        refine wpSeq_call rfl rfl (fun K hK => ?_)
        go_simp
        have ctr := len_calls HA n hn
        with_reducible refine Calls.mono ctr ?_
        clear ctr
        rintro e w10 ⟨rfl, rfl⟩
        go_simp
        refine hK _ _ (Ext.refl _ _) ?_
        clear hK K
        rcases Nat.eq_zero_or_pos n with h0 | h0
        · subst h0
          obtain rfl : S = [] := List.eq_nil_of_length_eq_zero hn
          iterate 2 (refine wpSeq_quiet rfl rfl ?_; apply Exists.intro; refine ⟨?_, ?_⟩; (intro W hW; go_simp; try with_reducible rfl); (intro K hK; simp only [Act.put, List.setIfInBounds_toArray, List.set_cons_zero, List.set_cons_succ]; refine hK _ ?_; clear hK K))
          iterate 2 (refine wpSeq_skip rfl rfl (fun K hK => ?_); simp only [Act.put, List.setIfInBounds_toArray, List.set_cons_zero, List.set_cons_succ]; refine hK _ ?_; clear hK K)
          iterate 2 (refine wpSeq_pass rfl rfl (fun K hK => ?_); simp only [Act.put, List.setIfInBounds_toArray, List.set_cons_zero, List.set_cons_succ]; refine hK _ ?_; clear hK K)
          iterate 1 (refine wpSeq_skip rfl rfl (fun K hK => ?_); simp only [Act.put, List.setIfInBounds_toArray, List.set_cons_zero, List.set_cons_succ]; refine hK _ ?_; clear hK K)
          iterate 4 (refine wpSeq_quiet rfl rfl ?_; apply Exists.intro; refine ⟨?_, ?_⟩; (intro W hW; obtain ⟨u0, u1, u2, u3⟩ := yc W hW; go_simp; try with_reducible rfl); (intro K hK; simp only [Act.put, List.setIfInBounds_toArray, List.set_cons_zero, List.set_cons_succ]; refine hK _ ?_; clear hK K))
          have hany : (([] : List Rc).getLast?.any fun y => klt (⟨xa, xf, xu, xn⟩ : Rc) y) = false := rfl
          obtain ⟨z1, hz1⟩ : ∃ z1, dire [] ⟨xa, xf, xu, xn⟩ = z1 := ⟨_, rfl⟩
          obtain ⟨T1, hT0⟩ : ∃ T1, dirl [] ⟨xa, xf, xu, xn⟩ = T1 := ⟨_, rfl⟩
          have HZ1 := Lib.hid hz1
          have HT1 := Lib.hid hT0
          clear hz1 hT0
          refine wpSeq_call rfl rfl (fun K hK => ?_)
          go_simp
          have ctr := add_x HA xa xf xu xn hro z1 HZ1.out T1 HT1.out
          with_reducible refine Calls.mono ctr ?_
          clear ctr
          rintro e w11 ⟨rfl, H11, x11⟩
          go_simp
          refine hK _ _ x11 ?_
          clear hK K
          by_cases hz0 : z1 = 0
          · have hz0' : dire [] ⟨xa, xf, xu, xn⟩ = 0 := HZ1.out.trans hz0
            rw [hz0]
            have hT1 : T1 = [] ++ [⟨xa, xf, xu, xn⟩] := HT1.out.symm.trans (dirl_behind HA.sound hz0' hany)
            rw [hT1] at H11
            have HL2 : Hid (ldl ([] ++ [⟨xa, xf, xu, xn⟩]) rest = R) := by
              have := HL.out
              unfold ldl at this
              rw [hany, hz0'] at this
              exact this
            iterate 2 (refine wpSeq_quiet rfl rfl ?_; apply Exists.intro; refine ⟨?_, ?_⟩; (intro W hW; go_simp; try with_reducible rfl); (intro K hK; simp only [Act.put, List.setIfInBounds_toArray, List.set_cons_zero, List.set_cons_succ]; refine hK _ ?_; clear hK K))
            refine wpSeq_end ?_
            have Y11 := YA.ext x11 (fun h => by rw [hD5] at h; omega)
            have L11 := LA.ext x11 (fun h => by rw [hD5] at h; omega)
            have R11 := RA.ext x11 (fun h => by rw [hD5] at h; omega) (fun i hi h => by rw [hDr] at hi; rw [hD5] at h; omega)
            have X11 : Ext Non w w11 := XA.trans x11 (fun i hi h => by rw [hD5] at h; omega)
            obtain ⟨u0, u1, u2, u3⟩ := rc_cells Y11
            go_wp2_with fail
            have ctr := key_calls w11 xa xf xu xn
            with_reducible refine Calls.mono ctr ?_
            clear ctr
            rintro e w12 ⟨rfl, x12⟩
            have L12 := L11.extN_ x12.ext
            have l0 : w12.cell? ⟨g7, 0, none⟩ = some (.int .u16 a) := L12.cell 0
            have l1 : w12.cell? ⟨g7, 1, none⟩ = some (.int .u32 f) := L12.cell 1
            have f0 := L12.frozen 0
            have f1 := L12.frozen 1
            go_wp2_with fail
            have x13 := key_ext (Ext.refl (One g7) w12) (g := g7) (.inr rfl) (.int .u16 xa) (.int .u32 xf)
            have R13 := (R11.extN x12.ext).ext x13 (fun h => by have h : p = g7 := h; omega) (fun i hi h => by rw [hDr] at hi; have h : i = g7 := h; omega)
            refine ⟨⟨k + 1, _, xa, xf, by omega, (H11.extN x12.ext).ext x13 (fun i hi h => by rw [hD5] at hi; have h : i = g7 := h; omega), by rw [show (k + 1) * 14 = k * 14 + 14 by omega]; exact R13, key_set L12 _ _, fun y hy => by simp at hy; subst hy; exact ⟨rfl, rfl⟩, by rw [HREST.out]; exact HL2, key_ext (X11.transN x12.ext) (.inl (by omega)) _ _⟩, ?_⟩
            rw [R13.left, hleft, List.length_drop, hlo]
            omega
          · have n1 : ((z1 : Int) != 0) = true := by simpa using hz0
            iterate 2 (refine wpSeq_quiet rfl rfl ?_; apply Exists.intro; refine ⟨?_, ?_⟩; (intro W hW; go_simp; try with_reducible rfl); (intro K hK; simp only [Act.put, List.setIfInBounds_toArray, List.set_cons_zero, List.set_cons_succ]; refine hK _ ?_; clear hK K))
            refine wpSeq_end ?_
            have hRn : R = none := by
              rw [← HL.out]
              unfold ldl
              rw [if_pos (by rw [HZ1.out, decide_eq_true hz0, Bool.or_true])]
            have XN : Ext Non w w11 := XA.trans x11 (fun i hi h => by rw [hD5] at h; omega)
            have HR := Lib.hid hR
            clear hR
            rw [hRn] at HR
            rw [HR.out] at HZ
            obtain rfl : z = (3, []) := HZ.out.symm
            go_wp2_with fail
            go_ret2
            exact ⟨XN, rfl⟩
        · have i2 : (0 : Int) < (n : Int) := by omega
          obtain ⟨⟨ya, yf, yu, yn⟩, hy⟩ : ∃ y, S.getLast? = some y := by
            cases e : S.getLast? with
            | none => rw [List.getLast?_eq_none_iff] at e; subst e; simp at hn; omega
            | some y => exact ⟨y, rfl⟩
          have hyl := hla _ hy
          simp only at hyl
          obtain ⟨rfl, rfl⟩ := hyl
          have hany : (S.getLast?.any fun y => klt (⟨xa, xf, xu, xn⟩ : Rc) y) = klt ⟨xa, xf, xu, xn⟩ ⟨a, f, yu, yn⟩ := by rw [hy]; rfl
          have hneg := cmpK_neg xa xf a f
          obtain ⟨v, hv⟩ : ∃ v, cmpK xa xf a f = v := ⟨_, rfl⟩
          rw [hv] at hneg
          have hk2 : klt ⟨xa, xf, xu, xn⟩ ⟨a, f, yu, yn⟩ = decide (v < 0) := by
            unfold klt
            exact decide_eq_decide.2 hneg.symm
          rw [hk2] at hany
          have HV := Lib.hid hv
          clear hv hneg hk2 hla hy
          iterate 4 (refine wpSeq_quiet rfl rfl ?_; apply Exists.intro; refine ⟨?_, ?_⟩; (intro W hW; obtain ⟨u0, u1, u2, u3⟩ := yc W hW; have u4 := lc0 W hW; have u5 := lc1 W hW; go_simp; try with_reducible rfl); (intro K hK; simp only [Act.put, List.setIfInBounds_toArray, List.set_cons_zero, List.set_cons_succ]; refine hK _ ?_; clear hK K))
          clear yc lc0 lc1
          refine wpSeq_call rfl rfl (fun K hK => ?_)
          go_simp
          have ctr := key_calls v9 xa xf xu xn
          with_reducible refine Calls.mono ctr ?_
          clear ctr
          rintro e w10 ⟨rfl, x10⟩
          go_simp
          refine hK _ _ x10.ext.offN ?_
          clear hK K
          refine wpSeq_call rfl rfl (fun K hK => ?_)
          go_simp
          have ctr := cmp_x w10 xa xf a f v HV.out
          with_reducible refine Calls.mono ctr ?_
          clear ctr
          rintro e w10b ⟨rfl, x10b⟩
          go_simp
          refine hK _ _ x10b.ext.offN ?_
          clear hK K
          have xb := x10.ext.transN x10b.ext
          replace HA := HA.extN xb
          replace YA := YA.extN_ xb
          replace LA := LA.extN_ xb
          replace RA := RA.extN xb
          replace XA := XA.transN xb
          clear xb x10 x10b
          by_cases hvn : v < 0
          · skip
            iterate 3 (refine wpSeq_quiet rfl rfl ?_; apply Exists.intro; refine ⟨?_, ?_⟩; (intro W hW; go_simp; try with_reducible rfl); (intro K hK; simp only [Act.put, List.setIfInBounds_toArray, List.set_cons_zero, List.set_cons_succ]; refine hK _ ?_; clear hK K))
            iterate 2 (refine wpSeq_skip rfl rfl (fun K hK => ?_); simp only [Act.put, List.setIfInBounds_toArray, List.set_cons_zero, List.set_cons_succ]; refine hK _ ?_; clear hK K)
            iterate 1 (refine wpSeq_pass rfl rfl (fun K hK => ?_); simp only [Act.put, List.setIfInBounds_toArray, List.set_cons_zero, List.set_cons_succ]; refine hK _ ?_; clear hK K)
            iterate 1 (refine wpSeq_skip rfl rfl (fun K hK => ?_); simp only [Act.put, List.setIfInBounds_toArray, List.set_cons_zero, List.set_cons_succ]; refine hK _ ?_; clear hK K)
            iterate 1 (refine wpSeq_quiet rfl rfl ?_; apply Exists.intro; refine ⟨?_, ?_⟩; (intro W hW; go_simp; try with_reducible rfl); (intro K hK; simp only [Act.put, List.setIfInBounds_toArray, List.set_cons_zero, List.set_cons_succ]; refine hK _ ?_; clear hK K))
            refine wpSeq_end ?_
            have hRn : R = none := by
              rw [← HL.out]
              unfold ldl
              rw [if_pos (by rw [hany, decide_eq_true hvn, Bool.true_or])]
            have XN := XA
            have HR := Lib.hid hR
            clear hR
            rw [hRn] at HR
            rw [HR.out] at HZ
            obtain rfl : z = (3, []) := HZ.out.symm
            go_wp2_with fail
            go_ret2
            exact ⟨XN, rfl⟩
          · rw [decide_eq_false hvn] at hany
            have yc := fun W (x : Ext D5 w10b W) => rc_cells (YA.ext x (fun h => by rw [hD5] at h; omega))
            iterate 5 (refine wpSeq_quiet rfl rfl ?_; apply Exists.intro; refine ⟨?_, ?_⟩; (intro W hW; obtain ⟨u0, u1, u2, u3⟩ := yc W hW; go_simp; try with_reducible rfl); (intro K hK; simp only [Act.put, List.setIfInBounds_toArray, List.set_cons_zero, List.set_cons_succ]; refine hK _ ?_; clear hK K))
            clear yc
            obtain ⟨z1, hz1⟩ : ∃ z1, dire S ⟨xa, xf, xu, xn⟩ = z1 := ⟨_, rfl⟩
            obtain ⟨T1, hT0⟩ : ∃ T1, dirl S ⟨xa, xf, xu, xn⟩ = T1 := ⟨_, rfl⟩
            have HZ1 := Lib.hid hz1
            have HT1 := Lib.hid hT0
            clear hz1 hT0
            refine wpSeq_call rfl rfl (fun K hK => ?_)
            go_simp
            have ctr := add_x HA xa xf xu xn hro z1 HZ1.out T1 HT1.out
            with_reducible refine Calls.mono ctr ?_
            clear ctr
            rintro e w11 ⟨rfl, H11, x11⟩
            go_simp
            refine hK _ _ x11 ?_
            clear hK K
            by_cases hz0 : z1 = 0
            · have hz0' : dire S ⟨xa, xf, xu, xn⟩ = 0 := HZ1.out.trans hz0
              rw [hz0]
              have hT1 : T1 = S ++ [⟨xa, xf, xu, xn⟩] := HT1.out.symm.trans (dirl_behind HA.sound hz0' hany)
              rw [hT1] at H11
              have HL2 : Hid (ldl (S ++ [⟨xa, xf, xu, xn⟩]) rest = R) := by
                have := HL.out
                unfold ldl at this
                rw [hany, hz0'] at this
                exact this
              iterate 2 (refine wpSeq_quiet rfl rfl ?_; apply Exists.intro; refine ⟨?_, ?_⟩; (intro W hW; go_simp; try with_reducible rfl); (intro K hK; simp only [Act.put, List.setIfInBounds_toArray, List.set_cons_zero, List.set_cons_succ]; refine hK _ ?_; clear hK K))
              refine wpSeq_end ?_
              have Y11 := YA.ext x11 (fun h => by rw [hD5] at h; omega)
              have L11 := LA.ext x11 (fun h => by rw [hD5] at h; omega)
              have R11 := RA.ext x11 (fun h => by rw [hD5] at h; omega) (fun i hi h => by rw [hDr] at hi; rw [hD5] at h; omega)
              have X11 : Ext Non w w11 := XA.trans x11 (fun i hi h => by rw [hD5] at h; omega)
              obtain ⟨u0, u1, u2, u3⟩ := rc_cells Y11
              go_wp2_with fail
              have ctr := key_calls w11 xa xf xu xn
              with_reducible refine Calls.mono ctr ?_
              clear ctr
              rintro e w12 ⟨rfl, x12⟩
              have L12 := L11.extN_ x12.ext
              have l0 : w12.cell? ⟨g7, 0, none⟩ = some (.int .u16 a) := L12.cell 0
              have l1 : w12.cell? ⟨g7, 1, none⟩ = some (.int .u32 f) := L12.cell 1
              have f0 := L12.frozen 0
              have f1 := L12.frozen 1
              go_wp2_with fail
              have x13 := key_ext (Ext.refl (One g7) w12) (g := g7) (.inr rfl) (.int .u16 xa) (.int .u32 xf)
              have R13 := (R11.extN x12.ext).ext x13 (fun h => by have h : p = g7 := h; omega) (fun i hi h => by rw [hDr] at hi; have h : i = g7 := h; omega)
              refine ⟨⟨k + 1, _, xa, xf, by omega, (H11.extN x12.ext).ext x13 (fun i hi h => by rw [hD5] at hi; have h : i = g7 := h; omega), by rw [show (k + 1) * 14 = k * 14 + 14 by omega]; exact R13, key_set L12 _ _, fun y hy => by simp at hy; subst hy; exact ⟨rfl, rfl⟩, by rw [HREST.out]; exact HL2, key_ext (X11.transN x12.ext) (.inl (by omega)) _ _⟩, ?_⟩
              rw [R13.left, hleft, List.length_drop, hlo]
              omega
            · have n1 : ((z1 : Int) != 0) = true := by simpa using hz0
              iterate 2 (refine wpSeq_quiet rfl rfl ?_; apply Exists.intro; refine ⟨?_, ?_⟩; (intro W hW; go_simp; try with_reducible rfl); (intro K hK; simp only [Act.put, List.setIfInBounds_toArray, List.set_cons_zero, List.set_cons_succ]; refine hK _ ?_; clear hK K))
              refine wpSeq_end ?_
              have hRn : R = none := by
                rw [← HL.out]
                unfold ldl
                rw [if_pos (by rw [HZ1.out, decide_eq_true hz0, Bool.or_true])]
              have XN : Ext Non w w11 := XA.trans x11 (fun i hi h => by rw [hD5] at h; omega)
              have HR := Lib.hid hR
              clear hR
              rw [hRn] at HR
              rw [HR.out] at HZ
              obtain rfl : z = (3, []) := HZ.out.symm
              go_wp2_with fail
              go_ret2
              exact ⟨XN, rfl⟩
      · obtain rfl : q = 0 := by omega
        have hkl : (recs own).length ≤ k := by omega
        rw [List.drop_of_length_le hkl] at HL
        have hRS : R = some S := by rw [← HL.out]; rfl
        have HR := Lib.hid hR
        clear hR
        rw [hRS] at HR
        rw [HR.out] at HZ
        obtain rfl : z = (0, S) := HZ.out.symm
        have i1 : ¬ (0 : Int) < ((0 : Nat) : Int) := by omega
        go_wp2_with fail
        have ctr := left_calls R1 0 hdl
        with_reducible refine Calls.mono ctr ?_
        clear ctr
        rintro e w8 ⟨rfl, rfl⟩
        go_wp2_with fail
        go_ret2
        first | exact ⟨X, d, rfl, H.imp (fun k hk h => by rw [hD5] at h; exact ⟨by omega, hk⟩)⟩ | exact ⟨X, .inr ⟨rfl, d, rfl, H.imp (fun k hk h => by rw [hD5] at h; exact ⟨by omega, hk⟩)⟩⟩
end Go.Proofs.YtnmpfbffacljfaaDoor
