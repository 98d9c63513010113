/- The law PieceSpoilt: a piece that says something else is refused, and spoils nothing. -/
import Derived.Test.YtcdpmedmhindaaaPieG
import Derived.Test.YtcdpmedmhindaaaSeqS
import Derived.StillTailTactics
import Derived.Deep.DeepCutAuto
namespace Go.Proofs.Ytcdpmedmhindaaa
open Go.RowKit

theorem u8_xor3 (a b : UInt8) : bits .xor .u8 (a.toNat : Int) (b.toNat : Int) = ((a ^^^ b).toNat : Int) := by
  rw [bits_xor_nat .u8 wrapn_u8 _ _ (lt8 a.toNat_lt) (lt8 b.toNat_lt), UInt8.toNat_xor]
theorem jtake_form {J : Jn} {p : Pc} {o : Opn} (hr : prt p = true) (hk : p.kind = 1) (hd : p.key ∉ J.done) (ho : lkp p.key J.opn = some o)
    (h : o.1 ≠ p.count ∨ (lkp p.place o.2 ≠ none ∧ lkp p.place o.2 ≠ some p.b)) : jtake J p = (J, 3, none) := by
  have hc : (jchk J p).1 = 3 := by
    unfold jchk
    rw [if_pos ⟨hr, hk⟩, if_neg hd, ho]
    simp only
    rw [if_pos h]
  unfold jtake
  rw [if_neg (by rw [hc]; decide), hc]
def sp (m : List UInt8) (i : Nat) : Jn := sj 1 (1, 2, 3) m (List.range i)
section
variable {m : List UInt8} {N i k : Nat}
theorem sp_zero (m : List UInt8) : jn0 1 = sp m 0 := sj_zero (by decide) _ _
theorem sp_some (hm : m.length ≤ 4096) (hN : cnt m = N) (hi : i + 1 < N) : jtake (sp m i) ⟨1, 1, 2, 3, (i : Int), (N : Int), pce m i⟩ = (sp m (i + 1), 0, none) := by
  unfold sp
  rw [List.range_succ]
  exact sj_some (by decide) hm hN (by omega) (by simp) (by simpa using hi)
theorem sp_last (hm : m.length ≤ 4096) (hN : cnt m = N) (hi : i + 1 = N) : jtake (sp m i) ⟨1, 1, 2, 3, (i : Int), (N : Int), pce m i⟩ = (sjd 1 (1, 2, 3), 0, some m) :=
  sj_last (by decide) hm hN (by omega) (by simp) List.nodup_range (fun x hx => by have := List.mem_range.1 hx; omega) (by simpa using hi)
theorem sp_again (hm : m.length ≤ 4096) (hN : cnt m = N) (hk : k ≤ i) (hi : i + 1 < N) : jtake (sp m (i + 1)) ⟨1, 1, 2, 3, (k : Int), (N : Int), pce m k⟩ = (sp m (i + 1), 7, none) :=
  sj_again hm hN (by omega) (List.mem_range.2 (by omega))
theorem sp_form (hm : m.length ≤ 4096) (hN : cnt m = N) (hk : k ≤ i) (hi : i + 1 < N) (b : List UInt8) (hb : b.length = 244) (c : Int) (h : (c = N ∧ b ≠ pce m k) ∨ (c = 17 ∧ N ≠ 17)) :
    jtake (sp m (i + 1)) ⟨1, 1, 2, 3, (k : Int), c, b⟩ = (sp m (i + 1), 3, none) := by
  subst hN
  have hc := cnt_facts m hm
  refine jtake_form (o := ((cnt m : Int), got m (List.range (i + 1)))) ?_ rfl (by simp [sp, sj]) ?_ ?_
  · unfold prt pfl
    rw [if_pos rfl]
    have h1 : (k : Int) ≠ c - 1 := by omega
    simp only [Bool.and_eq_true, decide_eq_true_eq]
    rw [if_neg h1]
    refine ⟨by omega, by simpa using hb⟩
  · have := sj_lkp (room := 1) (m := m) (s := List.range (i + 1)) (1, 2, 3)
    unfold sp
    refine this.trans ?_
    unfold sta
    rw [if_neg (by simp)]
  · rcases h with ⟨_, h⟩ | ⟨h, h'⟩
    · right
      have e : lkp (k : Int) (got m (List.range (i + 1))) = some (pce m k) := by rw [lkp_got, if_pos (List.mem_range.2 (by omega))]
      refine ⟨?_, ?_⟩
      · show lkp (k : Int) _ ≠ none
        rw [e]; simp
      · show lkp (k : Int) _ ≠ some b
        rw [e]
        simp only [ne_eq, Option.some.injEq]
        exact fun h' => h h'.symm
    · left
      show (cnt m : Int) ≠ c
      omega
theorem set_xor_ne (a : List UInt8) {j : Nat} (h : j < a.length) (x b : UInt8) (hx : a.getD j 0 = x) (hb : b ≠ 0) : a.set j (x ^^^ b) ≠ a := by
  have hx' : a[j] = x := by rw [← hx]; simp [List.getD, h]
  intro e
  have e2 := congrArg (fun l => l[j]?) e
  simp only [List.getElem?_set_self h, List.getElem?_eq_getElem h, Option.some.injEq, hx'] at e2
  have e3 : x ^^^ (x ^^^ b) = x ^^^ x := congrArg (fun y => x ^^^ y) e2
  rw [← UInt8.xor_assoc, UInt8.xor_self, UInt8.zero_xor] at e3
  exact hb e3
end
set_option maxRecDepth 100000 in
set_option maxHeartbeats 4000000 in
theorem spoilt_walk (A : Option Addr) (n c : Nat) (l : List UInt8) (x1 x2 x3 : Int) (w : World) (hn : l.length = n) (hc : n ≤ c) (hcm : c ≤ maxLen) (h3 : 0 ≤ x3 ∧ x3 < 256) (r : Rd w (· < w.heap.size) A (bvs l)) :
    Calls Try.prog 13 #[.slice A n c, .int .i64 x1, .int .i64 x2, .int .u8 x3] w fun e w' => e = .returned (.bool true) ∧ Below w.heap.size w w' := by
  obtain ⟨m1, hm1, hm1a⟩ := and16_at x1
  obtain ⟨m2, hm2, hm2a⟩ := and16_at x2
  obtain ⟨k, hk, hka, hkb, _⟩ := min_at n 4096 (by omega)
  obtain ⟨bb, rfl⟩ : ∃ b : UInt8, (b.toNat : Int) = x3 := ⟨UInt8.ofNat x3.toNat, by simp; omega⟩
  clear h3
  go_enter Try.func13, Try.ntmps13
  go_wp2_with fail
  have ctr := shown_calls w
  with_reducible refine Calls.mono ctr ?_
  clear ctr
  rintro e w1 ⟨rfl, X1⟩
  go_wp2_with fail
  obtain ⟨m, hmd⟩ : ∃ m, l.take k = m := ⟨_, rfl⟩
  have hmk : m.length = k := by rw [← hmd, List.length_take]; omega
  have rm : Rd w (· < w.heap.size) A (bvs m) := by
    have := r.take k
    rw [← hmd]
    simpa [bvs, List.map_take] using this
  obtain ⟨N, hN⟩ : ∃ N, cnt m = N := ⟨_, rfl⟩
  have hm4 : m.length ≤ 4096 := by omega
  have rm1 := rm.extN X1
  have hs1 := X1.size
  clear r hk hmd
  have ctr := split_x (m := m) c k 1 2 3 rm1 (fun b hb => by omega) hmk hm4 (by omega) hcm (by decide) (by decide) (by decide) rfl rfl rfl N hN
  with_reducible refine Calls.mono ctr ?_
  clear ctr
  rintro e w2 ⟨A2, c2, rfl, O2, x2⟩
  have X2 := X1.transN x2
  have cf := cnt_facts m hm4
  rw [hN] at cf
  have cf1 := cf.1
  have cf2 := cf.2.1
  go_wp2_with fail
  have ctr := new_calls w2 1
  with_reducible refine Calls.mono ctr ?_
  clear ctr
  rintro e w3 ⟨j, rfl, J0, x3⟩
  have X3 := X2.transN x3
  have O3 := O2.extN x3
  have hA3 : ∀ b, ob A2 = some b → b < w2.heap.size := fun b hb => (O2.lt hb).2
  clear x2 O2 rm1
  by_cases hN2 : N < 2
  · have iN2 : (N : Int) < 2 := by omega
    go_wp2_with fail
    go_ret
    exact ⟨rfl, X3.belowN⟩
  have iN2 : ¬ (N : Int) < 2 := by omega
  clear hN2
  by_cases hb0 : bb = 0
  · subst hb0
    go_wp2_with fail
    go_ret
    exact ⟨rfl, X3.belowN⟩
  have ib0 : ((bb.toNat : Int) == 0) = false := beq_eq_false_iff_ne.2 fun e => hb0 (UInt8.toNat_inj.1 (by simpa using e))
  go_wp2_with fail
  rw [sp_zero m] at J0
  have hwb : w.heap.size ≤ w2.heap.size := X2.size
  have hbw := x3.size
  obtain ⟨bs, hbs⟩ : ∃ q, w2.heap.size = q := ⟨_, rfl⟩
  rw [hbs] at hwb J0 hA3 hbw
  clear X1 X2 hs1 hbs x3
  go_loopw [13] (fun z wr => ∃ (i : Nat) (D : Nat → Prop), i + 1 ≤ N ∧ z = .int .i64 i ∧ OwA wr w1.heap.size A2 c2 (pcbs 1 2 3 m N) ∧ Ext Non w wr ∧ Jo wr D j (sp m i) ∧ (∀ b, D b → bs ≤ b ∧ b < wr.heap.size) ∧ bs ≤ wr.heap.size) (fun z _ => N - (intOf z).toNat)
  case atStart => exact ⟨0, _, by omega, rfl, O3, X3, J0, fun b hb => hb, hbw⟩
  case round =>
    clear O3 X3 J0
    obtain ⟨i, D, hi, rfl, O, X, J0, hD, hbw⟩ := hrel
    have i1 : (i : Int) < (N : Int) := by omega
    obtain ⟨hA, ld⟩ := O.load i (by rw [pcbs_len]; omega)
    rw [pcbs_get] at ld
    obtain ⟨q, hq⟩ : ∃ q, (pce m i).length = q := ⟨_, rfl⟩
    have hq244 : q ≤ 244 := by rw [← hq, pce_len]; omega
    go_wp2_with fail
    clear ld hA
    have ctr := parse_mpc wr 1 2 3 (by decide) (by decide) (by decide) (m := m) hm4 i (by rw [hN]; omega) rfl rfl rfl q N hq hN
    with_reducible refine Calls.mono ctr ?_
    clear ctr
    rintro e w4 ⟨A4, c4, rfl, O4, x4⟩
    have Bp := Blk.new w4 45 #[.int .i64 1, .int .u32 1, .int .u16 2, .int .u16 3, .int .i64 (i : Int), .int .i64 (N : Int), .slice A4 q c4]
    have Y5 := (Ext.refl Non w4).alloc (.cells #[.int .i64 1, .int .u32 1, .int .u16 2, .int .u16 3, .int .i64 (i : Int), .int .i64 (N : Int), .slice A4 q c4] 45)
    have O5 := O4.extN Y5
    have Y := x4.transN Y5
    have P5 := O.extN Y
    have X5 := X.transN Y
    have J5 := J0.extN Y
    have hq4 := O4.len
    rw [hq] at hq4
    have hsz := Y.size
    have hszw := X.size
    obtain ⟨a0, a1, a2, a3, a4, a5, a6⟩ := pc_cellsR Bp
    clear O4 x4 Y5 X Y O J0 Bp
    go_wp2_with fail
    clear a0 a1 a2 a3 a4 a5 a6
    generalize w4.alloc (.cells #[.int .i64 1, .int .u32 1, .int .u16 2, .int .u16 3, .int .i64 (i : Int), .int .i64 (N : Int), .slice A4 q c4] 45) = w5 at *
    generalize w4.heap.size = gp at *
    by_cases hl : i + 1 = N
    · have iN : (i : Int) = (N : Int) - 1 := by omega
      have htk := sp_last (m := m) hm4 hN hl
      have ctr := take_some J5 1 1 2 3 (i : Int) (N : Int) (pce m i) m htk rfl rfl rfl A4 c4 q hq O5.rd hq4.1 (by simp only [maxLen]; omega) k hmk
      with_reducible refine Calls.mono ctr ?_
      clear ctr
      rintro e w6 ⟨D6, Am, cm, rfl, J6, hD6, x6, Om, _⟩
      have X6 := X5.trans x6 (fun b hb hd => by
        have := (hD _ hd).1
        omega)
      have Y7 := (Ext.refl Non w6).alloc (.cells #[.int .u32 1, .int .u16 2, .int .u16 3, .slice Am k cm] 55)
      have J7 := J6.extN Y7
      have X7 := X6.transN Y7
      have cv1 := conv_str (Om.extN Y7).rd k cm hmk
      have cv2 := conv_str (rm.extN X7) k c hmk
      clear x6 hD6 J5 X5 hD Y7 J6 X6 O5 htk Om P5
      go_wp2_with fail
      have ctr := len_calls J7
      with_reducible refine Calls.mono ctr ?_
      clear ctr
      rintro e wz ⟨rfl, rfl⟩
      have hl : (sjd 1 (1, 2, 3)).opn.length = 0 := rfl
      go_wp2_with fail
      go_ret
      exact ⟨rfl, X7.belowN⟩
    · have iN : ¬ (i : Int) = (N : Int) - 1 := by omega
      have hl' : i + 1 < N := by omega
      have htk := sp_some (m := m) hm4 hN hl'
      have ctr := take_none J5 1 1 2 3 (i : Int) (N : Int) (pce m i) 0 htk rfl rfl rfl rfl A4 c4 q hq O5.rd hq4.1 (by simp only [maxLen]; omega)
      with_reducible refine Calls.mono ctr ?_
      clear ctr
      rintro e w6 ⟨D6, rfl, J6, hD6, x6⟩
      have X6 := X5.trans x6 (fun b hb hd => by
        have := (hD _ hd).1
        omega)
      have P6 := P5.ext x6 (fun b hb hd => by
        have := hA3 b hb
        have := (hD _ hd).1
        omega)
      have hD6' : ∀ b, D6 b → bs ≤ b ∧ b < w6.heap.size := fun b h => ⟨by
        rcases (hD6 _ h).1 with h | h
        · exact (hD _ h).1
        · omega, (hD6 _ h).2⟩
      have hs6 := x6.size
      have hb6 : bs ≤ w6.heap.size := by omega
      clear x6 hD6 J5 X5 hD P5 O5 htk hq4 hq hq244 hsz
      obtain ⟨p, hp⟩ : ∃ p, m1 % (i + 1) = p := ⟨_, rfl⟩
      have hpi : p ≤ i := by have := Nat.mod_lt m1 (show 0 < i + 1 by omega); omega
      have ep : (m1 : Int).tmod ((i : Int) + 1) = (p : Int) := by rw [← hp]; rfl
      have ep' : (m1 : Int) % ((i : Int) + 1) = (p : Int) := by rw [← hp]; rfl
      have ipN : (p : Int) < (N : Int) := by omega
      have hq : (pce m p).length = 244 := by rw [pce_len]; omega
      clear hp
      go_upto_region 17 with (fail)
      have Y7 := (Ext.refl Non w6).alloc (.cells #[.int .u32 0, .int .u16 0, .int .u16 0, .slice none 0 0] 55)
      have J7 := J6.extN Y7
      have X7 := X6.transN Y7
      have P7 := P6.extN Y7
      have hs7 : (w6.alloc (.cells #[.int .u32 0, .int .u16 0, .int .u16 0, .slice none 0 0] 55)).heap.size = w6.heap.size + 1 := World.size_alloc ..
      have hD7 : ∀ b, D6 b → bs ≤ b ∧ b < (w6.alloc (.cells #[.int .u32 0, .int .u16 0, .int .u16 0, .slice none 0 0] 55)).heap.size := fun b h => ⟨(hD6' b h).1, by have := (hD6' b h).2; omega⟩
      have hb7 : bs ≤ (w6.alloc (.cells #[.int .u32 0, .int .u16 0, .int .u16 0, .slice none 0 0] 55)).heap.size := by omega
      clear Y7 J6 X6 P6 hD6' hs7 hs6 hb6
      generalize w6.alloc (.cells #[.int .u32 0, .int .u16 0, .int .u16 0, .slice none 0 0] 55) = w7 at *
      obtain ⟨hA, ld⟩ := P7.load p (by rw [pcbs_len]; omega)
      rw [pcbs_get] at ld
      go_wp2_with fail
      clear ld hA ep ep'
      have ctr := parse_mpc w7 1 2 3 (by decide) (by decide) (by decide) (m := m) hm4 p (by rw [hN]; omega) rfl rfl rfl 244 N hq hN
      with_reducible refine Calls.mono ctr ?_
      clear ctr
      rintro e w8 ⟨A8, c8, rfl, O8, x8⟩
      have Bq := Blk.new w8 45 #[.int .i64 1, .int .u32 1, .int .u16 2, .int .u16 3, .int .i64 (p : Int), .int .i64 (N : Int), .slice A8 244 c8]
      have Y9 := (Ext.refl Non w8).alloc (.cells #[.int .i64 1, .int .u32 1, .int .u16 2, .int .u16 3, .int .i64 (p : Int), .int .i64 (N : Int), .slice A8 244 c8] 45)
      have O9 := O8.extN Y9
      have Y := x8.transN Y9
      have P9 := P7.extN Y
      have X9 := X7.transN Y
      have J9 := J7.extN Y
      have hq9 := O8.len
      have lo8 : ∀ b, ob A8 = some b → w7.heap.size ≤ b ∧ b < w8.heap.size := fun b hb => O8.lt hb
      rw [hq] at hq9
      have hgq : w7.heap.size ≤ w8.heap.size := x8.size
      have hsz : w8.heap.size + 1 = (w8.alloc (.cells #[.int .i64 1, .int .u32 1, .int .u16 2, .int .u16 3, .int .i64 (p : Int), .int .i64 (N : Int), .slice A8 244 c8] 45)).heap.size := (World.size_alloc ..).symm
      clear O8 x8 Y9 Y P7 X7 J7
      go_upto_region 18 with (fail)
      generalize w8.alloc (.cells #[.int .i64 1, .int .u32 1, .int .u16 2, .int .u16 3, .int .i64 (p : Int), .int .i64 (N : Int), .slice A8 244 c8] 45) = w9 at *
      generalize w8.heap.size = gq at *
      have Bx := Blk.new w9 45 #[.int .i64 1, .int .u32 1, .int .u16 2, .int .u16 3, .int .i64 (p : Int), .int .i64 (N : Int), .slice A8 244 c8]
      have Y := (Ext.refl Non w9).alloc (.cells #[.int .i64 1, .int .u32 1, .int .u16 2, .int .u16 3, .int .i64 (p : Int), .int .i64 (N : Int), .slice A8 244 c8] 45)
      have O10 := O9.extN Y
      have P10 := P9.extN Y
      have X10 := X9.transN Y
      have J10 := J9.extN Y
      have Bq10 := Bq.extN_ Y
      have hsz10 : w9.heap.size + 1 = (w9.alloc (.cells #[.int .i64 1, .int .u32 1, .int .u16 2, .int .u16 3, .int .i64 (p : Int), .int .i64 (N : Int), .slice A8 244 c8] 45)).heap.size := (World.size_alloc ..).symm
      obtain ⟨a0, a1, a2, a3, a4, a5, a6⟩ := pc_cellsR Bq
      clear O9 P9 X9 J9 Y
      go_upto_region 19 with (fail)
      clear a0 a1 a2 a3 a4 a5 a6 Bq
      generalize w9.alloc (.cells #[.int .i64 1, .int .u32 1, .int .u16 2, .int .u16 3, .int .i64 (p : Int), .int .i64 (N : Int), .slice A8 244 c8] 45) = w10 at *
      generalize w9.heap.size = gx at *
      have O11 : OwB (w10.alloc (.cells #[] 5)) w10.heap.size (some ⟨w10.heap.size, 0, none⟩) 0 [] := World.ownsRow_made w10 #[] 0 (Nat.le_refl _) (by simp [maxLen]) rfl
      have Y := (Ext.refl Non w10).alloc (.cells #[] 5)
      have hs11 : w10.heap.size ≤ (w10.alloc (.cells #[] 5)).heap.size := Y.size
      have Bq11 := Bq10.extN_ Y
      have Bx11 := Bx.extN_ Y
      have P11 := P10.extN Y
      have X11 := X10.transN Y
      have J11 := J10.extN Y
      have Q11 := O10.extN Y
      have R11 := Q11.rd
      obtain ⟨_, _, _, _, _, _, a6⟩ := pc_cellsR Bq11
      clear Bq10 Bx P10 X10 J10 Y
      go_wp2_with (at_builtin; refine wp_ap8 rfl (.tmp 115) (.tmp 117) rfl 0 rfl O11 rfl 244 c8 rfl R11 hq (by simp; omega) hs11 ?_; intro A12 c12 w12 o12 x12 hob12; have Bx12 := Bx11.ext x12 (fun h => by have h : w10.heap.size = gx := Option.some.inj h; omega); have bc : w12.cell? ⟨gx, 6, none⟩ = some (.slice A8 244 c8) := Bx12.cell 6; have bf := Bx12.frozen 6)
      clear bc bf a6
      rw [List.nil_append] at o12
      have hgx : gx < w10.heap.size := by omega
      have n12 : ∀ b, b < w10.heap.size → ¬ (ob (some (⟨w10.heap.size, 0, none⟩ : Addr)) = some b) := fun b hb h => by have h : w10.heap.size = b := Option.some.inj h; omega
      have P12 := P11.ext x12 (fun b hb => n12 b (by have := hA3 b hb; omega))
      have J12 := J11.ext x12 (fun b hb => n12 b (by have := (hD7 b hb).2; omega))
      have Q12 := Q11.ext x12 (fun b hb => n12 b (by have := lo8 b hb; omega))
      have Bq12 := Bq11.ext x12 (n12 gq (by omega))
      have X12 := X11.trans x12 (fun b hb h => by have h : w10.heap.size = b := Option.some.inj h; omega)
      have hs12 := x12.size
      have lo12 : ∀ b, ob A12 = some b → w10.heap.size ≤ b := fun b hb => (o12.lt hb).1
      have l12 := o12.len
      clear P11 J11 Bq11 X11 O11 R11 Bx11 O10 Q11 x12 hob12 n12
      have Bx13 := Bx12.set_ 6 (.slice A12 244 c12)
      have Y := (Ext.refl (One gx) w12).setCell (p := ⟨gx, 6, none⟩) (.inr rfl) (.slice A12 244 c12)
      have P13 := P12.ext Y (fun b hb h => by have h : b = gx := h; have := hA3 b hb; omega)
      have J13 := J12.ext Y (fun b hb h => by have h : b = gx := h; have := (hD7 b hb).2; omega)
      have Q13 := Q12.ext Y (fun b hb h => by have h : b = gx := h; have := lo8 b hb; omega)
      have Bq13 := Bq12.ext Y (fun h => by have h : gq = gx := h; omega)
      have o13 := o12.ext Y (fun b hb h => by have h : b = gx := h; have := lo12 b hb; omega)
      have X13 := X12.trans Y (fun b hb h => by have h : b = gx := h; omega)
      have hs13 := Y.size
      clear P12 J12 Q12 Bq12 o12 X12 Bx12 Y
      generalize w12.setCell ⟨gx, 6, none⟩ (.slice A12 244 c12) = w13 at *
      simp only [List.setIfInBounds_toArray, List.set_cons_succ, List.set_cons_zero] at Bx13
      obtain ⟨jx, hjx⟩ : ∃ jx, m2 % 244 = jx := ⟨_, rfl⟩
      have hj244 : jx < 244 := by omega
      have ejx : (m2 : Int).tmod 244 = (jx : Int) := by rw [← hjx]; rfl
      have ejx' : (m2 : Int) % 244 = (jx : Int) := by omega
      have wi : IntKind.i64.wrap (jx : Int) = (jx : Int) := by rw [IntKind.wrap_i64]; omega
      have wm : IntKind.i64.wrap (m2 : Int) = (m2 : Int) := by rw [IntKind.wrap_i64]; omega
      have ii : (jx : Int) < 244 := by omega
      obtain ⟨x, hx⟩ : ∃ x, (pce m p).getD jx 0 = x := ⟨_, rfl⟩
      have hne := set_xor_ne (pce m p) (j := jx) (by omega) x bb hx hb0
      obtain ⟨y, hy⟩ : ∃ y, x ^^^ bb = y := ⟨_, rfl⟩
      have ex : bits .xor .u8 (x.toNat : Int) (bb.toNat : Int) = (y.toNat : Int) := by rw [u8_xor3, hy]
      have gxx : (bvs (pce m p))[jx]? = some (.int .u8 (x.toNat : Int)) := by rw [← hx]; simp [bvs, bv, List.getD, show jx < (pce m p).length from by omega]
      obtain ⟨hA, cx⟩ := o13.rd.ix gxx
      obtain ⟨_, ⟨u, hc14⟩, hf14, o14, x14⟩ := o13.set_ (j := jx) (by omega) y _ rfl
      rw [hy] at hne
      have b6 : w13.cell? ⟨gx, 6, none⟩ = some (.slice A12 244 c12) := Bx13.cell 6
      have HNE := Lib.hid hne
      have HO := Lib.hid o14
      have HX := Lib.hid x14
      have HQ := Lib.hid hq
      clear hne o14 x14 hx hy hq hjx gxx
      refine wp_region_tail 21 (by kernel_rfl) (by kernel_rfl) ?_
      simp only [List.take_succ_cons, List.take_zero, List.drop_succ_cons, List.drop_zero]
      repeat still_step
      refine wpStill_nil ?_
      go_upto_region 21 with (fail)
      have Y := HX.out.drew
      have o15 := HO.out.drew
      have hne := HNE.out
      have hq := HQ.out
      clear hA cx hc14 hf14 b6 HX HO HNE HQ
      have hs15 := Y.size
      have P15 := P13.ext Y (fun b hb h => by have := hA3 b hb; have := lo12 b h; omega)
      have J15 := J13.ext Y (fun b hb h => by have := (hD7 b hb).2; have := lo12 b h; omega)
      have Q15 := Q13.ext Y (fun b hb h => by have := lo8 b hb; have := lo12 b h; omega)
      have Bq15 := Bq13.ext Y (fun h => by have := lo12 _ h; omega)
      have Bx15 := Bx13.ext Y (fun h => by have := lo12 _ h; omega)
      have X15 := X13.trans Y (fun b hb h => by have := lo12 _ h; omega)
      clear P13 J13 Q13 Bq13 Bx13 X13 Y o13
      generalize (w13.setCell ((A12.getD default).add jx) (.int .u8 (y.toNat : Int))).drew = w15 at *
      have l15 : ((pce m p).set jx y).length = 244 := by rw [List.length_set]; exact hq
      obtain ⟨a0, a1, a2, a3, a4, a5, a6⟩ := pc_cellsR Bx15
      go_wp2_with fail
      clear a0 a1 a2 a3 a4 a5 a6
      have htk2 := sp_form (m := m) (i := i) (k := p) hm4 hN hpi hl' ((pce m p).set jx y) l15 (N : Int) (.inl ⟨rfl, hne⟩)
      have ctr := take_none J15 1 1 2 3 (p : Int) (N : Int) ((pce m p).set jx y) 3 htk2 rfl rfl rfl rfl A12 c12 244 l15 o15.rd (by omega) (by simp only [maxLen]; omega)
      with_reducible refine Calls.mono ctr ?_
      clear ctr
      rintro e w16 ⟨D16, rfl, J16, hD16, x16⟩
      have X16 := X15.trans x16 (fun b hb hd => by
        have := (hD7 _ hd).1
        omega)
      have P16 := P15.ext x16 (fun b hb hd => by
        have := hA3 b hb
        have := (hD7 _ hd).1
        omega)
      have Q16 := Q15.ext x16 (fun b hb h => by have := (hD7 _ h).2; have := lo8 _ hb; omega)
      have Bq16 := Bq15.ext x16 (fun h => by have := (hD7 _ h).2; omega)
      have Bx16 := Bx15.ext x16 (fun h => by have := (hD7 _ h).2; omega)
      have hD16' : ∀ b, D16 b → bs ≤ b ∧ b < w16.heap.size ∧ b ≠ gx ∧ b ≠ gq := fun b h => by
        have h2 := (hD16 _ h).2
        rcases (hD16 _ h).1 with h | h
        · have := hD7 _ h
          omega
        · have := Bx15.lt
          have := Bq15.lt
          omega
      have hs16 := x16.size
      have Y := (Ext.refl Non w16).alloc (.cells #[.int .u32 0, .int .u16 0, .int .u16 0, .slice none 0 0] 55)
      have J17 := J16.extN Y
      have X17 := X16.transN Y
      have P17 := P16.extN Y
      have Q17 := Q16.extN Y
      have Bq17 := Bq16.extN_ Y
      have Bx17 := Bx16.extN_ Y
      have hs17 : (w16.alloc (.cells #[.int .u32 0, .int .u16 0, .int .u16 0, .slice none 0 0] 55)).heap.size = w16.heap.size + 1 := World.size_alloc ..
      clear x16 hD16 J15 X15 P15 Bq15 Bx15 o15 Y J16 X16 P16 Q15 Q16 Bq16 Bx16 htk2 hne l15
      go_upto_region 22 with (fail)
      generalize w16.alloc (.cells #[.int .u32 0, .int .u16 0, .int .u16 0, .slice none 0 0] 55) = w17 at *
      obtain ⟨a0, a1, a2, a3, a4, a5, a6⟩ := pc_cellsR Bq17
      have st := Bx17.big_store (P := Try.prog) (ty := 45) (cs' := #[.int .i64 1, .int .u32 1, .int .u16 2, .int .u16 3, .int .i64 (p : Int), .int .i64 (N : Int), .slice A8 244 c8]) rfl (by kernel_rfl) (by simp [Value.oneCell'])
      go_upto_region 23 with (fail)
      clear st a0 a1 a2 a3 a4 a5 a6
      have hD17 : ∀ b, D16 b → bs ≤ b ∧ b < w17.heap.size ∧ b ≠ gx ∧ b ≠ gq := fun b h => by have := hD16' b h; omega
      have Y := (Ext.refl (One gx) w17).setRow (g := gx) (.inr rfl) #[.int .i64 1, .int .u32 1, .int .u16 2, .int .u16 3, .int .i64 (p : Int), .int .i64 (N : Int), .slice A8 244 c8]
      have J18 := J17.ext Y (fun b hb h => by have h : b = gx := h; have := hD17 b hb; omega)
      have P18 := P17.ext Y (fun b hb h => by have h : b = gx := h; have := hA3 b hb; omega)
      have Q18 := Q17.ext Y (fun b hb h => by have h : b = gx := h; have := lo8 b hb; omega)
      have X18 := X17.trans Y (fun b hb h => by have h : b = gx := h; omega)
      have Bx18 := Bx17.setRow #[.int .i64 1, .int .u32 1, .int .u16 2, .int .u16 3, .int .i64 (p : Int), .int .i64 (N : Int), .slice A8 244 c8]
      have hs18 := Y.size
      clear J17 P17 Q17 X17 Bx17 Bq17 Y hD16'
      generalize w17.setRow gx #[.int .i64 1, .int .u32 1, .int .u16 2, .int .u16 3, .int .i64 (p : Int), .int .i64 (N : Int), .slice A8 244 c8] = w18 at *
      have bc : w18.cell? ⟨gx, 5, none⟩ = some (.int .i64 (N : Int)) := Bx18.cell 5
      have bf := Bx18.frozen 5
      go_upto_region 24 with (fail)
      clear bc bf
      have Y := (Ext.refl (One gx) w18).setCell (p := ⟨gx, 5, none⟩) (.inr rfl) (.int .i64 17)
      have J19 := J18.ext Y (fun b hb h => by have h : b = gx := h; have := hD17 b hb; omega)
      have P19 := P18.ext Y (fun b hb h => by have h : b = gx := h; have := hA3 b hb; omega)
      have Q19 := Q18.ext Y (fun b hb h => by have h : b = gx := h; have := lo8 b hb; omega)
      have X19 := X18.trans Y (fun b hb h => by have h : b = gx := h; omega)
      have Bx19 := Bx18.set_ 5 (.int .i64 17)
      simp only [List.setIfInBounds_toArray, List.set_cons_succ, List.set_cons_zero] at Bx19
      have hs19 := Y.size
      clear J18 P18 Q18 X18 Bx18 Y
      generalize w18.setCell ⟨gx, 5, none⟩ (.int .i64 17) = w19 at *
      obtain ⟨a0, a1, a2, a3, a4, a5, a6⟩ := pc_cellsR Bx19
      go_wp2_with fail
      clear a0 a1 a2 a3 a4 a5 a6
      obtain ⟨e, htk3, he⟩ : ∃ e, jtake (sp m (i + 1)) ⟨1, 1, 2, 3, (p : Int), 17, pce m p⟩ = (sp m (i + 1), e, none) ∧ ((e = 3 ∧ ((N : Int) == 17) = false) ∨ (e = 7 ∧ ((N : Int) == 17) = true)) := by
        by_cases h17 : N = 17
        · have := sp_again (m := m) (i := i) hm4 hN hpi hl'
          rw [h17] at this
          exact ⟨7, this, .inr ⟨rfl, by rw [h17]; rfl⟩⟩
        · exact ⟨3, sp_form hm4 hN hpi hl' (pce m p) hq 17 (.inr ⟨rfl, h17⟩), .inl ⟨rfl, beq_eq_false_iff_ne.2 (by omega)⟩⟩
      have ctr := take_none J19 1 1 2 3 (p : Int) 17 (pce m p) e htk3 rfl rfl rfl rfl A8 c8 244 hq Q19.rd (by omega) (by simp only [maxLen]; omega)
      with_reducible refine Calls.mono ctr ?_
      clear ctr
      rintro e w20 ⟨D20, rfl, J20, hD20, x20⟩
      have X20 := X19.trans x20 (fun b hb hd => by
        have := (hD17 _ hd).1
        omega)
      have P20 := P19.ext x20 (fun b hb hd => by
        have := hA3 b hb
        have := (hD17 _ hd).1
        omega)
      have hD20' : ∀ b, D20 b → bs ≤ b ∧ b < w20.heap.size := fun b h => by
        have h2 := (hD20 _ h).2
        rcases (hD20 _ h).1 with h | h
        · have := hD17 _ h
          omega
        · omega
      have hs20 := x20.size
      have Y := (Ext.refl Non w20).alloc (.cells #[.int .u32 0, .int .u16 0, .int .u16 0, .slice none 0 0] 55)
      have J21 := J20.extN Y
      have X21 := X20.transN Y
      have P21 := P20.extN Y
      have hs21 : (w20.alloc (.cells #[.int .u32 0, .int .u16 0, .int .u16 0, .slice none 0 0] 55)).heap.size = w20.heap.size + 1 := World.size_alloc ..
      clear x20 hD20 J19 X19 P19 Q19 Bx19 Y J20 X20 P20 htk3
      have hb21 : bs ≤ w20.heap.size + 1 := by omega
      clear hs11 hs12 hs13 hs15 hs16 hs17 hs18 hs19 hs20 hsz hsz10 hgq hgx l12 lo12 lo8 hq9 hD17 hD7
      go_upto_region 25 with (fail)
      generalize w20.alloc (.cells #[.int .u32 0, .int .u16 0, .int .u16 0, .slice none 0 0] 55) = w21 at *
      go_cut [177] (fun s wc => s = .bool false ∧ w21 = wc)
      case first =>
        rcases he with ⟨rfl, he⟩ | ⟨rfl, he⟩
        · have he' : ¬ (N : Int) = 17 := by simpa using he
          go_wp2_with fail
          go_meet
          case rel => exact ⟨rfl, rfl⟩
        · obtain rfl : N = 17 := by
            have : (N : Int) = 17 := by simpa using he
            omega
          go_wp2_with fail
          go_meet
          case rel => exact ⟨rfl, rfl⟩
      case rest =>
        obtain ⟨rfl, rfl⟩ := hcut
        clear he
        go_wp2_with fail
        exact ⟨⟨i + 1, D20, by omega, by go_num, P21, X21, J21, fun b h => ⟨(hD20' b h).1, by have := (hD20' b h).2; omega⟩, by omega⟩, by simp [intOf]; omega⟩
end Go.Proofs.Ytcdpmedmhindaaa
