/- The document's answer for the sum: its Sum hands back the bytes of the plain sum. -/
import Derived.Test.YtbhplepbccgecaaDoorRef03
import Derived.Test.YtbhplepbccgecaaDoorTxt
import Derived.Test.YtbhplepbccgecaaDoorOwV
import Derived.Test.YtbhplepbccgecaaDoorSeqP
namespace Go.Proofs.YtbhplepbccgecaaDoor
open Go.RowKit

theorem u32info : (Tryd.prog.info? 29).map (fun i => (i.zero, i.size, i.bytes)) = some (some (.int .u32 0), 1, 4) := by kernel_rfl
/-- A slice of uint32 of the call's own. -/
def OwU (w : World) (base : Nat) (A : Option Addr) (c : Nat) (l : List UInt32) : Prop := OwV 29 w base A c (l.map v32)
theorem v32_one (l : List UInt32) : ∀ u ∈ l.map v32, u.oneCell' = true := by
  intro u hu
  rw [List.mem_map] at hu
  obtain ⟨x, _, rfl⟩ := hu
  rfl
theorem sched_zero (l : List UInt8) : sched l 0 = [] := List.eq_nil_of_length_eq_zero (sched_len l 0)
theorem sched_succ (l : List UInt8) (i : Nat) : sched l (i + 1) = sched l i ++ [schedN l i (sched l i)] := by rw [sched]
theorem schedN_ge (l : List UInt8) (i : Nat) (w : List UInt32) (h : 16 ≤ i) : schedN l i w = sg1 (w.getD (i - 2) 0) + w.getD (i - 7) 0 + sg0 (w.getD (i - 15) 0) + w.getD (i - 16) 0 := by
  unfold schedN
  rw [if_neg (by omega)]
theorem sg0_def (x : UInt32) : sg0 x = rotr x 7 ^^^ rotr x 18 ^^^ x >>> 3 := rfl
theorem sg1_def (x : UInt32) : sg1 x = rotr x 17 ^^^ rotr x 19 ^^^ x >>> 10 := rfl
theorem v32_get (l : List UInt32) (i : Nat) (hi : i < l.length) (x : UInt32) (hx : l.getD i 0 = x) : (l.map v32)[i]? = some (.int .u32 (un x : Int)) := by
  rw [List.getElem?_map, List.getElem?_eq_getElem hi, ← hx, List.getD_eq_getElem?_getD, List.getElem?_eq_getElem hi]
  rfl
theorem Ext.allocD (w : World) (o : Obj) : Ext Non w.drew (w.alloc o).drew := (Ext.refl Non w.drew).alloc o
theorem Rd.drew' {w : World} {D : Nat → Prop} {A : Option Addr} {xs : List Value} (h : Rd w D A xs) : Rd w.drew D A xs := h
/-- A cell of such a slice. -/
theorem OwU.at_ {w : World} {base : Nat} {A : Option Addr} {c : Nat} {l : List UInt32} (h : OwU w base A c l) (i : Nat) (hi : i < l.length) (x : UInt32) (hx : l.getD i 0 = x) :
    A.isSome = true ∧ w.cell? ((A.getD default).add i) = some (.int .u32 (un x : Int)) :=
  (OwV.rd h).ix (by rw [List.getElem?_map, List.getElem?_eq_getElem hi, ← hx, List.getD_eq_getElem?_getD, List.getElem?_eq_getElem hi]; rfl)
theorem zeros_snoc (j : Nat) : zeros j ++ [0] = zeros (j + 1) := by unfold zeros; rw [List.replicate_succ']
def szOf : Value → Nat
  | .string b => b.size
  | _ => 0
theorem padz (n : Nat) : (n + 1 + (119 - n % 64) % 64) % 64 = 56 := by omega
theorem padz' (n j : Nat) (h : j < (119 - n % 64) % 64) : (n + 1 + j) % 64 ≠ 56 := by omega

@[go_sem] theorem u32_not_sub (x : UInt32) : IntKind.u32.wrap (4294967295 - (un x : Int)) = (un (~~~x) : Int) := by
  unfold un
  have h : (~~~x).toNat = 4294967295 - x.toNat := by
    rw [← UInt32.toNat_toBitVec, UInt32.toBitVec_not, BitVec.toNat_not]
    rfl
  have := x.toNat_lt
  rw [h, IntKind.wrap_u32]
  omega
theorem W_def (l : List UInt8) (j : Nat) : W l j = (sched l 64).getD j 0 := by with_unfolding_all rfl
@[go_sem] theorem un_wrap (x : UInt32) : IntKind.u32.wrap (un x : Int) = (un x : Int) := by
  have := un_lt x
  rw [IntKind.wrap_u32]
  omega
set_option maxRecDepth 100000 in
set_option maxHeartbeats 40000000 in
theorem rsum_calls (w : World) (l : List UInt8) (hl : l.length ≤ 1000000000) :
    Calls Tryd.prog 13 #[.string (str l)] w fun e w' => e = .returned (.string (str (sha l))) ∧ Ext Non w w' := by
  obtain ⟨n, hn⟩ : ∃ n, l.length = n := ⟨_, rfl⟩
  obtain ⟨Z, hZ⟩ : ∃ Z, (119 - n % 64) % 64 = Z := ⟨_, rfl⟩
  have hZ1 := padz n
  have hZ2 := padz' n
  rw [hZ] at hZ1 hZ2
  have HZ := Lib.hid hZ
  have HZ2 := Lib.hid hZ2
  have hZ3 : Z < 64 := by omega
  clear hZ hZ2
  obtain ⟨hs1, hs2, hs3, hs4, hmax⟩ := sum_facts (l := l) (m := [128]) (r := l ++ [128]) rfl n 1 hn rfl (by omega)
  have hs3' : str l ++ { data := #[128] } = str (l ++ [128]) := hs3
  clear hs3
  go_enter Tryd.func13, Tryd.ntmps13
  go_wp2_with fail
  clear hs1 hs2 hs3' hs4 hmax
  go_loopw [0] (fun s wr => ∃ j : Nat, j ≤ Z ∧ s = .string (str (l ++ 128 :: zeros j)) ∧ w = wr) (fun s _ => n + 1 + Z - szOf s)
  case atStart => exact ⟨0, by omega, rfl, rfl⟩
  case round =>
    obtain ⟨j, hj, rfl, rfl⟩ := hrel
    have hlen : (l ++ 128 :: zeros j).length = n + 1 + j := by simp [zeros_length, hn]; omega
    have hcat : l ++ 128 :: zeros j ++ [0] = l ++ 128 :: zeros (j + 1) := by rw [← zeros_snoc]; simp
    by_cases hjZ : j < Z
    · have := HZ2.out j hjZ
      obtain ⟨hs1, hs2, hs3, hs4, hmax⟩ := sum_facts hcat (n + 1 + j) 1 hlen rfl (by omega)
      have hs3' : str (l ++ 128 :: zeros j) ++ { data := #[0] } = str (l ++ 128 :: zeros (j + 1)) := hs3
      have i1 : ¬ (((n + 1 + j : Nat) : Int) % 64 = 56) := by omega
      clear hs3
      go_wp2_with fail
      exact ⟨⟨j + 1, by omega, rfl, trivial⟩, by simp only [szOf, hs1, hs4]; omega⟩
    · obtain rfl : j = Z := by omega
      have hs1 : (str (l ++ 128 :: zeros j)).size = n + 1 + j := by rw [str_size, hlen]
      have i1 : (((n + 1 + j : Nat) : Int) % 64 = 56) := by omega
      clear hcat
      go_wp2_with fail
      have ctr : Calls Tryd.prog 21 #[.int .u64 ((n : Int) * 8), .int .i64 8] w fun e w' => e = .returned (.string (str (be 8 (n * 8)))) ∧ Ext Non w w' := by
        have := text_calls w (n * 8) (by omega) 8 (by decide)
        rw [show ((n * 8 : Nat) : Int) = (n : Int) * 8 from by omega] at this
        exact this
      with_reducible refine Calls.mono ctr ?_
      clear ctr
      rintro e w1 ⟨rfl, x1⟩
      have hp : l ++ 128 :: zeros j ++ be 8 (n * 8) = pad l := by rw [pad_def, hn, HZ.out, Nat.mul_comm]; simp
      have hpl := pad_len l
      rw [hn, HZ.out] at hpl
      obtain ⟨hp1, hp2⟩ := hpl
      obtain ⟨P, hP⟩ : ∃ P, pad l = P := ⟨_, rfl⟩
      rw [hP] at hp hp1 hp2
      have HP := Lib.hid hP
      obtain ⟨ht1, ht2, ht3, ht4, hmax⟩ := sum_facts hp (n + 1 + j) 8 hlen (be_length _ _) (by omega)
      clear hp hP i1 hs1
      have O1 : OwU (w1.alloc (.cells #[] 29)) w.heap.size (some ⟨w1.heap.size, 0, none⟩) 0 (H0.take 0) := OwV.made w1 x1.size
      have X1 : Ext Non w (w1.alloc (.cells #[] 29)) := x1.alloc _
      clear x1
      go_wp2_with fail
      clear ht1 ht2 ht3 hmax
      go_loopw [4, 5] (fun h i wr => ∃ (q : Nat) (A : Option Addr) (c : Nat), q ≤ 8 ∧ h = .slice A q c ∧ i = .int .i64 q ∧ OwU wr w.heap.size A c (H0.take q) ∧ Ext Non w wr) (fun _ i _ => 8 - (intOf i).toNat)
      case atStart => exact ⟨0, _, 0, by omega, rfl, rfl, O1, X1⟩
      case round =>
        clear O1 X1
        obtain ⟨q, A, c, hq, rfl, rfl, o, X⟩ := hrel
        have hoA : ∀ k, ob A = some k → w.heap.size ≤ k := fun k hk => (OwV.lt o hk).1
        have hql : ((H0.take q).map v32).length = q := by rw [List.length_map, List.length_take]; show min q 8 = q; omega
        by_cases hq8 : q < 8
        · have i2 : (q : Int) < 8 := by omega
          have hlast : H0.take (q + 1) = H0.take q ++ [H0.getD q 0] := by
            have hlt : q < H0.length := hq8
            rw [List.take_succ_eq_append_getElem hlt, List.getD_eq_getElem?_getD, List.getElem?_eq_getElem hlt]
            rfl
          go_wp2_with fail
          have ctr := refH_calls wr q hq8
          with_reducible refine Calls.mono ctr ?_
          clear ctr
          rintro e w2 ⟨rfl, x2⟩
          generalize H0.getD q 0 = v at *
          have hd : Rd (w2.alloc (.cells #[.int .u32 (un v : Int)] 29)) (· < w2.heap.size + 1) (some ⟨w2.heap.size, 0, none⟩) [v32 v] := rd_new w2 29 [v32 v]
          have o2 := (OwV.extN o x2).alloc (.cells #[.int .u32 (un v : Int)] 29)
          have X2 : Ext Non w (w2.alloc (.cells #[.int .u32 (un v : Int)] 29)) := (X.transN x2).alloc _
          have hb := X2.size
          clear o X x2
          go_wp2_with (at_builtin; refine wp_apV Tryd.underlying48 u32info rfl (by decide) rfl (.tmp 42) (.tmp 45) rfl q rfl o2 hql 1 1 rfl hd (by simp [v32, Value.oneCell']) rfl (by rw [hql]; simp; omega) hb ?_; intro A' c' w3 o3 x3 hob)
          refine ⟨⟨q + 1, A', c', by omega, rfl, by go_num, ?_, X2.trans x3 (fun i hi h => by have := hoA i h; omega)⟩, by simp [intOf]; omega⟩
          unfold OwU
          rw [hlast, List.map_append]
          exact o3
        · obtain rfl : q = 8 := by omega
          rw [show ((8 : Nat) : Int) = (8 : Int) from rfl]
          rw [show H0.take 8 = H0 from rfl] at o
          obtain ⟨m, hm⟩ : ∃ m, P.length = 64 * m := ⟨P.length / 64, by omega⟩
          have hmb : 64 * m ≤ 1000000200 := by omega
          obtain ⟨M, hM⟩ : ∃ M, 64 * m = M := ⟨_, rfl⟩
          have hsz : (str P).size = M := by rw [str_size, hm, hM]
          have HMM := Lib.hid hM
          have HM := Lib.hid hm
          clear hp1 hp2 hm ht4 hlen hZ1 hM
          go_wp2_with fail
          go_loopw [6] (fun a wr => ∃ k : Nat, k ≤ m ∧ a = .int .i64 ((64 * k : Nat) : Int) ∧ OwU wr w.heap.size A c (hk P k) ∧ Ext Non w wr) (fun a _ => 64 * m - (intOf a).toNat)
          case atStart => exact ⟨0, by omega, rfl, by rw [hk_zero]; exact o, X⟩
          case round =>
            clear o X
            obtain ⟨k, hkm, rfl, o, X⟩ := hrel
            by_cases hlt : k < m
            · have i1 : ((64 * k : Nat) : Int) < (M : Int) := by have := HMM.out; omega
              have O7 : OwU (wr.alloc (.cells #[] 29)) wr.heap.size (some ⟨wr.heap.size, 0, none⟩) 0 [] := OwV.made wr (Nat.le_refl _)
              have oh := OwV.alloc o (.cells #[] 29)
              have X7 : Ext Non w (wr.alloc (.cells #[] 29)) := X.alloc _
              have hA : ∀ i, ob A = some i → w.heap.size ≤ i ∧ i < wr.heap.size := fun i hi => OwV.lt o hi
              have hb7 := X.size
              obtain ⟨a0, ha0⟩ : ∃ a0, 64 * k = a0 := ⟨_, rfl⟩
              obtain ⟨B, hB⟩ : ∃ B, (P.drop (64 * k)).take 64 = B := ⟨_, rfl⟩
              have hBl : B.length = 64 := by rw [← hB, List.length_take, List.length_drop, HM.out]; omega
              have hch : ∀ i, i < 16 → (str P).extract (a0 + 4 * i) (a0 + 4 * i + 4) = str ((B.drop (4 * i)).take 4) := fun i hi => by
                rw [str_extract, List.drop_take, ← hB, ← ha0, List.drop_take, List.drop_drop, List.take_take]
                congr 2
                omega
              have HB := Lib.hid hB
              have HCH := Lib.hid hch
              rw [ha0] at i1 ⊢
              clear hB hch
              go_wp2_with fail
              have hb8 : wr.heap.size ≤ (wr.alloc (.cells #[] 29)).heap.size := by rw [World.size_alloc]; omega
              generalize wr.heap.size = b7 at *
              go_loopw [7, 8] (fun v i wr2 => ∃ (q : Nat) (A7 : Option Addr) (c7 : Nat), q ≤ 16 ∧ v = .slice A7 q c7 ∧ i = .int .i64 q ∧ OwU wr2 b7 A7 c7 (sched B q) ∧ OwU wr2 w.heap.size A c (hk P k) ∧ Ext Non w wr2 ∧ b7 ≤ wr2.heap.size) (fun _ i _ => 16 - (intOf i).toNat)
              case atStart => exact ⟨0, _, 0, by omega, rfl, rfl, by rw [sched_zero]; exact O7, oh, X7, hb8⟩
              case round =>
                clear O7 oh X7
                obtain ⟨q, A7, c7, hq, rfl, rfl, o7, oh, X, hbx⟩ := hrel
                have hA7 : ∀ i, ob A7 = some i → b7 ≤ i := fun i hi => (OwV.lt o7 hi).1
                have hql : ((sched B q).map v32).length = q := by rw [List.length_map, sched_len]
                by_cases hq16 : q < 16
                · clear_value *
                  as_aux_lemma =>
                  have i2 : (q : Int) < 16 := by omega
                  have i3 : (a0 : Int) + 4 * (q : Int) + 4 ≤ (M : Int) := by have := HMM.out; omega
                  have hx := HCH.out q hq16
                  obtain ⟨ch, hc⟩ : ∃ ch, (B.drop (4 * q)).take 4 = ch := ⟨_, rfl⟩
                  rw [hc] at hx
                  have hcl : ch.length = 4 := by rw [← hc]; simp; omega
                  have hwd : IntKind.u32.wrap (num ch : Int) = (un (word B q) : Int) := by
                    unfold word un
                    rw [hc, IntKind.wrap_u32, UInt32.toNat_ofNat']
                    omega
                  have HC := Lib.hid hc
                  clear hc
                  go_wp2_with fail
                  have ctr := number_calls wr ch (by omega)
                  with_reducible refine Calls.mono ctr ?_
                  clear ctr
                  rintro e w2 ⟨rfl, rfl⟩
                  have hst : sched B (q + 1) = sched B q ++ [word B q] := by rw [sched_succ]; unfold schedN; rw [if_pos hq16]
                  generalize word B q = v at *
                  have HST := Lib.hid hst
                  have hd : Rd (wr.alloc (.cells #[.int .u32 (un v : Int)] 29)) (· < wr.heap.size + 1) (some ⟨wr.heap.size, 0, none⟩) [v32 v] := rd_new wr 29 [v32 v]
                  have o8 := OwV.alloc o7 (.cells #[.int .u32 (un v : Int)] 29)
                  have oh8 := OwV.alloc oh (.cells #[.int .u32 (un v : Int)] 29)
                  have X8 : Ext Non w (wr.alloc (.cells #[.int .u32 (un v : Int)] 29)) := X.alloc _
                  have hbw : b7 ≤ (wr.alloc (.cells #[.int .u32 (un v : Int)] 29)).heap.size := by rw [World.size_alloc]; have := hbx; omega
                  clear o7 oh X hst
                  go_wp2_with (at_builtin; refine wp_apV Tryd.underlying48 u32info rfl (by decide) rfl (.tmp 58) (.tmp 72) rfl q rfl o8 hql 1 1 rfl hd (by simp [v32, Value.oneCell']) rfl (by rw [hql]; simp; omega) hbw ?_; intro A' c' w3 o3 x3 hob)
                  refine ⟨⟨q + 1, A', c', by omega, rfl, by go_num, ?_, OwV.ext oh8 x3 (fun i hi h => ?_), X8.trans x3 (fun i hi h => ?_), ?_⟩, by simp [intOf]; omega⟩
                  · unfold OwU
                    rw [HST.out, List.map_append]
                    exact o3
                  · have := hA7 i h; have := hA i hi; omega
                  · have := hA7 i h; omega
                  · exact Nat.le_trans hbw x3.size
                · obtain rfl : 16 = q := by omega
                  rw [show ((16 : Nat) : Int) = (16 : Int) from rfl]
                  go_wp2_with fail
                  go_loopw [7, 9] (fun v i wr2 => ∃ (q : Nat) (A7 : Option Addr) (c7 : Nat), 16 ≤ q ∧ q ≤ 64 ∧ v = .slice A7 q c7 ∧ i = .int .i64 q ∧ OwU wr2 b7 A7 c7 (sched B q) ∧ OwU wr2 w.heap.size A c (hk P k) ∧ Ext Non w wr2 ∧ b7 ≤ wr2.heap.size) (fun _ i _ => 64 - (intOf i).toNat)
                  case atStart => exact ⟨16, _, _, by omega, by omega, rfl, rfl, o7, oh, X, hbx⟩
                  case round =>
                    clear o7 oh X hbx hA7 hql
                    obtain ⟨q, A7, cp, hq1, hq, rfl, rfl, o7, oh, X, hbx⟩ := hrel
                    have hA7 : ∀ i, ob A7 = some i → b7 ≤ i := fun i hi => (OwV.lt o7 hi).1
                    have hsl := sched_len B q
                    have hql : ((sched B q).map v32).length = q := by rw [List.length_map, hsl]
                    by_cases hq64 : q < 64
                    · clear_value *
                      as_aux_lemma =>
                      have i2 : (q : Int) < 64 := by omega
                      have hst := sched_succ B q
                      have hn := schedN_ge B q (sched B q) hq1
                      obtain ⟨j15, hj15⟩ : ∃ j, q - 15 = j := ⟨_, rfl⟩
                      obtain ⟨j2, hj2⟩ : ∃ j, q - 2 = j := ⟨_, rfl⟩
                      obtain ⟨j7, hj7⟩ : ∃ j, q - 7 = j := ⟨_, rfl⟩
                      obtain ⟨j16, hj16⟩ : ∃ j, q - 16 = j := ⟨_, rfl⟩
                      rw [hj15, hj2, hj7, hj16] at hn
                      obtain ⟨x, hx⟩ : ∃ x, (sched B q).getD j15 0 = x := ⟨_, rfl⟩
                      obtain ⟨y, hy⟩ : ∃ y, (sched B q).getD j2 0 = y := ⟨_, rfl⟩
                      obtain ⟨s7, h7⟩ : ∃ y, (sched B q).getD j7 0 = y := ⟨_, rfl⟩
                      obtain ⟨s16, h16⟩ : ∃ y, (sched B q).getD j16 0 = y := ⟨_, rfl⟩
                      rw [hx, hy, h7, h16, sg0_def, sg1_def] at hn
                      rw [hn] at hst
                      obtain ⟨hS, c15⟩ := o7.at_ j15 (by omega) x hx
                      have c2 := (o7.at_ j2 (by omega) y hy).2
                      have c7 := (o7.at_ j7 (by omega) s7 h7).2
                      have c16 := (o7.at_ j16 (by omega) s16 h16).2
                      have i15 : (q : Int) - 15 = (j15 : Int) := by omega
                      have i2' : (q : Int) - 2 = (j2 : Int) := by omega
                      have i7 : (q : Int) - 7 = (j7 : Int) := by omega
                      have i16 : (q : Int) - 16 = (j16 : Int) := by omega
                      have g15 : (j15 : Int) < (q : Int) := by omega
                      have g2 : (j2 : Int) < (q : Int) := by omega
                      have g7 : (j7 : Int) < (q : Int) := by omega
                      have g16 : (j16 : Int) < (q : Int) := by omega
                      have HST := Lib.hid hst
                      have H7 := Lib.hid (v32_get _ j7 (by omega) s7 h7)
                      have H16 := Lib.hid (v32_get _ j16 (by omega) s16 h16)
                      clear hj15 hj2 hj7 hj16 hx hy h7 h16 hn hst hq1
                      go_wp2_with fail
                      have v7 : IntKind.i64.wrap (j7 : Int) = (j7 : Int) := by rw [IntKind.wrap_i64]; omega
                      have v16 : IntKind.i64.wrap (j16 : Int) = (j16 : Int) := by rw [IntKind.wrap_i64]; omega
                      have e7 := H7.out
                      have e16 := H16.out
                      have o7d : OwU wr.drew b7 A7 cp (sched B q) := OwV.drew o7
                      have ohd : OwU wr.drew w.heap.size A c (hk P k) := OwV.drew oh
                      have X' := X.drew
                      clear o7 oh X
                      refine wp_region_seqP (Keep A7 ((sched B q).map v32) wr) ((0, true) :: (1, true) :: (3, true) :: (6, true) :: (7, true) :: (9, true) :: (10, true) :: (11, true) :: (12, true) :: (13, true) :: (15, true) :: (17, true) :: (20, true) :: (21, true) :: (24, true) :: (25, true) :: (26, true) :: (27, true) :: (28, true) :: (2, false) :: (4, false) :: (5, true) :: (8, true) :: (14, true) :: (16, false) :: (18, false) :: (19, true) :: (22, true) :: (23, true) :: (29, true) :: (30, false) :: (31, false) :: (32, true) :: []) (by kernel_rfl) (by kernel_rfl) (by kernel_rfl) (Keep.start o7d) ?_
                      iterate 19 (refine wpSeqP_quiet rfl rfl ?_; apply Exists.intro; refine ⟨?_, ?_⟩; (intro W hW; have d7 := hW.2 _ _ e7; have d16 := hW.2 _ _ e16; go_simp; try with_reducible rfl); (intro K hK; simp only [Act.put, List.setIfInBounds_toArray, List.set_cons_zero, List.set_cons_succ]; refine hK _ ?_; clear hK K))
                      have hK0 : Keep A7 ((sched B q).map v32) wr wr.drew := Keep.start o7d
                      refine wpSeqP_call rfl rfl (fun K hK => ?_)
                      go_simp
                      have ctr := turn17_calls wr.drew y
                      with_reducible refine Calls.mono ctr ?_
                      clear ctr
                      rintro e w2 ⟨rfl, x2⟩
                      go_simp
                      refine hK _ _ (hK0.ext x2) ?_
                      clear hK K
                      refine wpSeqP_call rfl rfl (fun K hK => ?_)
                      go_simp
                      have ctr := turn19_calls w2 y
                      with_reducible refine Calls.mono ctr ?_
                      clear ctr
                      rintro e w3 ⟨rfl, x3⟩
                      go_simp
                      refine hK _ _ (hK0.ext (x2.transN x3)) ?_
                      clear hK K
                      have x23 := x2.transN x3
                      clear x2 x3
                      iterate 3 (refine wpSeqP_quiet rfl rfl ?_; apply Exists.intro; refine ⟨?_, ?_⟩; (intro W hW; go_simp; try with_reducible rfl); (intro K hK; simp only [Act.put, List.setIfInBounds_toArray, List.set_cons_zero, List.set_cons_succ]; refine hK _ ?_; clear hK K))
                      refine wpSeqP_call rfl rfl (fun K hK => ?_)
                      go_simp
                      have ctr := turn7_calls w3 x
                      with_reducible refine Calls.mono ctr ?_
                      clear ctr
                      rintro e w4 ⟨rfl, x4⟩
                      go_simp
                      refine hK _ _ (hK0.ext (x23.transN x4)) ?_
                      clear hK K
                      refine wpSeqP_call rfl rfl (fun K hK => ?_)
                      go_simp
                      have ctr := turn18_calls w4 x
                      with_reducible refine Calls.mono ctr ?_
                      clear ctr
                      rintro e w5 ⟨rfl, x5⟩
                      go_simp
                      refine hK _ _ (hK0.ext ((x23.transN x4).transN x5)) ?_
                      clear hK K
                      have x25 := (x23.transN x4).transN x5
                      clear x23 x4 x5
                      iterate 4 (refine wpSeqP_quiet rfl rfl ?_; apply Exists.intro; refine ⟨?_, ?_⟩; (intro W hW; go_simp; try with_reducible rfl); (intro K hK; simp only [Act.put, List.setIfInBounds_toArray, List.set_cons_zero, List.set_cons_succ]; refine hK _ ?_; clear hK K))
                      have o5 := OwV.extN o7d x25
                      have oh5 := OwV.extN ohd x25
                      have X5 := X'.transN x25
                      have hst := HST.out
                      have hb5 : b7 ≤ w5.heap.size := Nat.le_trans hbx x25.size
                      generalize (rotr y 17 ^^^ rotr y 19 ^^^ y >>> 10) + s7 + (rotr x 7 ^^^ rotr x 18 ^^^ x >>> 3) + s16 = nx at *
                      have HST := Lib.hid hst
                      clear hst o7d ohd X' e7 e16 H7 H16
                      refine wpSeqP_call rfl rfl (fun K hK => ?_)
                      go_simp
                      refine hK _ _ (hK0.ext (x25.alloc _)) ?_
                      clear hK K
                      have hd : Rd (w5.alloc (.cells #[.int .u32 (un nx : Int)] 29)) (· < w5.heap.size + 1) (some ⟨w5.heap.size, 0, none⟩) [v32 nx] := rd_new w5 29 [v32 nx]
                      have o6 := OwV.alloc o5 (.cells #[.int .u32 (un nx : Int)] 29)
                      have oh6 := OwV.alloc oh5 (.cells #[.int .u32 (un nx : Int)] 29)
                      have X6 : Ext Non w (w5.alloc (.cells #[.int .u32 (un nx : Int)] 29)) := X5.alloc _
                      have hb6 : b7 ≤ (w5.alloc (.cells #[.int .u32 (un nx : Int)] 29)).heap.size := by rw [World.size_alloc]; omega
                      obtain ⟨A', c', w6, hrun, o8, x8, hob⟩ := run_apV Tryd.underlying48 u32info rfl 48 o6 hd (by simp [v32, Value.oneCell']) 1 q 1 hql rfl (by rw [hql]; simp; omega) (by decide) hb6
                      have hkp := run_apK Tryd.underlying48 u32info 48 o6 hd (by simp [v32, Value.oneCell']) 1 q 1 hql rfl (by rw [hql]; simp; omega) (by decide) hrun
                      refine wpSeqP_call rfl rfl (fun K hK => ?_)
                      refine op_app _ _ rfl rfl rfl hrun ?_
                      simp only [Act.put, List.setIfInBounds_toArray, List.set_cons_zero, List.set_cons_succ]
                      refine hK _ _ ((hK0.ext (x25.alloc _)).app x8 hkp) ?_
                      clear hK K
                      clear hkp hrun hd hob
                      iterate 1 (refine wpSeqP_quiet rfl rfl ?_; apply Exists.intro; refine ⟨?_, ?_⟩; (intro W hW; go_simp; try with_reducible rfl); (intro K hK; simp only [Act.put, List.setIfInBounds_toArray, List.set_cons_zero, List.set_cons_succ]; refine hK _ ?_; clear hK K))
                      refine wpSeqP_end ?_
                      go_wp2_with fail
                      refine ⟨⟨q + 1, A', c', by omega, by omega, rfl, by go_num, ?_, OwV.ext oh6 x8 (fun i hi h => ?_), X6.trans x8 (fun i hi h => ?_), ?_⟩, by simp [intOf]; omega⟩
                      · unfold OwU
                        rw [HST.out, List.map_append]
                        exact o8
                      · have := hA7 i h; have := hA i hi; omega
                      · have := hA7 i h; omega
                      · exact Nat.le_trans hb6 x8.size
                    · obtain rfl : 64 = q := by omega
                      rw [show ((64 : Nat) : Int) = (64 : Int) from rfl]
                      have o2 : OwU (wr.alloc (.cells #[] 29)) (wr.heap.size) (some ⟨wr.heap.size, 0, none⟩) 0 [] := OwV.made wr (Nat.le_refl _)
                      have o7' := OwV.alloc o7 (.cells #[] 29)
                      have oh' := OwV.alloc oh (.cells #[] 29)
                      have X' : Ext Non w (wr.alloc (.cells #[] 29)) := X.alloc _
                      have hal : b7 ≤ (wr.alloc (.cells #[] 29)).heap.size := by rw [World.size_alloc]; omega
                      have haz : wr.heap.size ≤ (wr.alloc (.cells #[] 29)).heap.size := by rw [World.size_alloc]; omega
                      have hh8 : (hk P k).length = 8 := hk_len P k
                      go_wp2_with (at_builtin; refine wp_apV Tryd.underlying48 u32info rfl (by decide) rfl (.tmp 120) (.tmp 121) rfl 0 rfl o2 rfl 8 c rfl (OwV.rd oh') (v32_one _) (by rw [List.length_map]; exact hh8) (by simp [hh8]) haz ?_; intro A' c' w3 o3 x3 hob)
                      have hne : ∀ i, ob A7 = some i → ¬ (ob (some ⟨wr.heap.size, 0, none⟩) = some i) := fun i hi h => by
                        have h1 := (OwV.lt o7 hi).2
                        have : wr.heap.size = i := Option.some.inj h
                        omega
                      have hneh : ∀ i, ob A = some i → ¬ (ob (some ⟨wr.heap.size, 0, none⟩) = some i) := fun i hi h => by
                        have h1 := (OwV.lt oh hi).2
                        have : wr.heap.size = i := Option.some.inj h
                        omega
                      have R7 := OwV.rd (OwV.ext o7' x3 hne)
                      have oh3 := OwV.ext oh' x3 hneh
                      have X3 : Ext Non w w3 := X'.trans x3 (fun i hi h => by
                        have : wr.heap.size = i := Option.some.inj h
                        have := X.size
                        omega)
                      obtain ⟨g0, hg0⟩ : ∃ g, A' = some ⟨g, 0, none⟩ := by
                        obtain ⟨g, cap, hv, _⟩ := World.ownsRow.form o3 (by simp [hh8])
                        exact ⟨g, by injection hv⟩
                      subst hg0
                      have r12 : Rd w3 (fun k => wr.heap.size ≤ k) (some ⟨g0, 0, none⟩) ((rnds B (hk P k) 0).map v32) := by
                        rw [rnds_zero]
                        exact (OwV.rd o3).imp (fun k hk e => (OwV.lt o3 e).1)
                      have hoh := fun i hi => (OwV.lt oh (k := i) hi).2
                      have hb12 := X.size
                      have hbs3 : wr.heap.size ≤ w3.heap.size := Nat.le_trans haz x3.size
                      clear o7 oh X o2 o7' oh' X' hal haz x3 hob o3 hne hneh hA7 hql hsl hbx
                      generalize wr.heap.size = b12 at *
                      go_loopw [12, 13] (fun v i wr2 => ∃ (q g c12 : Nat), q ≤ 64 ∧ v = .slice (some ⟨g, 0, none⟩) 8 c12 ∧ i = .int .i64 q ∧ Rd wr2 (fun k => b12 ≤ k) (some ⟨g, 0, none⟩) ((rnds B (hk P k) q).map v32) ∧ Ext Non w3 wr2) (fun _ i _ => 64 - (intOf i).toNat)
                      case atStart => exact ⟨0, _, _, by omega, rfl, rfl, r12, Ext.refl _ _⟩
                      case round =>
                        clear r12
                        obtain ⟨q, g, c12, hq, rfl, rfl, r12, x12⟩ := hrel
                        have hl8 := rnds_len B hh8 q
                        by_cases hq64 : q < 64
                        · clear_value *
                          have i2 : (q : Int) < 64 := by omega
                          obtain ⟨v0, v1, v2, v3, v4, v5, v6, v7, hv⟩ := eight hl8
                          have hnext : rnds B (hk P k) (q + 1) = [tt v4 v5 v6 v7 (KA q) (W B q) + uu v0 v1 v2, v0, v1, v2, v3 + tt v4 v5 v6 v7 (KA q) (W B q), v4, v5, v6] := by
                            rw [rnds_succ, hv]
                            rfl
                          rw [tt_def, uu_def] at hnext
                          rw [hv] at r12
                          obtain ⟨wk, hwk⟩ : ∃ x, (sched B 64).getD q 0 = x := ⟨_, rfl⟩
                          have e7 := v32_get _ q (by rw [sched_len]; exact hq64) wk hwk
                          have hW : W B q = wk := by rw [W_def, hwk]
                          obtain ⟨kk, hkk⟩ : ∃ x, KA q = x := ⟨_, rfl⟩
                          rw [hW, hkk] at hnext
                          have HN := Lib.hid hnext
                          have ckk : ∀ W, Calls Tryd.prog 17 #[.int .i64 (q : Int)] W fun e w' => e = .returned (.int .u32 (un kk : Int)) ∧ Ext Non W w' := fun W => by rw [← hkk]; exact refK_calls W q hq64
                          have S7 : A7.isSome = true := (R7.ix e7).1
                          have cw : ∀ W, Ext Non wr W → W.cell? ⟨g, 0, none⟩ = some (.int .u32 (un v0 : Int)) ∧ W.cell? ⟨g, 1, none⟩ = some (.int .u32 (un v1 : Int)) ∧ W.cell? ⟨g, 2, none⟩ = some (.int .u32 (un v2 : Int)) ∧
                              W.cell? ⟨g, 3, none⟩ = some (.int .u32 (un v3 : Int)) ∧ W.cell? ⟨g, 4, none⟩ = some (.int .u32 (un v4 : Int)) ∧ W.cell? ⟨g, 5, none⟩ = some (.int .u32 (un v5 : Int)) ∧ W.cell? ⟨g, 6, none⟩ = some (.int .u32 (un v6 : Int)) ∧
                              W.cell? ⟨g, 7, none⟩ = some (.int .u32 (un v7 : Int)) ∧ W.cell? ((A7.getD default).add q) = some (.int .u32 (un wk : Int)) := fun W hW =>
                            have h := r12.extN hW
                            ⟨(h.ix (k := 0) rfl).2, (h.ix (k := 1) rfl).2, (h.ix (k := 2) rfl).2, (h.ix (k := 3) rfl).2, (h.ix (k := 4) rfl).2, (h.ix (k := 5) rfl).2, (h.ix (k := 6) rfl).2, (h.ix (k := 7) rfl).2, ((R7.extN (x12.transN hW)).ix e7).2⟩
                          clear hnext hl8 hv hwk hW hkk e7
                          go_upto_region 29 with (fail)
                          go_cut [14] from 123 to 236 (fun s14 wc => s14 = .int .u32 (un (v4 &&& v5 ^^^ ~~~v4 &&& v6) : Int) ∧ Ext Non wr wc)
                          case first =>
                            as_aux_lemma =>
                            refine wp_region_seq Non ((0, true) :: (1, true) :: (2, true) :: (3, true) :: (4, true) :: (5, true) :: (6, true) :: (7, true) :: (8, true) :: (9, true) :: (10, true) :: (11, true) :: (12, true) :: (13, true) :: (14, true) :: (15, true) :: (16, true) :: []) (by kernel_rfl) (by kernel_rfl) (by kernel_rfl) ?_
                            iterate 17 (refine wpSeq_quiet rfl rfl ?_; apply Exists.intro; refine ⟨?_, ?_⟩; (intro W hW; obtain ⟨d0, d1, d2, d3, d4, d5, d6, d7, dk⟩ := cw W (hW.drewL); go_simp; try with_reducible rfl); (intro K hK; simp only [Act.put, List.setIfInBounds_toArray, List.set_cons_zero, List.set_cons_succ]; refine hK _ ?_; clear hK K))
                            refine wpSeq_end ?_
                            go_wp2_with fail
                            go_meet
                            case rel => exact ⟨rfl, (Ext.refl Non wr).drew⟩
                          case rest =>
                          obtain ⟨rfl, Y⟩ := hcut
                          go_upto_region 30 with (fail)
                          go_cut [15] from 123 to 236 (fun s15 wd => s15 = .int .u32 (un (v7 + (rotr v4 6 ^^^ rotr v4 11 ^^^ rotr v4 25) + (v4 &&& v5 ^^^ ~~~v4 &&& v6) + kk + wk) : Int) ∧ Ext Non wr wd)
                          case first =>
                            as_aux_lemma =>
                            refine wp_region_seq Non ((0, true) :: (1, true) :: (2, true) :: (3, true) :: (4, true) :: (5, true) :: (7, true) :: (8, true) :: (9, true) :: (12, true) :: (13, true) :: (14, true) :: (18, true) :: (20, true) :: (23, true) :: (24, true) :: (25, true) :: (26, true) :: (6, false) :: (10, false) :: (11, true) :: (15, false) :: (16, true) :: (17, true) :: (19, true) :: (21, false) :: (22, true) :: (27, true) :: (28, true) :: []) (by kernel_rfl) (by kernel_rfl) (by kernel_rfl) ?_
                            iterate 18 (refine wpSeq_quiet rfl rfl ?_; apply Exists.intro; refine ⟨?_, ?_⟩; (intro W hW; obtain ⟨d0, d1, d2, d3, d4, d5, d6, d7, dk⟩ := cw W (Y.transN hW.drewL); go_simp; try with_reducible rfl); (intro K hK; simp only [Act.put, List.setIfInBounds_toArray, List.set_cons_zero, List.set_cons_succ]; refine hK _ ?_; clear hK K))
                            refine wpSeq_call rfl rfl (fun K hK => ?_)
                            go_simp
                            have ctr := turn6_calls wc.drew v4
                            with_reducible refine Calls.mono ctr ?_
                            clear ctr
                            rintro e w4 ⟨rfl, y4⟩
                            go_simp
                            refine hK _ _ y4 ?_
                            clear hK K
                            refine wpSeq_call rfl rfl (fun K hK => ?_)
                            go_simp
                            have ctr := turn11_calls w4 v4
                            with_reducible refine Calls.mono ctr ?_
                            clear ctr
                            rintro e w5 ⟨rfl, y5⟩
                            go_simp
                            refine hK _ _ y5 ?_
                            clear hK K
                            iterate 1 (refine wpSeq_quiet rfl rfl ?_; apply Exists.intro; refine ⟨?_, ?_⟩; (intro W hW; go_simp; try with_reducible rfl); (intro K hK; simp only [Act.put, List.setIfInBounds_toArray, List.set_cons_zero, List.set_cons_succ]; refine hK _ ?_; clear hK K))
                            refine wpSeq_call rfl rfl (fun K hK => ?_)
                            go_simp
                            have ctr := turn25_calls w5 v4
                            with_reducible refine Calls.mono ctr ?_
                            clear ctr
                            rintro e w6 ⟨rfl, y6⟩
                            go_simp
                            refine hK _ _ y6 ?_
                            clear hK K
                            iterate 3 (refine wpSeq_quiet rfl rfl ?_; apply Exists.intro; refine ⟨?_, ?_⟩; (intro W hW; go_simp; try with_reducible rfl); (intro K hK; simp only [Act.put, List.setIfInBounds_toArray, List.set_cons_zero, List.set_cons_succ]; refine hK _ ?_; clear hK K))
                            refine wpSeq_call rfl rfl (fun K hK => ?_)
                            go_simp
                            have ctr := ckk w6
                            with_reducible refine Calls.mono ctr ?_
                            clear ctr
                            rintro e w7 ⟨rfl, y7⟩
                            go_simp
                            refine hK _ _ y7 ?_
                            clear hK K
                            iterate 3 (refine wpSeq_quiet rfl rfl ?_; apply Exists.intro; refine ⟨?_, ?_⟩; (intro W hW; go_simp; try with_reducible rfl); (intro K hK; simp only [Act.put, List.setIfInBounds_toArray, List.set_cons_zero, List.set_cons_succ]; refine hK _ ?_; clear hK K))
                            refine wpSeq_end ?_
                            go_wp2_with fail
                            go_meet
                            case rel => exact ⟨rfl, (((Y.drew.transN y4).transN y5).transN y6).transN y7⟩
                          case rest =>
                          clear Y
                          obtain ⟨rfl, Y⟩ := hcut
                          go_upto_region 31 with (fail)
                          go_cut [16] from 123 to 236 (fun s16 wd => s16 = .int .u32 (un (v0 &&& v1 ^^^ v0 &&& v2 ^^^ v1 &&& v2) : Int) ∧ Ext Non wr wd)
                          case first =>
                            as_aux_lemma =>
                            refine wp_region_seq Non ((0, true) :: (1, true) :: (2, true) :: (3, true) :: (4, true) :: (5, true) :: (6, true) :: (7, true) :: (8, true) :: (9, true) :: (10, true) :: (11, true) :: (12, true) :: (13, true) :: (14, true) :: (15, true) :: (16, true) :: (17, true) :: (18, true) :: (19, true) :: (20, true) :: (21, true) :: (22, true) :: (23, true) :: []) (by kernel_rfl) (by kernel_rfl) (by kernel_rfl) ?_
                            iterate 24 (refine wpSeq_quiet rfl rfl ?_; apply Exists.intro; refine ⟨?_, ?_⟩; (intro W hW; obtain ⟨d0, d1, d2, d3, d4, d5, d6, d7, dk⟩ := cw W (Y.transN hW.drewL); go_simp; try with_reducible rfl); (intro K hK; simp only [Act.put, List.setIfInBounds_toArray, List.set_cons_zero, List.set_cons_succ]; refine hK _ ?_; clear hK K))
                            refine wpSeq_end ?_
                            go_wp2_with fail
                            go_meet
                            case rel => exact ⟨rfl, Y.drew⟩
                          case rest =>
                          clear Y
                          obtain ⟨rfl, Y⟩ := hcut
                          go_upto_region 32 with (fail)
                          go_cut [17] from 123 to 236 (fun s17 wd => s17 = .int .u32 (un ((rotr v0 2 ^^^ rotr v0 13 ^^^ rotr v0 22) + (v0 &&& v1 ^^^ v0 &&& v2 ^^^ v1 &&& v2)) : Int) ∧ Ext Non wr wd)
                          case first =>
                            as_aux_lemma =>
                            refine wp_region_seq Non ((0, true) :: (1, true) :: (2, true) :: (4, true) :: (5, true) :: (6, true) :: (9, true) :: (10, true) :: (11, true) :: (14, true) :: (3, false) :: (7, false) :: (8, true) :: (12, false) :: (13, true) :: (15, true) :: (16, true) :: []) (by kernel_rfl) (by kernel_rfl) (by kernel_rfl) ?_
                            iterate 10 (refine wpSeq_quiet rfl rfl ?_; apply Exists.intro; refine ⟨?_, ?_⟩; (intro W hW; obtain ⟨d0, d1, d2, d3, d4, d5, d6, d7, dk⟩ := cw W (Y.transN hW.drewL); go_simp; try with_reducible rfl); (intro K hK; simp only [Act.put, List.setIfInBounds_toArray, List.set_cons_zero, List.set_cons_succ]; refine hK _ ?_; clear hK K))
                            refine wpSeq_call rfl rfl (fun K hK => ?_)
                            go_simp
                            have ctr := turn2_calls wc.drew v0
                            with_reducible refine Calls.mono ctr ?_
                            clear ctr
                            rintro e w4 ⟨rfl, y4⟩
                            go_simp
                            refine hK _ _ y4 ?_
                            clear hK K
                            refine wpSeq_call rfl rfl (fun K hK => ?_)
                            go_simp
                            have ctr := turn13_calls w4 v0
                            with_reducible refine Calls.mono ctr ?_
                            clear ctr
                            rintro e w5 ⟨rfl, y5⟩
                            go_simp
                            refine hK _ _ y5 ?_
                            clear hK K
                            iterate 1 (refine wpSeq_quiet rfl rfl ?_; apply Exists.intro; refine ⟨?_, ?_⟩; (intro W hW; go_simp; try with_reducible rfl); (intro K hK; simp only [Act.put, List.setIfInBounds_toArray, List.set_cons_zero, List.set_cons_succ]; refine hK _ ?_; clear hK K))
                            refine wpSeq_call rfl rfl (fun K hK => ?_)
                            go_simp
                            have ctr := turn22_calls w5 v0
                            with_reducible refine Calls.mono ctr ?_
                            clear ctr
                            rintro e w6 ⟨rfl, y6⟩
                            go_simp
                            refine hK _ _ y6 ?_
                            clear hK K
                            iterate 3 (refine wpSeq_quiet rfl rfl ?_; apply Exists.intro; refine ⟨?_, ?_⟩; (intro W hW; go_simp; try with_reducible rfl); (intro K hK; simp only [Act.put, List.setIfInBounds_toArray, List.set_cons_zero, List.set_cons_succ]; refine hK _ ?_; clear hK K))
                            refine wpSeq_end ?_
                            go_wp2_with fail
                            go_meet
                            case rel => exact ⟨rfl, ((Y.drew.transN y4).transN y5).transN y6⟩
                          case rest =>
                          clear Y
                          obtain ⟨rfl, Y2⟩ := hcut
                          go_wp2_with fail
                          obtain ⟨d0, d1, d2, d3, d4, d5, d6, d7, dk⟩ := cw wc Y2
                          refine wp_region_tail 26 (by kernel_rfl) (by kernel_rfl) ?_
                          simp only [List.take_succ_cons, List.take_zero, List.drop_succ_cons, List.drop_zero]
                          repeat still_step
                          refine wpStill_nil ?_
                          clear d0 d1 d2 d3 d4 d5 d6 d7 dk
                          have B6 := Blk.new wc 29 (([v7 + (rotr v4 6 ^^^ rotr v4 11 ^^^ rotr v4 25) + (v4 &&& v5 ^^^ ~~~v4 &&& v6) + kk + wk + ((rotr v0 2 ^^^ rotr v0 13 ^^^ rotr v0 22) + (v0 &&& v1 ^^^ v0 &&& v2 ^^^ v1 &&& v2)), v0, v1, v2, v3 + (v7 + (rotr v4 6 ^^^ rotr v4 11 ^^^ rotr v4 25) + (v4 &&& v5 ^^^ ~~~v4 &&& v6) + kk + wk), v4, v5, v6].map v32).toArray)
                          have hsz := Nat.le_trans (x12.transN Y2).size (Nat.le_refl _)
                          have r6 := Rd.of_blk (D := fun k => b12 ≤ k) B6 (by show b12 ≤ wc.heap.size; omega) 0 8
                          have X6 : Ext Non w3 (wc.alloc (.cells (([v7 + (rotr v4 6 ^^^ rotr v4 11 ^^^ rotr v4 25) + (v4 &&& v5 ^^^ ~~~v4 &&& v6) + kk + wk + ((rotr v0 2 ^^^ rotr v0 13 ^^^ rotr v0 22) + (v0 &&& v1 ^^^ v0 &&& v2 ^^^ v1 &&& v2)), v0, v1, v2, v3 + (v7 + (rotr v4 6 ^^^ rotr v4 11 ^^^ rotr v4 25) + (v4 &&& v5 ^^^ ~~~v4 &&& v6) + kk + wk), v4, v5, v6].map v32).toArray) 29)) := (x12.transN Y2).alloc _
                          have HR := Lib.hid r6
                          have HX := Lib.hid X6
                          clear r6 X6 B6 cw
                          go_wp2_with fail
                          refine ⟨⟨q + 1, wc.heap.size, 8, by omega, rfl, by go_num, ?_, HX.out.drew⟩, by simp [intOf]; omega⟩
                          rw [HN.out]
                          exact HR.out.drew'
                        · obtain rfl : 64 = q := by omega
                          rw [show ((64 : Nat) : Int) = (64 : Int) from rfl]
                          obtain ⟨V, hV⟩ : ∃ V, rnds B (hk P k) 64 = V := ⟨_, rfl⟩
                          rw [hV] at r12
                          have hcomp : hk P (k + 1) = addv (hk P k) V := by rw [hk_succ, HB.out, comp_def, hV]
                          have hV8 : V.length = 8 := by rw [← hV]; exact rnds_len B hh8 64
                          have HC := Lib.hid hcomp
                          have oh := OwV.extN oh3 x12
                          have X := X3.transN x12
                          clear oh3 X3 hcomp hV x12 R7
                          go_wp2_with fail
                          obtain ⟨ga, hga⟩ : ∃ g, A = some ⟨g, 0, none⟩ := by
                            obtain ⟨g, cap, hv, _⟩ := World.ownsRow.form oh (by simp [hh8])
                            exact ⟨g, by injection hv⟩
                          subst hga
                          have hgb : ga < b12 := hoh ga rfl
                          have hgw : w.heap.size ≤ ga := (OwV.lt oh (k := ga) rfl).1
                          obtain ⟨H, hH⟩ : ∃ H, hk P k = H := ⟨_, rfl⟩
                          rw [hH] at HC hh8 oh
                          clear hoh hH
                          go_loopw [18] (fun i wr2 => ∃ q : Nat, q ≤ 8 ∧ i = .int .i64 q ∧ OwU wr2 w.heap.size (some ⟨ga, 0, none⟩) c ((addv H V).take q ++ H.drop q) ∧ Rd wr2 (fun k => b12 ≤ k) (some ⟨g, 0, none⟩) (V.map v32) ∧ Ext Non w wr2) (fun i _ => 8 - (intOf i).toNat)
                          case atStart => exact ⟨0, by omega, rfl, oh, r12, X⟩
                          case round =>
                            clear oh r12 X
                            obtain ⟨q, hq, rfl, oh, r12, X⟩ := hrel
                            by_cases hlt : q < 8
                            · obtain ⟨ha, hs⟩ := addk_get hh8 hV8 hlt
                              have hl8 : ((addv H V).take q ++ H.drop q).length = 8 := by simp [addv_len hh8 hV8, hh8]; omega
                              obtain ⟨x1, hx1⟩ : ∃ x, H.getD q 0 = x := ⟨_, rfl⟩
                              obtain ⟨x2, hx2⟩ : ∃ x, V.getD q 0 = x := ⟨_, rfl⟩
                              rw [hx1] at ha hs
                              rw [hx2] at hs
                              have c1 : wr.cell? ⟨ga, q, none⟩ = some (.int .u32 (un x1 : Int)) := by
                                rw [World.ownsRow.cellAt oh q (by rw [List.length_map, hl8]; omega)]
                                exact v32_get _ q (by omega) x1 ha
                              have c2 : wr.cell? ⟨g, q, none⟩ = some (.int .u32 (un x2 : Int)) := by
                                have := (r12.ix (v32_get _ q (by omega) x2 hx2)).2
                                have e : ((some (⟨g, 0, none⟩ : Addr)).getD default).add q = ⟨g, q, none⟩ := by
                                  show (⟨g, 0, none⟩ : Addr).add q = _
                                  unfold Addr.add
                                  split <;> simp_all
                                rwa [e] at this
                              have f1 := World.ownsRow.frozenAt oh q
                              have o2 := (World.ownsRow.stored oh q (v32 (x1 + x2))).1
                              have hset : (((addv H V).take q ++ H.drop q).map v32).set q (v32 (x1 + x2)) = ((addv H V).take (q + 1) ++ H.drop (q + 1)).map v32 := by rw [← hs, List.map_set]
                              rw [hset] at o2
                              have r2 : Rd (wr.setCell ⟨ga, q, none⟩ (v32 (x1 + x2))) (fun k => b12 ≤ k) (some ⟨g, 0, none⟩) (V.map v32) := r12.ext (((Ext.refl (One ga) wr)).setCell (p := ⟨ga, q, none⟩) (.inr rfl) _) (fun k hk e => by have : k = ga := e; omega)
                              have X2 : Ext Non w (wr.setCell ⟨ga, q, none⟩ (v32 (x1 + x2))) := X.setCell (p := ⟨ga, q, none⟩) (.inl hgw) _
                              have i2 : (q : Int) < 8 := by omega
                              have HO := Lib.hid o2
                              have HR := Lib.hid r2
                              have HX := Lib.hid X2
                              have HL := Lib.hid hl8
                              clear o2 r2 X2 oh r12 X ha hs hx1 hx2 hl8 hset
                              go_wp2_with fail
                              refine wp_region_tail 12 (by kernel_rfl) (by kernel_rfl) ?_
                              simp only [List.take_succ_cons, List.take_zero, List.drop_succ_cons, List.drop_zero]
                              repeat still_step
                              refine wpStill_nil ?_
                              go_wp2_with fail
                              refine ⟨⟨q + 1, by omega, by go_num, ?_, HR.out.drew', HX.out.drew⟩, by simp [intOf]; omega⟩
                              unfold OwU OwV
                              rw [show (((addv H V).take (q + 1) ++ H.drop (q + 1)).map v32).length = (((addv H V).take q ++ H.drop q).map v32).length from by simp [addv_len hh8 hV8, hh8]; omega]
                              exact HO.out
                            · obtain rfl : q = 8 := by omega
                              rw [List.take_of_length_le (by rw [addv_len hh8 hV8]; exact Nat.le_refl _), List.drop_of_length_le (by omega), List.append_nil] at oh
                              rw [← HC.out] at oh
                              have i3 : IntKind.i64.wrap ((a0 : Int) + 64) = (a0 : Int) + 64 := by have := HMM.out; rw [IntKind.wrap_i64]; omega
                              go_wp2_with fail
                              exact ⟨⟨k + 1, by omega, by go_num, oh, X⟩, by simp [intOf]; omega⟩
            · obtain rfl : k = m := by omega
              have i1 : ¬ (((64 * k : Nat) : Int) < (M : Int)) := by have := HMM.out; omega
              obtain ⟨H, hH⟩ : ∃ H, hk P k = H := ⟨_, rfl⟩
              have hH8 : H.length = 8 := by rw [← hH]; exact hk_len P k
              have hsha : sha l = H.flatMap fun x => be 4 x.toNat := by rw [sha_def, shn_def, HP.out, HM.out, Nat.mul_div_cancel_left k (by decide), hH]
              have HS := Lib.hid hsha
              rw [hH] at o
              clear hH hsha
              go_wp2_with fail
              go_loopw [19, 20] (fun s i wr2 => ∃ q : Nat, q ≤ 8 ∧ s = .string (str ((H.take q).flatMap fun x => be 4 x.toNat)) ∧ i = .int .i64 q ∧ Ext Non wr wr2) (fun _ i _ => 8 - (intOf i).toNat)
              case atStart => exact ⟨0, by omega, rfl, rfl, Ext.refl _ _⟩
              case round =>
                obtain ⟨q, hq, rfl, rfl, x⟩ := hrel
                have o' := OwV.extN o x
                have X' := X.transN x
                clear o X
                by_cases hlt : q < 8
                · obtain ⟨y, hy⟩ : ∃ x, H.getD q 0 = x := ⟨_, rfl⟩
                  obtain ⟨S1, c1⟩ := OwU.at_ o' q (by omega) y hy
                  have hun := un_lt y
                  have hcat : ((H.take q).flatMap fun x => be 4 x.toNat) ++ be 4 (un y) = (H.take (q + 1)).flatMap fun x => be 4 x.toNat := by
                    have hlt' : q < H.length := by omega
                    rw [List.take_succ_eq_append_getElem hlt', List.flatMap_append, ← hy, List.getD_eq_getElem?_getD, List.getElem?_eq_getElem hlt']
                    simp [un]
                  have hlen : ((H.take q).flatMap fun x => be 4 x.toNat).length = 4 * q := by rw [flat4_len, List.length_take]; omega
                  generalize ((H.take q).flatMap fun x => be 4 x.toNat) = L1 at *
                  obtain ⟨hs1, hs2, hs3, hs4, hmax⟩ := sum_facts hcat (4 * q) 4 hlen (be_length _ _) (by omega)
                  have i2 : (q : Int) < 8 := by omega
                  have hq' : (q : Int) < 8 := by omega
                  clear hcat hlen hy
                  go_wp2_with fail
                  have ctr := text_calls wr (un y) (by omega) 4 (by decide)
                  with_reducible refine Calls.mono ctr ?_
                  clear ctr
                  rintro e w2 ⟨rfl, x2⟩
                  go_wp2_with fail
                  exact ⟨⟨q + 1, by omega, rfl, by go_num, x.transN x2⟩, by simp [intOf]; omega⟩
                · obtain rfl : q = 8 := by omega
                  rw [List.take_of_length_le (by omega), ← HS.out]
                  go_wp2_with fail
                  go_ret
                  exact ⟨rfl, X'⟩
end Go.Proofs.YtbhplepbccgecaaDoor
