/- Contracts of package piece: messages split. -/
import Derived.Test.YtcdpmedmhindaaaPieS
import Derived.Test.YtcdpmedmhindaaaPieO
namespace Go.Proofs.Ytcdpmedmhindaaa
open Go.RowKit

/-- A message's pieces, as bytes. -/
def pcbs (id fr bx : Nat) (m : List UInt8) (k : Nat) : List (List UInt8) := (List.range k).map fun i => pcb (mpc id fr bx m i)
theorem pcbs_succ (id fr bx : Nat) (m : List UInt8) (k : Nat) : pcbs id fr bx m (k + 1) = pcbs id fr bx m k ++ [pcb (mpc id fr bx m k)] := by simp [pcbs, List.range_succ]
theorem pcbs_len (id fr bx : Nat) (m : List UInt8) (k : Nat) : (pcbs id fr bx m k).length = k := by simp [pcbs]
theorem pcbs_get (id fr bx : Nat) (m : List UInt8) (k i : Nat) (h : i < (pcbs id fr bx m k).length) : (pcbs id fr bx m k)[i] = pcb (mpc id fr bx m i) := by simp [pcbs]

theorem Rd.mid {w : World} {D : Nat → Prop} {A : Option Addr} {xs : List Value} (h : Rd w D A xs) (k n : Nat) : Rd w D (A.map (·.add k)) ((xs.drop k).take n) := by
  rcases h with rfl | ⟨a, rfl, hd, hc⟩
  · simp [Rd]
  · refine .inr ⟨a.add k, rfl, by rw [block_of_add]; exact hd, fun j u hu => ?_⟩
    rw [add_of_add]
    rw [List.getElem?_take] at hu
    split at hu
    · rw [List.getElem?_drop] at hu
      exact hc _ _ hu
    · cases hu
/-- The slices of which pieces are made; they lie below b0. -/
structure Cuts (w : World) (b0 : Nat) (A : Option Addr) (m : List UInt8) (ps : List Part) : Prop where
  len : ps.length = cnt m
  row : Rd w (· < b0) A (ps.map Part.val)
  each : ∀ i (h : i < ps.length), ps[i].l = pce m i ∧ Rd w (· < b0) ps[i].a (bvs (pce m i)) ∧ (pce m i).length ≤ ps[i].c
theorem Cuts.ext {S : Nat → Prop} {w w' : World} {b0 : Nat} {A : Option Addr} {m : List UInt8} {ps : List Part} (h : Cuts w b0 A m ps) (x : Ext S w w') (hS : ∀ k, k < b0 → ¬ S k) : Cuts w' b0 A m ps :=
  ⟨h.len, h.row.ext x hS, fun i hi => ⟨(h.each i hi).1, (h.each i hi).2.1.ext x hS, (h.each i hi).2.2⟩⟩
theorem Cuts.extN {w w' : World} {b0 : Nat} {A : Option Addr} {m : List UInt8} {ps : List Part} (h : Cuts w b0 A m ps) (x : Ext Non w w') : Cuts w' b0 A m ps := h.ext x (fun _ _ h => h)
theorem pce_bvs (m : List UInt8) (i : Nat) : bvs (pce m i) = ((bvs m).drop (244 * i)).take 244 := by simp [pce, bvs]
set_option maxRecDepth 100000 in
set_option maxHeartbeats 2000000 in
theorem split_calls {w : World} {D : Nat → Prop} {A : Option Addr} {m : List UInt8} (c n id fr bx : Nat) (hr : Rd w D A (bvs m)) (hD : ∀ k, D k → k < w.heap.size) (hn : m.length = n) (hm : m.length ≤ 4096) (hmc : m.length ≤ c) (hcm : c ≤ maxLen)
    (hid : id < 4294967296) (hfr : fr < 65536) (hbx : bx < 65536) :
    Calls Try.prog 17 #[.int .u32 id, .int .u16 fr, .int .u16 bx, .slice A n c] w fun e w' =>
      ∃ A' c', e = .returned (.tuple #[.slice A' (cnt m) c', .int .i64 0]) ∧ OwA w' w.heap.size A' c' (pcbs id fr bx m (cnt m)) ∧ Ext Non w w' := by
  obtain ⟨k1, k2, k3, k4⟩ := cnt_facts m hm
  have hlen := hn
  subst hn
  have i1 : ¬ (4096 < (m.length : Int)) := by omega
  go_enter Try.func17, Try.ntmps17
  go_wp2_with fail
  have ctr := chunk_calls w A m.length c
  with_reducible refine Calls.mono ctr ?_
  clear ctr
  rintro e w1 ⟨rfl, hw1⟩
  have X1 : Ext Non w w1 := by rw [hw1]; exact ((Ext.refl _ _).alloc _).alloc _
  have hB1 : w1.cell? ⟨w.heap.size, 0, none⟩ = some (.slice A m.length c) := by
    rw [hw1]
    exact ((Blk.new w 24 #[.slice A m.length c]).alloc _).cell 0
  have hB2 : w1.cell? ⟨w.heap.size + 1, 0, none⟩ = some (.int .i64 244) := by
    rw [hw1]
    have := (Blk.new (w.alloc (.cells #[.slice A m.length c] 24)) 3 #[.int .i64 244]).cell 0
    rwa [World.size_alloc] at this
  have hs1 : w1.heap.size = w.heap.size + 2 := by rw [hw1, World.size_alloc, World.size_alloc]
  clear hw1
  have R1 := hr.extN X1
  go_wp2_with fail
  have ctr := collect_calls c m.length R1 rfl (by omega) hmc hcm w.heap.size (w.heap.size + 1) (by omega) (by omega) hB1 hB2
  with_reducible refine Calls.mono ctr ?_
  clear ctr
  rintro e w2 ⟨A', c', rfl, O2, x2⟩
  clear hB1 hB2
  have X2 := X1.transN x2
  have R2 := R1.extN x2
  obtain ⟨q, hq⟩ : ∃ q, nch m = q := ⟨_, rfl⟩
  rw [hq] at O2
  have HQ := Lib.hid hq
  simp only [hq]
  clear hq
  go_upto_if 24 with (fail)
  go_cut [10] from 25 (fun s10 wc => ∃ (A2 : Option Addr) (c2 : Nat) (ps : List Part), s10 = .slice A2 (cnt m) c2 ∧ Cuts wc wc.heap.size A2 m ps ∧ Ext Non w wc)
  case first =>
    have hnc : q = (m.length + 243) / 244 := HQ.out ▸ rfl
    have hcc : cnt m = max q 1 := HQ.out ▸ rfl
    by_cases h0 : q = 0
    · have hm0 : m = [] := List.eq_nil_of_length_eq_zero (by omega)
      have hc1 : cnt m = 1 := by rw [hcc, h0]; rfl
      have hc1' := Lib.hid hc1
      have C3 : Cuts (w2.alloc (.cells #[.slice none 0 0] 24)) (w2.alloc (.cells #[.slice none 0 0] 24)).heap.size (some ⟨w2.heap.size, 0, none⟩) m [⟨none, 0, []⟩] := by
        refine ⟨hc1.symm, ?_, fun i hi => ?_⟩
        · have := Rd.of_blk (D := (· < (w2.alloc (.cells #[.slice none 0 0] 24)).heap.size)) (Blk.new w2 24 #[.slice none 0 0]) (by rw [World.size_alloc]; omega) 0 1
          exact this
        · have hi0 : i = 0 := by simp at hi; exact hi
          subst hi0
          rw [hm0]
          exact ⟨rfl, .inl rfl, Nat.le_refl _⟩
      have X3 := X2.alloc (.cells #[.slice none 0 0] 24)
      clear hc1 hcc hnc O2 HQ
      subst h0
      go_wp2_with fail
      go_meet
      case rel => exact ⟨_, _, _, by rw [hc1'.out], C3, X3⟩
    · have hc1 : cnt m = q := by rw [hcc]; omega
      have i2 : ¬ (q : Int) = 0 := by omega
      have C3 : Cuts w2 w2.heap.size A' m (chks A m q) := by
        refine ⟨by rw [chks_len, hc1], (O2.rd).imp (fun k hk _ => hk), fun i hi => ?_⟩
        rw [chks_len] at hi
        have e : (chks A m q)[i]'(by rw [chks_len]; exact hi) = chk A m i := by simp [chks]
        rw [e]
        refine ⟨rfl, ?_, Nat.le_refl _⟩
        rw [pce_bvs]
        exact (R2.mid (244 * i) 244).imp (fun k hk _ => hk)
      have hc1' := Lib.hid hc1
      clear hc1 hcc hnc O2 HQ
      go_wp2_with fail
      go_meet
      case rel => exact ⟨_, _, _, by rw [hc1'.out], C3, X2⟩
  case rest =>
    obtain ⟨A2, c2, ps, rfl, C, X⟩ := hcut
    have hb0 : w.heap.size ≤ wc.heap.size := X.size
    obtain ⟨b0, hwb⟩ : ∃ b, b = wc.heap.size := ⟨_, rfl⟩
    rw [← hwb] at C hb0
    have hbb : b0 ≤ wc.heap.size := Nat.le_of_eq hwb
    clear hwb
    clear O2 X2 x2 R1 R2 X1 hs1 HQ
    go_upto_region 7 with (fail)
    go_wp2_with fail
    go_loopw [11, 28] (fun l i wr => ∃ (k : Nat) (A3 : Option Addr) (c3 : Nat), k ≤ cnt m ∧ i = .int .i64 k ∧ l = .slice A3 k c3 ∧ OwA wr b0 A3 c3 (pcbs id fr bx m k) ∧ Cuts wr b0 A2 m ps ∧ Ext Non w wr ∧ b0 ≤ wr.heap.size) (fun _ i _ => cnt m - (intOf i).toNat)
    case atStart => exact ⟨0, none, 0, Nat.zero_le _, rfl, rfl, OwA.nil _ _, C, X, hbb⟩
    case round =>
      clear C X
      obtain ⟨k, A3, c3, hk, rfl, rfl, O, C, X, hb⟩ := hrel
      have hsc := pcbs_succ id fr bx m k
      have hpl := pcbs_len id fr bx m k
      have HSC := Lib.hid hsc
      by_cases hkn : k < cnt m
      · have hkp : k < ps.length := by rw [C.len]; exact hkn
        have hval : (ps.map Part.val)[k]? = some (Part.val ps[k]) := by rw [List.getElem?_map, List.getElem?_eq_getElem hkp]; rfl
        obtain ⟨hl, hrk, hck⟩ := C.each k hkp
        obtain ⟨hA2, hcell⟩ := C.row.ix hval
        have hrt := mpc_rt id fr bx hm hkn
        have hb1 := pencb_rt hrt
        have hb2 := pence_rt hrt
        have h256 := prt_len hrt
        have hmb : (mpc id fr bx m k).b.length ≤ maxLen := by
          have := (prt_facts hrt).2.2.2
          simp only [maxLen]
          omega
        have ctr := bytes_calls wr (mpc id fr bx m k) (mpc_ok hid hfr hbx m k) ps[k].a ps[k].c hrk hmb
        have hv : Part.val ps[k] = .slice ps[k].a (pce m k).length ps[k].c := by rw [← hl]; rfl
        rw [hv] at hcell
        rw [hb1, hb2] at ctr
        generalize ps[k] = pk at *
        have i3 : (k : Int) < (cnt m : Int) := by omega
        clear hsc hval hl hb1 hb2 hv hr hD
        have Y0 := (C.extN (Ext.refl Non wr))
        unfold pcA mpc at ctr
        have ne2 : ba (pcb (mpc id fr bx m k)) ≠ #[] := row_ne (n := 255) (by rw [ba_size, h256])
        unfold mpc at ne2 h256
        go_wp2_with fail
        with_reducible refine Calls.mono ctr ?_
        clear ctr
        rintro e w3 ⟨rfl, x3⟩
        have st := store_b w3 h256
        have C3 := (C.extN x3).extN ((Ext.refl Non w3).alloc (.cells (ba (pcb (mpc id fr bx m k))) 35))
        have X3 := (X.transN x3).alloc (.cells (ba (pcb (mpc id fr bx m k))) 35)
        have O3 := (O.extN x3).extN ((Ext.refl Non w3).alloc (.cells (ba (pcb (mpc id fr bx m k))) 35))
        have ld := load_ba (Blk.new w3 35 (ba (pcb (mpc id fr bx m k)))) h256
        have hw3 : b0 ≤ w3.heap.size := Nat.le_trans hb x3.size
        have bb := build_b (w3.alloc (.cells (ba (pcb (mpc id fr bx m k))) 35)) h256
        clear O C X x3 hrk hcell Y0
        have C4 := C3.extN ((Ext.refl Non _).alloc (.cells (ba (pcb (mpc id fr bx m k))) 35))
        have X4 := X3.alloc (.cells (ba (pcb (mpc id fr bx m k))) 35)
        have O4 := O3.extN ((Ext.refl Non _).alloc (.cells (ba (pcb (mpc id fr bx m k))) 35))
        have B4 := Blk.new (w3.alloc (.cells (ba (pcb (mpc id fr bx m k))) 35)) 35 (ba (pcb (mpc id fr bx m k)))
        have hs4 : b0 ≤ ((w3.alloc (.cells (ba (pcb (mpc id fr bx m k))) 35)).alloc (.cells (ba (pcb (mpc id fr bx m k))) 35)).heap.size := by rw [World.size_alloc, World.size_alloc]; omega
        clear C3 X3 O3
        unfold mpc at st C4 X4 O4 B4 hs4 ld bb
        go_wp2_with fail
        rw [World.size_alloc] at B4
        obtain ⟨A5, c5, w5, hrun, o5, x5, hob5⟩ := run_apA 26 O4 h256 B4 1 k hpl (by omega) hs4
        refine op_app (.tmp 48) (.tmp 50) rfl rfl rfl hrun ?_
        have X5 := X4.trans x5 (fun i hi h => by
          have := (O4.lt h).1
          omega)
        have C5 := C4.ext x5 (fun i hi h => by
          have := (O4.lt h).1
          omega)
        have hb5 : b0 ≤ w5.heap.size := Nat.le_trans hs4 x5.size
        have e5 := HSC.out
        unfold mpc at e5
        rw [← e5] at o5
        clear X4 C4 O4 B4 x5 hob5 st ld bb hs4 hrun e5
        go_wp2_with fail
        exact ⟨⟨k + 1, A5, c5, by omega, by go_num, rfl, o5, C5, X5, hb5⟩, by simp [intOf]; omega⟩
      · obtain rfl : k = cnt m := by omega
        go_wp2_with fail
        go_ret2
        exact ⟨A3, c3, rfl, O.lower (fun i hi => Nat.le_trans hb0 (O.lt hi).1), X⟩
end Go.Proofs.Ytcdpmedmhindaaa
