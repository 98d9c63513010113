/- Contracts of package hmac: pads, codes. -/
import Derived.Test.YtgbaijmpfdhoeaaDoorShaL
import Derived.Test.YtgbaijmpfdhoeaaDoorSeqP
namespace Go.Proofs.YtgbaijmpfdhoeaaDoor
open Go.RowKit

/-! ### plain codes -/
theorem zeros_drop (a n : Nat) : (zeros a).drop n = zeros (a - n) := by unfold zeros; rw [List.drop_replicate]
def kpad (key : List UInt8) : List UInt8 := (if 64 < key.length then sha key else key) ++ zeros (64 - (if 64 < key.length then sha key else key).length)
theorem kpad_len (key : List UInt8) : (kpad key).length = 64 := by
  unfold kpad
  rw [List.length_append, zeros_length]
  by_cases h : 64 < key.length
  · rw [if_pos h, sha_len]
  · rw [if_neg h]; omega
def xall (l : List UInt8) (c : UInt8) : List UInt8 := l.map (· ^^^ c)
def hm (key m : List UInt8) : List UInt8 := sha (xall (kpad key) 92 ++ sha (xall (kpad key) 54 ++ m))
theorem hm_len (key m : List UInt8) : (hm key m).length = 32 := sha_len _
def xorf (l : List UInt8) (c : UInt8) (k : Nat) : List UInt8 := xall (l.take k) c ++ l.drop k
theorem xorf_zero (l : List UInt8) (c : UInt8) : xorf l c 0 = l := by simp [xorf, xall]
theorem xorf_all (l : List UInt8) (c : UInt8) {k : Nat} (h : l.length ≤ k) : xorf l c k = xall l c := by
  unfold xorf
  rw [List.take_of_length_le h, List.drop_of_length_le h, List.append_nil]
theorem xorf_len (l : List UInt8) (c : UInt8) (k : Nat) : (xorf l c k).length = l.length := by simp [xorf, xall]; omega
theorem xorf_get (l : List UInt8) (c : UInt8) {k : Nat} (h : k < l.length) : (xorf l c k).getD k 0 = l.getD k 0 ∧ (xorf l c k).set k (l.getD k 0 ^^^ c) = xorf l c (k + 1) := by
  have hk : (xall (l.take k) c).length = k := by simp [xall]; omega
  refine ⟨?_, ?_⟩
  · unfold xorf
    rw [getD_app_r _ _ _ _ (by omega), hk, Nat.sub_self]
    simp [List.getD]
  · unfold xorf
    rw [List.set_append_right _ _ (by omega), hk, Nat.sub_self]
    have e1 : l.drop k = l.getD k 0 :: l.drop (k + 1) := by
      rw [List.drop_eq_getElem_cons h]
      simp [List.getD, h]
    rw [e1, List.set_cons_zero, List.take_succ_eq_append_getElem h]
    unfold xall
    rw [List.map_append, List.append_assoc]
    congr 1
    simp [List.getD, h]
theorem u8_xor (a b : UInt8) : bits .xor .u8 (a.toNat : Int) (b.toNat : Int) = ((a ^^^ b).toNat : Int) := by
  rw [bits_xor_nat .u8 wrapn_u8 _ _ (lt8 a.toNat_lt) (lt8 b.toNat_lt), UInt8.toNat_xor]
theorem u8_or (a b : UInt8) : bits .or .u8 (a.toNat : Int) (b.toNat : Int) = ((a ||| b).toNat : Int) := by
  rw [bits_or_nat .u8 wrapn_u8 _ _ (lt8 a.toNat_lt) (lt8 b.toNat_lt), UInt8.toNat_or]

/-! ### arrays of 64 bytes -/
@[go_sem ↓] theorem big_load_p (x : Value) : Instr.loadAt 59 x = bigLoad 59 x := rfl
@[go_sem ↓] theorem big_store_p (x v : Value) : Instr.storeAt 59 x v = bigStore 59 x v := rfl
theorem p_info (cs : Array Value) (h : cs.size = 64) : (Tryd.prog.info? 59).map (·.size) = some cs.size := by rw [h]; kernel_rfl
@[go_sem ↓] theorem zero_p (w : World) : (zeroValue 59).run Tryd.prog w = .ok (.agg (zrow 64)) w :=
  (zero_of_info (P := Tryd.prog) (t := 59) (n := 64) (by kernel_rfl)).1 w
/-- copy of bytes into a row of bytes. -/
theorem copy_ba {w : World} {g : Nat} {t : TypeId} {dst m : List UInt8} (hb : Blk w g t (ba dst)) {D : Nat → Prop} {A : Option Addr} (hr : Rd w D A (bvs m)) (L n c k : Nat) (hL : dst.length = L) (hn : m.length = n) (hk : k = Nat.min n L) :
    ∃ w', (∀ ty, (Builtin.copy_ #[22, 22] ty #[.slice (some ⟨g, 0, none⟩) L L, .slice A n c]).run Tryd.prog w = .ok (.int .i64 (k : Int)) w') ∧ Blk w' g t (ba (m.take k ++ dst.drop k)) ∧ Ext (One g) w w' := by
  have hk1 : k ≤ n := by rw [hk]; exact Nat.min_le_left _ _
  have hk2 : k ≤ L := by rw [hk]; exact Nat.min_le_right _ _
  have hcl : (m.take k).length = k := by simp; omega
  rcases A with _ | a
  · have hm : m = [] := by
      rcases hr with h | ⟨a, h, _⟩
      · simpa [bvs] using h
      · cases h
    subst hm
    obtain rfl : n = 0 := by simpa using hn.symm
    obtain rfl : k = 0 := by omega
    refine ⟨w, fun ty => ?_, by simpa using hb, Ext.refl _ _⟩
    obtain ⟨i, hi, hi1⟩ := Option.map_eq_some_iff.1 s8
    simp [Builtin.copy_, run_underlying (P := Tryd.prog) Tryd.underlying22, sizeOf, typeInfo, hi]
    rfl
  · have hsrc : ∀ j v, (bvs (m.take k))[j]? = some v → w.cell? (a.add j) = some v := fun j v hv => by
      have hj : j < k := by have := (List.getElem?_eq_some_iff.1 hv).1; rw [bvs_length, hcl] at this; exact this
      have hv' : (bvs m)[j]? = some v := by
        rw [← hv]
        simp [bvs, hj]
      obtain ⟨a', e, hcell⟩ := hr.at_ hv'
      injection e with e
      subst e
      exact hcell
    have := fun ty => run_copy_row (P := Tryd.prog) w 22 22 ty 5 g 0 L L a n c _ t (bvs (m.take k)) Tryd.underlying22 s8 hb (by rw [bvs_length, hcl, hk]) hsrc (by rw [ba_size, bvs_length]; omega) (bvs_one _)
    simp only [bvs_length, hcl] at this
    refine ⟨_, this, ?_, (Ext.refl (One g) w).setRow (.inr rfl) _⟩
    have e : (List.take 0 (ba dst).toList ++ bvs (m.take k) ++ List.drop (0 + k) (ba dst).toList).toArray = ba (m.take k ++ dst.drop k) := by
      rw [show (ba dst).toList = bvs dst from rfl]
      simp [ba, bvs]
    rw [e]
    exact hb.setRow _

set_option maxRecDepth 100000 in
set_option maxHeartbeats 1000000 in
theorem with_calls (w : World) (l : List UInt8) (hl : l.length = 64) (c : UInt8) (n : Int) (hn : (c.toNat : Int) = n) :
    Calls Tryd.prog 27 #[.agg (ba l), .int .u8 n] w fun e w' => ∃ g, e = .returned (.slice (some ⟨g, 0, none⟩) 64 64) ∧ Blk w' g 59 (ba (xall l c)) ∧ w.heap.size ≤ g ∧ Ext Non w w' := by
  have n1 := row_ne (n := 63) (a := ba l) (by rw [ba_size, hl])
  have sl := fun W g => run_arr_all (P := Tryd.prog) W Tryd.underlying59 s8 g 0 (by decide)
  go_enter Tryd.func27, Tryd.ntmps27
  go_wp2_with fail
  have B0 := Blk.new w 59 (ba l)
  have X0 : Ext Non w (w.alloc (.cells (ba l) 59)) := (Ext.refl Non w).alloc _
  clear n1
  go_loopw [6] (fun i wr => ∃ k : Nat, k ≤ 64 ∧ i = .int .i64 k ∧ Blk wr w.heap.size 59 (ba (xorf l c k)) ∧ Ext Non w wr) (fun i _ => 64 - (intOf i).toNat)
  case atStart => exact ⟨0, by omega, rfl, by rw [xorf_zero]; exact B0, X0⟩
  case round =>
    clear B0 X0
    obtain ⟨k, hk, rfl, B, X⟩ := hrel
    by_cases hlt : k < 64
    · obtain ⟨hg, hs⟩ := xorf_get l c (k := k) (by omega)
      obtain ⟨a, ha⟩ : ∃ a, l.getD k 0 = a := ⟨_, rfl⟩
      obtain ⟨x, hx⟩ : ∃ x, a ^^^ c = x := ⟨_, rfl⟩
      rw [ha] at hg hs
      rw [hx] at hs
      have c1 : wr.cell? ⟨w.heap.size, k, none⟩ = some (.int .u8 (a.toNat : Int)) := by rw [B.cell, ba_get _ _ (by rw [xorf_len]; omega), hg]
      have f1 := B.frozen k
      have e1 : bits .xor .u8 (a.toNat : Int) n = (x.toNat : Int) := by rw [← hn, u8_xor, hx]
      have B2 := B.set_ k (.int .u8 (x.toNat : Int))
      rw [ba_set, hs] at B2
      have X2 : Ext Non w (wr.setCell ⟨w.heap.size, k, none⟩ (.int .u8 (x.toNat : Int))) := X.setCell (p := ⟨w.heap.size, k, none⟩) (.inl (Nat.le_refl _)) _
      have i1 : (k : Int) < 64 := by omega
      clear hg hs ha hx hn B X
      go_wp2_with fail
      exact ⟨⟨k + 1, by omega, by go_num, B2, X2⟩, by simp [intOf]; omega⟩
    · obtain rfl : k = 64 := by omega
      rw [xorf_all l c (by omega)] at B
      go_wp2_with fail
      go_ret
      exact ⟨w.heap.size, rfl, B, Nat.le_refl _, X⟩

@[go_sem] theorem store_pad (w : World) (key : List UInt8) : (bigStore 59 (.pointer (some ⟨w.heap.size, 0, none⟩)) (.agg (ba (kpad key)))).run Tryd.prog (w.alloc (.cells (zrow 64) 59)) = .ok () (w.alloc (.cells (ba (kpad key)) 59)) := by
  rw [Blk.big_store (P := Tryd.prog) (Blk.new w 59 (zrow 64)) (by rw [zrow_size, ba_size, kpad_len]) (p_info _ (by rw [ba_size, kpad_len])) (ba_all _), World.setRow_alloc_new]
theorem zrow64_ne : zrow 64 ≠ #[] := row_ne (zrow_size 64)

set_option maxRecDepth 100000 in
set_option maxHeartbeats 1000000 in
theorem padded_calls {w : World} (G : Glob w) (hw2 : 2 ≤ w.heap.size) {A : Option Addr} {key : List UInt8} (n c : Nat) (hr : Rd w (· < w.heap.size) A (bvs key)) (hn : key.length = n) (hc : n ≤ c) (hlen : n ≤ 562949953421312) :
    Calls Tryd.prog 26 #[.slice A n c] w fun e w' => e = .returned (.agg (ba (kpad key))) ∧ Ext Non w w' := by
  have n1 := zrow64_ne
  have n2 := zrow32_ne
  have sl := fun W g => run_arr_all (P := Tryd.prog) W Tryd.underlying59 s8 g 0 (by decide)
  have sl2 := fun W g => run_arr_all (P := Tryd.prog) W Tryd.underlying26 s8 g 0 (by decide)
  have B0 := Blk.new w 59 (zrow 64)
  have X0 : Ext Non w (w.alloc (.cells (zrow 64) 59)) := (Ext.refl Non w).alloc _
  have hs0 : (w.alloc (.cells (zrow 64) 59)).heap.size = w.heap.size + 1 := World.size_alloc _ _
  have hk : kpad key = (if 64 < n then sha key else key) ++ zeros (64 - (if 64 < n then sha key else key).length) := by unfold kpad; rw [hn]
  have HK := Lib.hid hk
  clear hk
  by_cases h64 : 64 < n
  · have i1 : (64 : Int) < (n : Int) := by omega
    have pA : ∀ q ∈ ([⟨A, c, key⟩] : List Part), Rd w (· < w.heap.size) q.a (bvs q.l) ∧ q.l.length ≤ q.c := fun q hq => by
      simp only [List.mem_cons, List.not_mem_nil, or_false] at hq
      subst hq
      exact ⟨hr, by show key.length ≤ c; omega⟩
    have V : Hid ((([⟨A, c, key⟩] : List Part).map Part.val).toArray = #[.slice A n c]) := by
      show _ = _
      simp [Part.val, hn]
    have E : Hid (allOf [⟨A, c, key⟩] = key) := by show _ = _; simp [allOf]
    have HN := Lib.hid hn
    have HS := Lib.hid hs0
    clear hn hs0
    go_enter Tryd.func26, Tryd.ntmps26
    go_wp2_with fail
    have ctr := sumN_calls ((Ext.refl Non w).alloc (.cells (zrow 64) 59)) G hw2 [⟨A, c, key⟩] pA 1 rfl (by rw [E.out, HN.out]; exact hlen) (by decide) #[.slice A n c] V.out (Ext.refl Non _) key E.out
    rw [World.size_alloc] at ctr
    with_reducible refine Calls.mono ctr ?_
    clear ctr
    rintro e w1 ⟨rfl, x1⟩
    have B1 := (B0.alloc (.cells #[.slice A n c] 22)).extN_ x1
    have X1 : Ext Non w w1 := (X0.alloc (.cells #[.slice A n c] 22)).transN x1
    have K1 := Blk.new w1 26 (ba (sha key))
    have B2 := B1.alloc (.cells (ba (sha key)) 26)
    have X2 : Ext Non w (w1.alloc (.cells (ba (sha key)) 26)) := X1.alloc _
    obtain ⟨w3, hcp, B3, x3⟩ := copy_ba B2 (rd_ba K1) 64 32 32 32 (zeros_length 64) (sha_len key) rfl
    have X3 : Ext Non w w3 := X2.trans x3 (fun i hi h => by have h : i = w.heap.size := h; omega)
    have e1 : (sha key).take 32 ++ (zeros 64).drop 32 = kpad key := by
      rw [HK.out, if_pos h64, sha_len, List.take_of_length_le (by rw [sha_len]; exact Nat.le_refl _)]
      congr 1
    rw [e1] at B3
    have ld := B3.big_load Tryd.underlying59 rfl (p_info _ (by rw [ba_size, kpad_len]))
    have st := B3.big_store (P := Tryd.prog) (ty := 59) (cs' := ba (kpad key)) rfl (p_info _ (by rw [ba_size, kpad_len])) (ba_all _)
    have B4 := B3.setRow (ba (kpad key))
    have X4 : Ext Non w (w3.setRow w.heap.size (ba (kpad key))) := X3.setRow (.inl (Nat.le_refl _)) _
    clear K1 B2 X2 B0 B1 X0 X1 x1 e1 HK x3
    go_wp2_with fail
    exact bodyPost_ret (B4.results Tryd.results26 _ rfl Tryd.underlying59 rfl (p_info _ (by rw [ba_size, kpad_len]))) rfl ⟨rfl, X4⟩
  · have i1 : ¬ (64 : Int) < (n : Int) := by omega
    obtain ⟨w3, hcp, B3, x3⟩ := copy_ba B0 (hr.extN X0) 64 n c n (zeros_length 64) hn (Nat.min_eq_left (show n ≤ 64 by omega)).symm
    have X3 : Ext Non w w3 := X0.trans x3 (fun i hi h => by have h : i = w.heap.size := h; omega)
    have e1 : key.take n ++ (zeros 64).drop n = kpad key := by
      rw [HK.out, if_neg h64, hn, List.take_of_length_le (by omega)]
      congr 1
      exact zeros_drop 64 n
    rw [e1] at B3
    have ld := B3.big_load Tryd.underlying59 rfl (p_info _ (by rw [ba_size, kpad_len]))
    have st := B3.big_store (P := Tryd.prog) (ty := 59) (cs' := ba (kpad key)) rfl (p_info _ (by rw [ba_size, kpad_len])) (ba_all _)
    have B4 := B3.setRow (ba (kpad key))
    have X4 : Ext Non w (w3.setRow w.heap.size (ba (kpad key))) := X3.setRow (.inl (Nat.le_refl _)) _
    clear B0 X0 e1 HK x3 hs0 hn
    go_enter Tryd.func26, Tryd.ntmps26
    go_wp2_with fail
    exact bodyPost_ret (B4.results Tryd.results26 _ rfl Tryd.underlying59 rfl (p_info _ (by rw [ba_size, kpad_len]))) rfl ⟨rfl, X4⟩

theorem load_pad {w : World} {g : Nat} {l : List UInt8} (h : Blk w g 59 (ba l)) (hl : l.length = 64) : (bigLoad 59 (.pointer (some ⟨g, 0, none⟩))).run Tryd.prog w = .ok (.agg (ba l)) w :=
  h.big_load Tryd.underlying59 rfl (p_info _ (by rw [ba_size, hl]))
theorem xall_len (l : List UInt8) (c : UInt8) : (xall l c).length = l.length := by simp [xall]
set_option maxRecDepth 100000 in
set_option maxHeartbeats 2000000 in
theorem mac_calls {w : World} (G : Glob w) (hw2 : 2 ≤ w.heap.size) {A : Option Addr} {key : List UInt8} (n c : Nat) (hr : Rd w (· < w.heap.size) A (bvs key)) (hn : key.length = n) (hc : n ≤ c) (hlen : n ≤ 562949953421312)
    {ps : List Part} {B : Option Addr} (m cap : Nat) (hP : Parts w (· < w.heap.size) B ps) (hpm : ps.length = m) (hcap : m ≤ cap) (hall : (allOf ps).length ≤ 562949953421000) (hm6 : m ≤ 4611686018427387904) :
    Calls Tryd.prog 14 #[.slice A n c, .slice B m cap] w fun e w' => e = .returned (.agg (ba (hm key (allOf ps)))) ∧ Ext Non w w' := by
  have n1 := zrow64_ne
  have n2 := zrow32_ne
  have n3 := strm0_ne
  have B1 := Blk.new w 26 (zrow 32)
  have X1 : Ext Non w (w.alloc (.cells (zrow 32) 26)) := (Ext.refl Non w).alloc _
  have hs1 := X1.size
  have hs1' : w.heap.size < (w.alloc (.cells (zrow 32) 26)).heap.size := by rw [World.size_alloc]; omega
  go_enter Tryd.func14, Tryd.ntmps14
  go_wp2_with fail
  have ctr := padded_calls (G.extN X1) (by omega) n c ((hr.extN X1).imp (fun k _ hk => Nat.lt_of_lt_of_le hk hs1)) hn hc hlen
  with_reducible refine Calls.mono ctr ?_
  clear ctr
  rintro e w2 ⟨rfl, x2⟩
  have hw2' : w.heap.size < w2.heap.size := Nat.lt_of_lt_of_le hs1' x2.size
  have B2 := (B1.extN_ x2).alloc (.cells (ba (kpad key)) 59)
  have P2 := Blk.new w2 59 (ba (kpad key))
  have X2 : Ext Non w (w2.alloc (.cells (ba (kpad key)) 59)) := (X1.transN x2).alloc _
  have S3 := strm_new (w2.alloc (.cells (ba (kpad key)) 59))
  have B3 := B2.alloc (.cells strm0 56)
  have P3 := P2.alloc (.cells strm0 56)
  have X3 : Ext Non w ((w2.alloc (.cells (ba (kpad key)) 59)).alloc (.cells strm0 56)) := X2.alloc _
  have ld := load_pad P3 (kpad_len key)
  have hs3 : ((w2.alloc (.cells (ba (kpad key)) 59)).alloc (.cells strm0 56)).heap.size = w2.heap.size + 2 := by rw [World.size_alloc, World.size_alloc]
  rw [World.size_alloc] at S3
  have HS3 := Lib.hid hs3
  clear x2 B1 B2 P2 X1 X2 hs1 hs1' hs3
  go_wp2_with fail
  generalize (w2.alloc (.cells (ba (kpad key)) 59)).alloc (.cells strm0 56) = w3 at *
  have hs3 := HS3.out
  have ctr := with_calls w3 (kpad key) (kpad_len key) 54 54 rfl
  with_reducible refine Calls.mono ctr ?_
  clear ctr
  rintro e w4 ⟨g1, rfl, D4, hg1, x4⟩
  have S4 := S3.extN x4
  have X4 := X3.transN x4
  have P4 := P3.extN_ x4
  have B4 := B3.extN_ x4
  have hx64 : (xall (kpad key) 54).length = 64 := by rw [xall_len, kpad_len]
  clear ld hs3 S3 X3 P3 B3
  go_wp2_with fail
  have ctr := write_calls S4 (G.extN X4) (by omega) 64 64 (rd_ba D4) hx64 (Nat.le_refl _) (fun h => by have := HS3.out; have h : w2.heap.size + 1 = g1 := h; omega) (by rw [hx64]; simp)
  with_reducible refine Calls.mono ctr ?_
  clear ctr
  rintro e w5 ⟨⟨u5, rfl⟩, S5, x5⟩
  rw [List.nil_append] at S5
  have X5 : Ext Non w w5 := X4.trans x5 (fun i hi h => by have h : i = w2.heap.size + 1 := h; omega)
  have P5 := P4.ext x5 (fun h => by have h : w2.heap.size = w2.heap.size + 1 := h; omega)
  have B5 := B4.ext x5 (fun h => by have h : w.heap.size = w2.heap.size + 1 := h; omega)
  have H64 := Lib.hid hx64
  clear S4 X4 P4 B4 x5 x4 D4 hx64
  go_wp2_with fail
  generalize hK0 : xall (kpad key) 54 = K0 at *
  have HK0 := Lib.hid hK0
  clear hK0
  go_loopw [17] (fun t wr => ∃ j : Nat, j ≤ m ∧ t = .int .i64 j ∧ Strm wr (w2.heap.size + 1) (K0 ++ allOf (ps.take j)) ∧ Blk wr w2.heap.size 59 (ba (kpad key)) ∧ Blk wr w.heap.size 26 (zrow 32) ∧ Ext Non w wr) (fun t _ => m - (intOf t).toNat)
  case atStart => exact ⟨0, by omega, rfl, by rw [List.take_zero, show allOf [] = [] from rfl, List.append_nil]; exact S5.strm, P5, B5, X5⟩
  case round =>
    clear S5 B5 P5 X5
    obtain ⟨j, hj, rfl, hs, hp, hb, hx⟩ := hrel
    by_cases hlt : j < m
    · have hP2 := hP.extN hx
      obtain ⟨hA, hc2⟩ := hP2.row.ix (k := j) (u := ps[j].val) (by simp [show j < ps.length from by omega])
      obtain ⟨hr2, hcl⟩ := hP2.each ps[j] (List.getElem_mem _)
      have hal := allOf_snoc ps j (by omega)
      have hle := allOf_le ps (j + 1)
      have hv : ps[j].val = .slice ps[j].a ps[j].l.length ps[j].c := rfl
      rw [hv] at hc2
      generalize ps[j] = q at *
      have hlq : (K0 ++ allOf (ps.take j)).length + q.l.length ≤ 1125899906842624 := by rw [hal, List.length_append] at hle; rw [List.length_append, H64.out]; omega
      have hal2 : K0 ++ allOf (ps.take (j + 1)) = K0 ++ allOf (ps.take j) ++ q.l := by rw [hal, List.append_assoc]
      have HAL := Lib.hid hal2
      have Gw := G.extN hx
      have i0 : (0 : Int) ≤ (j : Int) := by omega
      have i1 : (j : Int) < (m : Int) := by omega
      clear hal hal2 hle hv hP2
      go_wp2_with fail
      have ctr := write_calls hs Gw (by omega) q.c q.l.length hr2 rfl hcl (fun h => by have h : w2.heap.size + 1 < w.heap.size := h; omega) hlq
      with_reducible refine Calls.mono ctr ?_
      clear ctr
      rintro e w6 ⟨⟨v1, rfl⟩, S6, x6⟩
      have X6 : Ext Non w w6 := hx.trans x6 (fun i hi h => by have h : i = w2.heap.size + 1 := h; omega)
      have B6 := hb.ext x6 (fun h => by have h : w.heap.size = w2.heap.size + 1 := h; omega)
      have P6 := hp.ext x6 (fun h => by have h : w2.heap.size = w2.heap.size + 1 := h; omega)
      rw [← HAL.out] at S6
      go_wp2_with fail
      exact ⟨⟨j + 1, by omega, by go_num, S6.strm, P6, B6, X6⟩, by simp [intOf]; omega⟩
    · obtain rfl : j = m := by omega
      rw [List.take_of_length_le (by omega)] at hs
      have Gw := G.extN hx
      have hw3 := hx.size
      go_wp2_with fail
      have ctr := ssum_calls hs Gw (by omega) (by rw [List.length_append, H64.out]; omega)
      with_reducible refine Calls.mono ctr ?_
      clear ctr
      rintro e w7 ⟨rfl, x7⟩
      have X7 : Ext Non wr (w7.alloc (.cells (ba (sha (K0 ++ allOf ps))) 26)) := x7.alloc _
      have D7 := Blk.new w7 26 (ba (sha (K0 ++ allOf ps)))
      go_wp2_with fail
      generalize w7.alloc (.cells (ba (sha (K0 ++ allOf ps))) 26) = w8 at *
      generalize w7.heap.size = g7 at *
      have X8 := hx.transN X7
      have B8 := hb.extN_ X7
      have P8 := hp.extN_ X7
      clear hs hb hp hx X7 x7
      have lw : ∀ W, Ext (One w.heap.size) w8 W → (bigLoad 59 (.pointer (some ⟨w2.heap.size, 0, none⟩))).run Tryd.prog W = .ok (.agg (ba (kpad key))) W := fun W h => load_pad (P8.ext h (fun h => by have h : w2.heap.size = w.heap.size := h; omega)) (kpad_len key)
      have sl := fun W g => run_arr_all (P := Tryd.prog) W Tryd.underlying26 s8 g 0 (by decide)
      refine wp_region_seq (One w.heap.size) ((0, true) :: (2, true) :: (1, false) :: (3, false) :: (4, false) :: (5, false) :: []) (by kernel_rfl) (by kernel_rfl) (by kernel_rfl) ?_
      iterate 2 (refine wpSeq_quiet rfl rfl ?_; apply Exists.intro; refine ⟨?_, ?_⟩; (intro W hW; have l1 := lw W hW.drewL; go_simp; try with_reducible rfl); (intro K hK; simp only [Act.put, List.setIfInBounds_toArray, List.set_cons_zero, List.set_cons_succ]; refine hK _ ?_; clear hK K))
      refine wpSeq_call rfl rfl (fun K hK => ?_)
      go_simp
      have ctr := with_calls w8.drew (kpad key) (kpad_len key) 92 92 rfl
      with_reducible refine Calls.mono ctr ?_
      clear ctr
      rintro e w9 ⟨g2, rfl, D9, hg2, x9⟩
      go_simp
      refine hK _ _ x9.ofN ?_
      clear hK K
      have D8 := D7.drew.extN_ x9
      have B9 := B8.drew.extN_ x9
      have X9 := X8.drew.transN x9
      have pA : ∀ q ∈ ([⟨some ⟨g2, 0, none⟩, 64, xall (kpad key) 92⟩, ⟨some ⟨g7, 0, none⟩, 32, sha (K0 ++ allOf ps)⟩] : List Part), Rd w9 (· < w9.heap.size) q.a (bvs q.l) ∧ q.l.length ≤ q.c := fun q hq => by
        simp only [List.mem_cons, List.not_mem_nil, or_false] at hq
        rcases hq with rfl | rfl
        · exact ⟨(rd_ba D9).imp (fun k hk _ => hk), by show (xall (kpad key) 92).length ≤ 64; rw [xall_len, kpad_len]; exact Nat.le_refl _⟩
        · exact ⟨(rd_ba D8).imp (fun k hk _ => hk), by show (sha (K0 ++ allOf ps)).length ≤ 32; rw [sha_len]; exact Nat.le_refl _⟩
      have V : Hid ((([⟨some ⟨g2, 0, none⟩, 64, xall (kpad key) 92⟩, ⟨some ⟨g7, 0, none⟩, 32, sha (K0 ++ allOf ps)⟩] : List Part).map Part.val).toArray = #[.slice (some ⟨g2, 0, none⟩) 64 64, .slice (some ⟨g7, 0, none⟩) 32 32]) := by
        show _ = _
        simp [Part.val, xall_len, kpad_len, sha_len]
      have E : Hid (allOf [⟨some ⟨g2, 0, none⟩, 64, xall (kpad key) 92⟩, ⟨some ⟨g7, 0, none⟩, 32, sha (K0 ++ allOf ps)⟩] = xall (kpad key) 92 ++ sha (K0 ++ allOf ps)) := by show _ = _; simp [allOf]
      have hEl : (xall (kpad key) 92 ++ sha (K0 ++ allOf ps)).length ≤ 562949953421312 := by rw [List.length_append, xall_len, kpad_len, sha_len]; decide
      have hres : hm key (allOf ps) = sha (xall (kpad key) 92 ++ sha (K0 ++ allOf ps)) := by unfold hm; rw [HK0.out]
      have HRES := Lib.hid hres
      clear hres lw P8 B8 D7 X8
      refine wpSeq_call rfl rfl (fun K hK => ?_)
      go_simp
      refine hK _ _ ((Ext.refl (One w.heap.size) w9).alloc _) ?_
      clear hK K
      refine wpSeq_call rfl rfl (fun K hK => ?_)
      go_simp
      have ctr := sumN_calls (Ext.refl Non w9) (G.extN X9) (by have := X9.size; omega) [⟨some ⟨g2, 0, none⟩, 64, xall (kpad key) 92⟩, ⟨some ⟨g7, 0, none⟩, 32, sha (K0 ++ allOf ps)⟩] pA 2 rfl (by rw [E.out]; exact hEl) (by decide) #[.slice (some ⟨g2, 0, none⟩) 64 64, .slice (some ⟨g7, 0, none⟩) 32 32] V.out (Ext.refl Non _) _ E.out
      with_reducible refine Calls.mono ctr ?_
      clear ctr
      rintro e w10 ⟨rfl, x10⟩
      go_simp
      refine hK _ _ x10.ofN ?_
      clear hK K
      have X10 := (X9.alloc (.cells #[.slice (some ⟨g2, 0, none⟩) 64 64, .slice (some ⟨g7, 0, none⟩) 32 32] 22)).transN x10
      have B10 := (B9.alloc (.cells #[.slice (some ⟨g2, 0, none⟩) 64 64, .slice (some ⟨g7, 0, none⟩) 32 32] 22)).extN_ x10
      have st := B10.big_store (P := Tryd.prog) (ty := 26) (cs' := ba (sha (xall (kpad key) 92 ++ sha (K0 ++ allOf ps)))) (by rw [zrow_size, ba32]) (o_info _ (ba32 _)) (ba_all _)
      have B11 := B10.setRow (ba (sha (xall (kpad key) 92 ++ sha (K0 ++ allOf ps))))
      have X11 : Ext Non w (w10.setRow w.heap.size (ba (sha (xall (kpad key) 92 ++ sha (K0 ++ allOf ps))))) := X10.setRow (.inl (Nat.le_refl _)) _
      refine wpSeq_call rfl rfl (fun K hK => ?_)
      go_simp
      refine hK _ _ ((Ext.refl (One w.heap.size) w10).setRow (.inr rfl) _) ?_
      clear hK K
      refine wpSeq_end ?_
      go_wp2_with fail
      refine bodyPost_ret (B11.results Tryd.results14 _ rfl Tryd.underlying26 rfl (o_info _ (ba32 _))) rfl ⟨?_, X11⟩
      rw [HRES.out]
end Go.Proofs.YtgbaijmpfdhoeaaDoor
