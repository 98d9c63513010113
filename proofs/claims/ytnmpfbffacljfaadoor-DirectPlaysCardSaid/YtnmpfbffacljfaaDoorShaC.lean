/- Contracts of package sha. -/
import Derived.Laws.CopyOwn
import Derived.Test.YtnmpfbffacljfaaDoorShaP
import Derived.Test.YtnmpfbffacljfaaDoorRow
import Derived.Test.YtnmpfbffacljfaaDoorSeq
namespace Go.Proofs.YtnmpfbffacljfaaDoor
open Go.RowKit

/-! ### numbers of 32 bits -/
theorem u32_lt (x : UInt32) : x.toNat < 4294967296 := x.toNat_lt
/-- A number of 32 bits as a plain one; closed, so that the walk's simp leaves it. -/
def un (x : UInt32) : Nat := x.toNat
theorem un_lt (x : UInt32) : un x < 4294967296 := x.toNat_lt
@[go_sem] theorem u32_xor (x y : UInt32) : bits .xor .u32 (un x : Int) (un y : Int) = (un (x ^^^ y) : Int) := by
  unfold un
  rw [bits_xor_nat .u32 wrapn_u32 _ _ (lt32 x.toNat_lt) (lt32 y.toNat_lt), UInt32.toNat_xor]
@[go_sem] theorem u32_and (x y : UInt32) : bits .and .u32 (un x : Int) (un y : Int) = (un (x &&& y) : Int) := by
  unfold un
  rw [bits_and_nat .u32 wrapn_u32 _ _ (lt32 x.toNat_lt) (lt32 y.toNat_lt), UInt32.toNat_and]
@[go_sem] theorem u32_or (x y : UInt32) : bits .or .u32 (un x : Int) (un y : Int) = (un (x ||| y) : Int) := by
  unfold un
  rw [bits_or_nat .u32 wrapn_u32 _ _ (lt32 x.toNat_lt) (lt32 y.toNat_lt), UInt32.toNat_or]
@[go_sem] theorem u32_not (x : UInt32) : bits .xor .u32 4294967295 (un x : Int) = (un (~~~x) : Int) := by
  unfold un
  have h := bits_xor_nat .u32 wrapn_u32 4294967295 x.toNat (by decide) (lt32 x.toNat_lt)
  have e : (4294967295 ^^^ x.toNat : Nat) = (~~~x).toNat := by
    have h1 : (4294967295 : Nat) = (BitVec.allOnes 32).toNat := by decide
    rw [h1, ← UInt32.toNat_toBitVec, ← BitVec.toNat_xor, BitVec.allOnes_xor]
    rfl
  rw [e] at h
  exact h
@[go_sem] theorem u32_not' (x : UInt32) : bits .xor .u32 IntKind.u32.max (un x : Int) = (un (~~~x) : Int) := u32_not x
@[go_sem] theorem u32_add (x y : UInt32) : IntKind.u32.wrap ((un x : Int) + (un y : Int)) = (un (x + y) : Int) := by
  unfold un
  rw [IntKind.wrap_u32, UInt32.toNat_add]
  omega
theorem u32_shr (x : UInt32) (k : Nat) (h : k < 32) : (un x : Int) / ((2 ^ k : Nat) : Int) = (un (x >>> UInt32.ofNat k) : Int) := by
  unfold un
  rw [UInt32.toNat_shiftRight, Nat.shiftRight_eq_div_pow]
  have : (UInt32.ofNat k).toNat % 32 = k := by rw [UInt32.toNat_ofNat']; omega
  rw [this, Int.natCast_ediv]
theorem u32_shl (x : UInt32) (k : Nat) (h : k < 32) : IntKind.u32.wrap ((un x : Int) * ((2 ^ k : Nat) : Int)) = (un (x <<< UInt32.ofNat k) : Int) := by
  unfold un
  rw [UInt32.toNat_shiftLeft, Nat.shiftLeft_eq]
  have : (UInt32.ofNat k).toNat % 32 = k := by rw [UInt32.toNat_ofNat']; omega
  rw [this, IntKind.wrap_u32, ← Int.natCast_mul]
  omega
@[go_sem] theorem u32_shr3 (x : UInt32) : ((un x : Nat) : Int) / (8 : Int) = ((un (x >>> 3) : Nat) : Int) := u32_shr x 3 (by decide)
@[go_sem] theorem u32_shr10 (x : UInt32) : ((un x : Nat) : Int) / (1024 : Int) = ((un (x >>> 10) : Nat) : Int) := u32_shr x 10 (by decide)
def v32 (x : UInt32) : Value := .int .u32 (un x : Int)

set_option maxRecDepth 10000 in
theorem rotl_calls (w : World) (x : UInt32) (k : Nat) (h1 : 1 ≤ k) (h2 : k ≤ 31) :
    Calls Tryd.prog 90 #[.int .u32 (un x : Int), .int .i64 (-(k : Int))] w fun e w' => e = .returned (.int .u32 (un (rotr x k) : Int)) ∧ w = w' := by
  obtain ⟨c, hc⟩ : ∃ c, 18446744073709551616 - k = c := ⟨_, rfl⟩
  obtain ⟨s, hs⟩ : ∃ s, 32 - k = s := ⟨_, rfl⟩
  have e1 : IntKind.u64.wrap (-(k : Int)) = (c : Int) := by rw [IntKind.wrap_u64]; omega
  have hc4 : c < 18446744073709551616 := by omega
  have e2 : bits .and .u64 (c : Int) 31 = (s : Int) := by
    have e : c &&& 31 = c % 32 := Nat.and_two_pow_sub_one_eq_mod c 5
    have := bits_and_nat .u64 wrapn_u64 c 31 (lt64 hc4) (by decide)
    rw [e, show c % 32 = s from by omega] at this
    exact this
  have hs1 : s < 32 := by omega
  have e3 := u32_shl x s hs1
  have e4 := u32_shr x k (by omega)
  rw [show ((2 ^ s : Nat) : Int) = 2 ^ s from by simp] at e3
  rw [show ((2 ^ k : Nat) : Int) = 2 ^ k from by simp] at e4
  have e5 : (32 : Int) - (s : Int) = (k : Int) := by omega
  have hr : rotr x k = (x <<< UInt32.ofNat s ||| x >>> UInt32.ofNat k) := by unfold rotr; rw [hs]
  have HR := Lib.hid hr
  have hx := un_lt x
  clear hc hs hr
  go_enter Tryd.func90, Tryd.ntmps90
  go_wp2_with fail
  go_ret
  exact ⟨by rw [HR.out] <;> rfl, rfl⟩
theorem turned_calls (w : World) (x : UInt32) (k : Nat) (h1 : 1 ≤ k) (h2 : k ≤ 31) :
    Calls Tryd.prog 83 #[.int .u32 (un x : Int), .int .i64 (k : Int)] w fun e w' => e = .returned (.int .u32 (un (rotr x k) : Int)) ∧ w' = w := by
  go_enter Tryd.func83, Tryd.ntmps83
  go_wp2_with fail
  have ctr := rotl_calls w x k h1 h2
  with_reducible refine Calls.mono ctr ?_
  clear ctr
  rintro e w1 ⟨rfl, rfl⟩
  go_wp2_with fail
  go_ret
  exact ⟨rfl, rfl⟩

/-! ### A stream's cells -/
def u32a (l : List UInt32) : Array Value := (l.map v32).toArray
theorem u32a_size (l : List UInt32) : (u32a l).size = l.length := by simp [u32a]
theorem u32a_get (l : List UInt32) (i : Nat) (h : i < l.length) : (u32a l)[i]? = some (.int .u32 (un (l.getD i 0) : Int)) := by simp [u32a, v32, h, List.getD]
theorem u32a_set (l : List UInt32) (i : Nat) (x : UInt32) : (u32a l).setIfInBounds i (.int .u32 (un x : Int)) = u32a (l.set i x) := by
  unfold u32a
  rw [List.setIfInBounds_toArray, List.map_set]
  rfl
theorem u32a_all (l : List UInt32) : (u32a l).all (·.oneCell') = true := by
  refine Array.all_eq_true_iff_forall_mem.2 fun v hv => ?_
  simp [u32a] at hv
  obtain ⟨x, _, rfl⟩ := hv
  rfl
def strm (b : Bool) (h : List UInt32) (part : List UInt8) (n : Nat) : Array Value := (Value.bool b :: (h.map v32 ++ (bvs part ++ [.int .u64 (n : Int)]))).toArray
section
variable {b b' : Bool} {h h' : List UInt32} {part m : List UInt8} {n : Nat}
theorem strm_size (hh : h.length = 8) (hp : part.length = 64) : (strm b h part n).size = 74 := by simp [strm, bvs_length, hh, hp]
theorem strm_0 : (strm b h part n)[0]? = some (.bool b) := by simp [strm]
theorem strm_h (hh : h.length = 8) {i : Nat} (hi : i < 8) : (strm b h part n)[1 + i]? = some (.int .u32 (un (h.getD i 0) : Int)) := by
  have hi' : i < h.length := by omega
  simp only [strm, List.getElem?_toArray]
  rw [Nat.add_comm, List.getElem?_cons_succ, List.getElem?_append_left (by simp; omega)]
  simp [v32, hi', List.getD]
theorem strm_p (hh : h.length = 8) (hp : part.length = 64) {i : Nat} (hi : i < 64) : (strm b h part n)[9 + i]? = some (.int .u8 ((part.getD i 0).toNat : Int)) := by
  have hi' : i < part.length := by omega
  simp only [strm, List.getElem?_toArray]
  rw [show 9 + i = (8 + i) + 1 from by omega, List.getElem?_cons_succ, List.getElem?_append_right (by simp; omega), List.getElem?_append_left (by simp [bvs_length]; omega)]
  simp [hh, bvs, bv, hi', List.getD]
theorem strm_n (hh : h.length = 8) (hp : part.length = 64) : (strm b h part n)[73]? = some (.int .u64 (n : Int)) := by
  simp only [strm, List.getElem?_toArray]
  rw [show 73 = 72 + 1 from rfl, List.getElem?_cons_succ, List.getElem?_append_right (by simp; omega), List.getElem?_append_right (by simp [bvs_length]; omega)]
  simp [hh, hp, bvs_length]
theorem strm_set_h (hh : h.length = 8) {i : Nat} (hi : i < 8) (x : UInt32) : (strm b h part n).setIfInBounds (1 + i) (.int .u32 (un x : Int)) = strm b (h.set i x) part n := by
  unfold strm
  rw [List.setIfInBounds_toArray, Nat.add_comm, List.set_cons_succ, List.set_append_left _ _ (by simp; omega), List.map_set]
  rfl
theorem strm_set_0 (x : Bool) : (strm b h part n).setIfInBounds 0 (.bool x) = strm x h part n := by
  unfold strm
  rw [List.setIfInBounds_toArray, List.set_cons_zero]
theorem strm_set_n (hh : h.length = 8) (hp : part.length = 64) (m : Nat) : (strm b h part n).setIfInBounds 73 (.int .u64 (m : Int)) = strm b h part m := by
  unfold strm
  rw [List.setIfInBounds_toArray, show 73 = 72 + 1 from rfl, List.set_cons_succ, List.set_append_right _ _ (by simp; omega), List.set_append_right _ _ (by simp [bvs_length]; omega)]
  simp [hh, hp, bvs_length]
theorem strm_all : (strm b h part n).all (·.oneCell') = true := by
  refine Array.all_eq_true_iff_forall_mem.2 fun v hv => ?_
  simp [strm, bvs] at hv
  rcases hv with rfl | ⟨x, _, rfl⟩ | ⟨x, _, rfl⟩ | rfl <;> rfl
end
def z64 : Array Value := rowf 64 fun _ => .int .u32 0
@[go_sem ↓] theorem big_load_w (x : Value) : Instr.loadAt 134 x = bigLoad 134 x := rfl
@[go_sem ↓] theorem big_store_w (x v : Value) : Instr.storeAt 134 x v = bigStore 134 x v := rfl
@[go_sem ↓] theorem big_load_h (x : Value) : Instr.loadAt 97 x = bigLoad 97 x := rfl
@[go_sem ↓] theorem big_store_h (x v : Value) : Instr.storeAt 97 x v = bigStore 97 x v := rfl
@[go_sem ↓] theorem big_load_s (x : Value) : Instr.loadAt 100 x = bigLoad 100 x := rfl
@[go_sem ↓] theorem big_store_s (x v : Value) : Instr.storeAt 100 x v = bigStore 100 x v := rfl
@[go_sem ↓] theorem big_load_o (x : Value) : Instr.loadAt 82 x = bigLoad 82 x := rfl
@[go_sem ↓] theorem big_store_o (x v : Value) : Instr.storeAt 82 x v = bigStore 82 x v := rfl
theorem z64_eq : z64 = Array.replicate 64 (.int .u32 0) := rowf_const _ _
theorem z64_size : z64.size = 64 := rowf_size _ _
@[go_sem ↓] theorem zero_w (w : World) : (zeroValue 134).run Tryd.prog w = .ok (.agg z64) w := by
  rw [z64_eq]
  exact (zero_of_info (P := Tryd.prog) (t := 134) (n := 64) (by kernel_rfl)).1 w
theorem w_info (cs : Array Value) (h : cs.size = 64) : (Tryd.prog.info? 134).map (·.size) = some cs.size := by rw [h]; kernel_rfl
theorem h_info (cs : Array Value) (h : cs.size = 8) : (Tryd.prog.info? 97).map (·.size) = some cs.size := by rw [h]; kernel_rfl
theorem s_info (cs : Array Value) (h : cs.size = 74) : (Tryd.prog.info? 100).map (·.size) = some cs.size := by rw [h]; kernel_rfl
theorem o_info (cs : Array Value) (h : cs.size = 32) : (Tryd.prog.info? 82).map (·.size) = some cs.size := by rw [h]; kernel_rfl

theorem one_of {t : TypeId} (h : (Tryd.prog.info? t).map (·.size) = some 1) : (Tryd.prog.info? t).map (·.size) = some 1 := h
theorem s8 : (Tryd.prog.info? 5).map (·.size) = some 1 := by kernel_rfl
theorem s32 : (Tryd.prog.info? 35).map (·.size) = some 1 := by kernel_rfl
theorem num4 (a b c d : UInt8) : num [a, b, c, d] = ((a.toNat * 256 + b.toNat) * 256 + c.toNat) * 256 + d.toNat := by simp [num]
theorem word_eq (l : List UInt8) (k : Nat) (h : 4 * k + 4 ≤ l.length) : word l k = UInt32.ofNat ((((l.getD (4 * k) 0).toNat * 256 + (l.getD (4 * k + 1) 0).toNat) * 256 + (l.getD (4 * k + 2) 0).toNat) * 256 + (l.getD (4 * k + 3) 0).toNat) := by
  have e : (l.drop (4 * k)).take 4 = [l.getD (4 * k) 0, l.getD (4 * k + 1) 0, l.getD (4 * k + 2) 0, l.getD (4 * k + 3) 0] := by
    apply List.ext_getElem
    · simp; omega
    · intro i h1 h2
      simp at h2
      match i, h2 with
      | 0, _ => simp [List.getD, show 4 * k < l.length from by omega]
      | 1, _ => simp [List.getD, show 4 * k + 1 < l.length from by omega]
      | 2, _ => simp [List.getD, show 4 * k + 2 < l.length from by omega]
      | 3, _ => simp [List.getD, show 4 * k + 3 < l.length from by omega]
  unfold word
  rw [e, num4]
theorem word_or (a b c d : Nat) (ha : a < 256) (hb : b < 256) (hc : c < 256) (hd : d < 256) :
    bits .or .u32 (bits .or .u32 (bits .or .u32 ((a : Int) * 16777216) ((b : Int) * 65536)) ((c : Int) * 256)) (d : Int) = (un (UInt32.ofNat (((a * 256 + b) * 256 + c) * 256 + d)) : Int) := by
  have e1 : (a : Int) * 16777216 = ((a * 16777216 : Nat) : Int) := by simp
  have e2 : (b : Int) * 65536 = ((b * 65536 : Nat) : Int) := by simp
  have e3 : (c : Int) * 256 = ((c * 256 : Nat) : Int) := by simp
  have o1 : a * 16777216 ||| b * 65536 = (a * 256 + b) * 65536 := by
    have := or_add a (b * 65536) 24 (by omega)
    rw [show 2 ^ 24 = 16777216 from rfl] at this
    rw [this]; omega
  have o2 : (a * 256 + b) * 65536 ||| c * 256 = ((a * 256 + b) * 256 + c) * 256 := by
    have := or_add (a * 256 + b) (c * 256) 16 (by omega)
    rw [show 2 ^ 16 = 65536 from rfl] at this
    rw [this]; omega
  have o3 : ((a * 256 + b) * 256 + c) * 256 ||| d = ((a * 256 + b) * 256 + c) * 256 + d := or_add ((a * 256 + b) * 256 + c) d 8 (by omega)
  rw [e1, e2, e3, bits_or_nat .u32 wrapn_u32 _ _ (lt32 (by omega)) (lt32 (by omega)), o1, bits_or_nat .u32 wrapn_u32 _ _ (lt32 (by omega)) (lt32 (by omega)), o2,
    bits_or_nat .u32 wrapn_u32 _ _ (lt32 (by omega)) (lt32 (by omega)), o3]
  unfold un
  rw [UInt32.toNat_ofNat']
  omega

/-! ### spread -/
def schf (part : List UInt8) (i : Nat) : Array Value := rowf 64 fun j => if j < i then v32 (W part j) else .int .u32 0
theorem schf_size (part : List UInt8) (i : Nat) : (schf part i).size = 64 := rowf_size _ _
theorem schf_zero (part : List UInt8) : schf part 0 = z64 := rowf_ext fun _ _ => if_neg (by omega)
theorem schf_get (part : List UInt8) {i j : Nat} (h : j < i) (hi : i ≤ 64) : (schf part i)[j]? = some (.int .u32 (un (W part j) : Int)) := by
  unfold schf
  rw [rowf_get (by omega), if_pos h]
  rfl
theorem schf_any (part : List UInt8) {i j : Nat} (h : j < 64) : ∃ v, (schf part i)[j]? = some v := ⟨_, rowf_get h⟩
theorem schf_set (part : List UInt8) (k : Nat) : (schf part k).setIfInBounds k (.int .u32 (un (W part k) : Int)) = schf part (k + 1) := by
  unfold schf
  rw [rowf_set]
  refine rowf_ext fun i _ => ?_
  by_cases h : i = k
  · subst h; rw [if_pos rfl, if_pos (by omega)]; rfl
  · rw [if_neg h]
    by_cases h2 : i < k
    · rw [if_pos h2, if_pos (by omega)]
    · rw [if_neg h2, if_neg (by omega)]
theorem schf_all (part : List UInt8) (i : Nat) : (schf part i).all (·.oneCell') = true := rowf_all fun j => by
  by_cases h : j < i
  · rw [if_pos h]; rfl
  · rw [if_neg h]; rfl

set_option maxRecDepth 100000 in
set_option maxHeartbeats 1000000 in
theorem spread_calls {w : World} {p : Nat} {b : Bool} {h : List UInt32} {part : List UInt8} {n : Nat} (hh : h.length = 8) (hp : part.length = 64) (hb : Blk w p 100 (strm b h part n)) :
    Calls Tryd.prog 82 #[.pointer (some ⟨p, 0, none⟩)] w fun e w' => e = .returned (.agg (schf part 64)) ∧ Ext Non w w' := by
  have hn0 := row_ne z64_size
  go_enter Tryd.func82, Tryd.ntmps82
  go_wp2_with fail
  go_loopw [9] (fun i wr => ∃ k : Nat, k ≤ 64 ∧ i = .int .i64 k ∧ Blk wr w.heap.size 134 (schf part k) ∧ Ext Non w wr) (fun i _ => 64 - (intOf i).toNat)
  case atStart => exact ⟨0, by omega, rfl, schf_zero part ▸ Blk.new _ _ _, (Ext.refl _ _).alloc _⟩
  case round =>
    clear hn0
    obtain ⟨k, hk, rfl, hg, hx⟩ := hrel
    by_cases h16 : k < 16
    · have hbr := hb.extN_ hx
      have cp : ∀ j, j < 64 → wr.cell? ⟨p, 9 + j, none⟩ = some (.int .u8 ((part.getD j 0).toNat : Int)) := fun j hj => by rw [hbr.cell, strm_p hh hp hj]
      have c0 := cp (4 * k) (by omega)
      have c1 := cp (4 * k + 1) (by omega)
      have c2 := cp (4 * k + 2) (by omega)
      have c3 := cp (4 * k + 3) (by omega)
      clear cp
      have sl := fun W => run_arr_lo (P := Tryd.prog) W Tryd.underlying98 s8 p 9 .i64 (4 * (k : Int)) (4 * k) (by omega) (by omega)
      have hw := W_first part h16
      rw [word_eq part k (by omega)] at hw
      have b0 := (part.getD (4 * k) 0).toNat_lt
      have b1 := (part.getD (4 * k + 1) 0).toNat_lt
      have b2 := (part.getD (4 * k + 2) 0).toNat_lt
      have b3 := (part.getD (4 * k + 3) 0).toNat_lt
      rw [← Nat.add_assoc] at c1 c2 c3
      have hor := word_or _ _ _ _ b0 b1 b2 b3
      generalize (part.getD (4 * k) 0).toNat = a0 at *
      generalize (part.getD (4 * k + 1) 0).toNat = a1 at *
      generalize (part.getD (4 * k + 2) 0).toNat = a2 at *
      generalize (part.getD (4 * k + 3) 0).toNat = a3 at *
      rw [← hw] at hor
      have w0 : IntKind.u32.wrap (a0 : Int) = (a0 : Int) := by rw [IntKind.wrap_u32]; omega
      have w1 : IntKind.u32.wrap (a1 : Int) = (a1 : Int) := by rw [IntKind.wrap_u32]; omega
      have w2 : IntKind.u32.wrap (a2 : Int) = (a2 : Int) := by rw [IntKind.wrap_u32]; omega
      have w3 : IntKind.u32.wrap (a3 : Int) = (a3 : Int) := by rw [IntKind.wrap_u32]; omega
      have m0 : IntKind.u32.wrap ((a0 : Int) * 16777216) = (a0 : Int) * 16777216 := by rw [IntKind.wrap_u32]; omega
      have m1 : IntKind.u32.wrap ((a1 : Int) * 65536) = (a1 : Int) * 65536 := by rw [IntKind.wrap_u32]; omega
      have m2 : IntKind.u32.wrap ((a2 : Int) * 256) = (a2 : Int) * 256 := by rw [IntKind.wrap_u32]; omega
      obtain ⟨v, hv⟩ := schf_any part (i := k) (j := k) (by omega)
      have hc := hg.cell k
      have hf := hg.frozen k
      rw [hv] at hc
      have hset := schf_set part k
      have hg2 := hg.set_ k (.int .u32 (un (W part k) : Int))
      rw [hset] at hg2
      have i1 : 0 < 64 - 4 * k := by omega
      have i2 : (1 : Int) < ((64 - 4 * k : Nat) : Int) := by omega
      have i3 : (2 : Int) < ((64 - 4 * k : Nat) : Int) := by omega
      have i4 : (3 : Int) < ((64 - 4 * k : Nat) : Int) := by omega
      have hk4 : (k : Int) < 64 := by omega
      clear hw hv hset
      go_wp2_with fail
      have hpl := hb.lt
      have cw : ∀ W, Ext (One w.heap.size) wr.drew W → W.cell? ⟨p, 9 + 4 * k, none⟩ = some (.int .u8 (a0 : Int)) ∧ W.cell? ⟨p, 9 + 4 * k + 1, none⟩ = some (.int .u8 (a1 : Int)) ∧ W.cell? ⟨p, 9 + 4 * k + 2, none⟩ = some (.int .u8 (a2 : Int)) ∧ W.cell? ⟨p, 9 + 4 * k + 3, none⟩ = some (.int .u8 (a3 : Int)) := fun W hW =>
        ⟨hW.cell c0 (fun h => Nat.ne_of_lt hpl h), hW.cell c1 (fun h => Nat.ne_of_lt hpl h), hW.cell c2 (fun h => Nat.ne_of_lt hpl h), hW.cell c3 (fun h => Nat.ne_of_lt hpl h)⟩
      refine wp_region_seq (One w.heap.size) ((0, true) :: (1, true) :: (2, true) :: (3, true) :: (4, true) :: (5, true) :: (6, true) :: (7, true) :: (8, true) :: (9, true) :: (10, true) :: (11, true) :: (12, true) :: (13, true) :: (14, true) :: (15, true) :: (16, true) :: (17, true) :: (18, true) :: (19, true) :: (20, true) :: (21, true) :: (22, true) :: (23, true) :: (24, false) :: []) (by kernel_rfl) (by kernel_rfl) (by kernel_rfl) ?_
      iterate 24 (refine wpSeq_quiet rfl rfl ?_; apply Exists.intro; refine ⟨?_, ?_⟩; (intro W hW; obtain ⟨d0, d1, d2, d3⟩ := cw W hW; go_simp; try with_reducible rfl); (intro K hK; simp only [Act.put, List.setIfInBounds_toArray, List.set_cons_zero, List.set_cons_succ]; refine hK _ ?_; clear hK K))
      clear w0 w1 w2 w3 m0 m1 m2 hor cw
      refine wpSeq_call rfl rfl (fun K hK => ?_)
      go_simp
      refine hK _ _ ((Ext.refl Non wr.drew).setN (g := w.heap.size) k (.int .u32 (un (W part k) : Int))) ?_
      refine wpSeq_end ?_
      have hx2 : Ext Non w (wr.setCell ⟨w.heap.size, k, none⟩ (.int .u32 (un (W part k) : Int))).drew := (hx.setCell (p := ⟨w.heap.size, k, none⟩) (.inl (Nat.le_refl _)) _).drew
      have hg3 := hg2.drew
      clear hK
      go_wp2
      exact ⟨⟨k + 1, by omega, by go_num, hg3, hx2⟩, by simp [intOf]; omega⟩
    · by_cases h64 : k < 64
      · have cp : ∀ j, j < k → wr.cell? ⟨w.heap.size, j, none⟩ = some (.int .u32 (un (W part j) : Int)) := fun j hj => by rw [hg.cell, schf_get part hj hk]
        have c2 := cp (k - 2) (by omega)
        have c7 := cp (k - 7) (by omega)
        have c15 := cp (k - 15) (by omega)
        have c16 := cp (k - 16) (by omega)
        have hw := W_next part (by omega) h64
        unfold sg0 sg1 at hw
        generalize W part (k - 2) = y2 at *
        generalize W part (k - 7) = y7 at *
        generalize W part (k - 15) = y15 at *
        generalize W part (k - 16) = y16 at *
        have HW := Lib.hid hw
        obtain ⟨v, hv⟩ := schf_any part (i := k) (j := k) h64
        have hc := hg.cell k
        have hf := hg.frozen k
        rw [hv] at hc
        have hg2 := hg.set_ k (.int .u32 (un (W part k) : Int))
        rw [schf_set part k] at hg2
        have h16' : (16 : Int) ≤ (k : Int) := by omega
        clear hw hv cp
        go_wp2_with fail
        have t2 : ((k : Int) - 2).toNat = k - 2 := by omega
        have t7 : ((k : Int) - 7).toNat = k - 7 := by omega
        have t15 : ((k : Int) - 15).toNat = k - 15 := by omega
        have t16 : ((k : Int) - 16).toNat = k - 16 := by omega
        have e2 : IntKind.i64.wrap ((k : Int) - 2) = (k : Int) - 2 := IntWalk.i64_in _ (by omega)
        have e7 : IntKind.i64.wrap ((k : Int) - 7) = (k : Int) - 7 := IntWalk.i64_in _ (by omega)
        have e15 : IntKind.i64.wrap ((k : Int) - 15) = (k : Int) - 15 := IntWalk.i64_in _ (by omega)
        have e16 : IntKind.i64.wrap ((k : Int) - 16) = (k : Int) - 16 := IntWalk.i64_in _ (by omega)
        have l2 : (2 : Int) ≤ (k : Int) := by omega
        have l7 : (7 : Int) ≤ (k : Int) := by omega
        have l15 : (15 : Int) ≤ (k : Int) := by omega
        have l16 : (16 : Int) ≤ (k : Int) := by omega
        have u2 : (k : Int) - 2 < 64 := by omega
        have u7 : (k : Int) - 7 < 64 := by omega
        have u15 : (k : Int) - 15 < 64 := by omega
        have u16 : (k : Int) - 16 < 64 := by omega
        have cw : ∀ W, Ext Non wr.drew W → W.cell? ⟨w.heap.size, k - 15, none⟩ = some (.int .u32 (un y15 : Int)) ∧ W.cell? ⟨w.heap.size, k - 2, none⟩ = some (.int .u32 (un y2 : Int)) := fun W hW => ⟨hW.cell c15 (fun h => h), hW.cell c2 (fun h => h)⟩
        refine wp_region_seq Non ((0, true) :: (1, true) :: (2, true) :: (3, true) :: (4, true) :: (5, true) :: (6, true) :: (7, true) :: (8, true) :: (9, true) :: []) (by kernel_rfl) (by kernel_rfl) (by kernel_rfl) ?_
        iterate 10 (refine wpSeq_quiet rfl rfl ?_; apply Exists.intro; refine ⟨?_, ?_⟩; (intro W hW; obtain ⟨d1, d2⟩ := cw W hW; go_simp; try with_reducible rfl); (intro K hK; simp only [Act.put, List.setIfInBounds_toArray, List.set_cons_zero, List.set_cons_succ]; refine hK _ ?_; clear hK K))
        refine wpSeq_end ?_
        clear cw
        go_wp2_with fail
        have ctr := turned_calls wr.drew y15 7 (by decide) (by decide)
        with_reducible refine Calls.mono ctr ?_
        clear ctr
        rintro e w1 ⟨rfl, rfl⟩
        go_wp2_with fail
        have ctr := turned_calls wr.drew y15 18 (by decide) (by decide)
        with_reducible refine Calls.mono ctr ?_
        clear ctr
        rintro e w1 ⟨rfl, rfl⟩
        go_wp2_with fail
        have ctr := turned_calls wr.drew y2 17 (by decide) (by decide)
        with_reducible refine Calls.mono ctr ?_
        clear ctr
        rintro e w1 ⟨rfl, rfl⟩
        go_wp2_with fail
        have ctr := turned_calls wr.drew y2 19 (by decide) (by decide)
        with_reducible refine Calls.mono ctr ?_
        clear ctr
        rintro e w1 ⟨rfl, rfl⟩
        go_wp2_with fail
        refine wp_region_tail 15 (by kernel_rfl) (by kernel_rfl) ?_
        simp only [List.take_succ_cons, List.take_zero, List.drop_succ_cons, List.drop_zero]
        repeat still_step
        refine wpStill_nil ?_
        have hg3 := hg2.drew.drew
        have hx2 : Ext Non w (wr.setCell ⟨w.heap.size, k, none⟩ (.int .u32 (un (W part k) : Int))).drew.drew := (hx.setCell (p := ⟨w.heap.size, k, none⟩) (.inl (Nat.le_refl _)) _).drew.drew
        rw [HW.out] at hg3 hx2
        clear hg2 HW
        go_wp2_with fail
        exact ⟨⟨k + 1, by omega, by go_num, hg3, hx2⟩, by simp [intOf]; omega⟩
      · obtain rfl : k = 64 := by omega
        have hl := hg.big_load Tryd.underlying134 rfl (w_info _ (schf_size part 64))
        have hs := hg.big_store rfl (w_info _ (schf_size part 64)) (schf_all part 64)
        have hb2 := hg.setRow (schf part 64)
        have x2 : Ext Non w (wr.setRow w.heap.size (schf part 64)) := hx.setRow (.inl (Nat.le_refl _)) _
        go_wp2
        exact bodyPost_ret (hb2.results Tryd.results82 _ rfl Tryd.underlying134 rfl (w_info _ (schf_size part 64))) rfl ⟨rfl, x2⟩
end Go.Proofs.YtnmpfbffacljfaaDoor
