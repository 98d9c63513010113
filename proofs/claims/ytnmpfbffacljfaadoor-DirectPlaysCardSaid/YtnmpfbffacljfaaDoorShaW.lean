/- Contracts of package sha: a stream that takes bytes. -/
import Derived.Test.YtnmpfbffacljfaaDoorShaM
namespace Go.Proofs.YtnmpfbffacljfaaDoor
open Go.RowKit

def strmL (b : Bool) (h : List UInt32) (part : List UInt8) (n : Nat) : List Value := Value.bool b :: (h.map v32 ++ (bvs part ++ [.int .u64 (n : Int)]))
theorem strm_list (b : Bool) (h : List UInt32) (part : List UInt8) (n : Nat) : strm b h part n = (strmL b h part n).toArray := rfl
section
variable {b : Bool} {h h' : List UInt32} {part m : List UInt8} {n : Nat}
theorem strmL_len (hh : h.length = 8) (hp : part.length = 64) : (strmL b h part n).length = 74 := by simp [strmL, bvs_length, hh, hp]
theorem strm_splice_h (hh : h.length = 8) (hh' : h'.length = 8) : splice (strmL b h part n) 1 (h'.map v32) = strmL b h' part n := by
  unfold splice strmL
  rw [List.take_succ_cons, List.take_zero, List.length_map, hh', show 1 + 8 = 8 + 1 from rfl, List.drop_succ_cons, List.drop_append_of_le_length (by simp [hh]), List.drop_of_length_le (by simp [hh])]
  simp
theorem strm_splice_p (hh : h.length = 8) (hp : part.length = 64) (o : Nat) (ho : o + m.length ≤ 64) : splice (strmL b h part n) (9 + o) (bvs m) = strmL b h (splice part o m) n := by
  unfold splice strmL
  have e1 : 9 + o = (8 + o) + 1 := by omega
  have e2 : 9 + o + (bvs m).length = (8 + (o + m.length)) + 1 := by rw [bvs_length]; omega
  have h8 : (h.map v32).length = 8 := by simp [hh]
  rw [e2, e1, List.take_succ_cons, List.drop_succ_cons]
  have t1 : (h.map v32 ++ (bvs part ++ [Value.int .u64 (n : Int)])).take (8 + o) = h.map v32 ++ (bvs part).take o := by
    rw [List.take_append, h8, List.take_of_length_le (by omega), show 8 + o - 8 = o from by omega, List.take_append_of_le_length (by rw [bvs_length]; omega)]
  have t2 : (h.map v32 ++ (bvs part ++ [Value.int .u64 (n : Int)])).drop (8 + (o + m.length)) = (bvs part).drop (o + m.length) ++ [Value.int .u64 (n : Int)] := by
    rw [List.drop_append, h8, List.drop_of_length_le (by omega), List.nil_append, show 8 + (o + m.length) - 8 = o + m.length from by omega, List.drop_append_of_le_length (by rw [bvs_length]; omega)]
  rw [t1, t2]
  simp [bvs, List.map_take, List.map_drop]
end

/-- A stream that has taken l (begun or not). -/
def Strm (w : World) (p : Nat) (l : List UInt8) : Prop := ∃ (b : Bool) (h : List UInt32) (part : List UInt8), Blk w p 100 (strm b h part l.length) ∧ h.length = 8 ∧ part.length = 64 ∧
  (b = true → h = hk l (l.length / 64)) ∧ (b = false → l = []) ∧ part.take (l.length % 64) = l.drop (64 * (l.length / 64)) ∧ l.length ≤ 1125899906842624
/-- A stream that has begun. -/
def Strm1 (w : World) (p : Nat) (l : List UInt8) : Prop := ∃ (part : List UInt8), Blk w p 100 (strm true (hk l (l.length / 64)) part l.length) ∧ part.length = 64 ∧
  part.take (l.length % 64) = l.drop (64 * (l.length / 64)) ∧ l.length ≤ 1125899906842624
section
variable {S : Nat → Prop} {w w' : World} {p : Nat} {l : List UInt8}
theorem Strm.lt (h : Strm w p l) : p < w.heap.size := let ⟨_, _, _, hb, _⟩ := h; hb.lt
theorem Strm.ext (h : Strm w p l) (hx : Ext S w w') (hp : ¬ S p) : Strm w' p l := let ⟨b, h, part, hb, r⟩ := h; ⟨b, h, part, hb.ext hx hp, r⟩
theorem Strm.extN (h : Strm w p l) (hx : Ext Non w w') : Strm w' p l := h.ext hx (fun h => h)
theorem Strm1.lt (h : Strm1 w p l) : p < w.heap.size := let ⟨_, hb, _⟩ := h; hb.lt
theorem Strm1.ext (h : Strm1 w p l) (hx : Ext S w w') (hp : ¬ S p) : Strm1 w' p l := let ⟨part, hb, r⟩ := h; ⟨part, hb.ext hx hp, r⟩
theorem Strm1.extN (h : Strm1 w p l) (hx : Ext Non w w') : Strm1 w' p l := h.ext hx (fun h => h)
theorem Strm1.strm (h : Strm1 w p l) : Strm w p l := let ⟨part, hb, h1, h2, h3⟩ := h; ⟨true, _, part, hb, hk_len _ _, h1, fun _ => rfl, (by intro h; cases h), h2, h3⟩
end

/-- The stream of no bytes, as a variable begins. -/
def strm0 : Array Value := strm false Z8 (zeros 64) 0
theorem strm0_size : strm0.size = 74 := strm_size Z8_len (zeros_length 64)
@[go_sem ↓] theorem zero_s (w : World) : (zeroValue 100).run Tryd.prog w = .ok (.agg strm0) w :=
  (zero_of_info (P := Tryd.prog) (t := 100) (n := 74) (by kernel_rfl)).1 w
theorem strm_new (w : World) : Strm (w.alloc (.cells strm0 100)) w.heap.size [] :=
  ⟨false, Z8, zeros 64, Blk.new _ _ _, Z8_len, zeros_length 64, (by intro h; cases h), fun _ => rfl, rfl, Nat.zero_le _⟩

/-! ### begin -/
theorem load_g {w : World} (G : Glob w) : (bigLoad 97 (.pointer (some ⟨0, 0, none⟩))).run Tryd.prog w = .ok (.agg (u32a H0)) w :=
  run_loadAt_mid (P := Tryd.prog) w 0 0 97 (H0.map v32) _ G.h Tryd.underlying97 rfl (by kernel_rfl)
set_option maxRecDepth 100000 in
theorem begin_calls {w : World} {p : Nat} {b : Bool} {h : List UInt32} {part : List UInt8} {n : Nat} (hh : h.length = 8) (hp : part.length = 64) (hb : Blk w p 100 (strm b h part n)) (G : Glob w) :
    Calls Tryd.prog 66 #[.pointer (some ⟨p, 0, none⟩)] w fun e w' => (∃ v, e = .returned v) ∧ Blk w' p 100 (strm true (if b then h else H0) part n) ∧ Ext (One p) w w' := by
  have c0 := hb.cell 0
  rw [strm_0] at c0
  cases b with
  | true =>
    go_enter Tryd.func66, Tryd.ntmps66
    go_wp2_with fail
    go_end0
    exact ⟨⟨_, rfl⟩, hb, Ext.refl _ _⟩
  | false =>
    have f0 := hb.frozen 0
    have lg := load_g G
    have hb1 := hb.set_ 0 (.bool true)
    rw [strm_set_0] at hb1
    have st := run_storeAt_mid (P := Tryd.prog) (w.setCell ⟨p, 0, none⟩ (.bool true)) p 1 97 (u32a H0) (hb1.there 1 8 (by rw [strm_size hh hp]; decide)) (h_info _ rfl) (u32a_all H0)
    have st2 : (bigStore 97 (.pointer (some ⟨p, 1, none⟩)) (.agg (u32a H0))).run Tryd.prog (w.setCell ⟨p, 0, none⟩ (.bool true)) = .ok () ((w.setCell ⟨p, 0, none⟩ (.bool true)).setCells p 1 (H0.map v32)) := st
    have hb2 := Blk.setCells (H0.map v32) 1 (cs := strmL true h part n) hb1 (by rw [strmL_len hh hp]; decide)
    rw [strm_splice_h hh rfl] at hb2
    have hx2 : Ext (One p) w ((w.setCell ⟨p, 0, none⟩ (.bool true)).setCells p 1 (H0.map v32)) := Ext.setCells (S := One p) (Ext.refl _ w) p (.inr rfl) (H0.map v32) 1 ((Ext.refl Non w).setN (g := p) 0 (.bool true))
    generalize (w.setCell ⟨p, 0, none⟩ (.bool true)).setCells p 1 (H0.map v32) = w2 at *
    clear st hb1
    go_enter Tryd.func66, Tryd.ntmps66
    go_wp2_with fail
    go_end0
    exact ⟨⟨_, rfl⟩, hb2, hx2⟩
theorem begin_strm {w : World} {p : Nat} {l : List UInt8} (h : Strm w p l) (G : Glob w) :
    Calls Tryd.prog 66 #[.pointer (some ⟨p, 0, none⟩)] w fun e w' => (∃ v, e = .returned v) ∧ Strm1 w' p l ∧ Ext (One p) w w' := by
  obtain ⟨b, h, part, hb, hh, hp, h1, h2, h3, h4⟩ := h
  refine (begin_calls hh hp hb G).mono ?_
  rintro e w' ⟨he, hb', hx⟩
  refine ⟨he, ⟨part, ?_, hp, h3, h4⟩, hx⟩
  cases b with
  | true => rw [← h1 rfl]; exact hb'
  | false =>
    obtain rfl := h2 rfl
    rw [show ([] : List UInt8).length / 64 = 0 from rfl, hk_zero]
    exact hb'

/-! ### Write -/
theorem strm_adv {L part chunk : List UInt8} (hp : part.length = 64) (ht : part.take (L.length % 64) = L.drop (64 * (L.length / 64))) (hk0 : L.length % 64 + chunk.length ≤ 64) :
    (splice part (L.length % 64) chunk).length = 64 ∧
    (L.length % 64 + chunk.length < 64 → (L ++ chunk).length / 64 = L.length / 64 ∧ (L ++ chunk).length % 64 = L.length % 64 + chunk.length ∧
      (splice part (L.length % 64) chunk).take (L.length % 64 + chunk.length) = (L ++ chunk).drop (64 * (L.length / 64)) ∧ hk (L ++ chunk) (L.length / 64) = hk L (L.length / 64)) ∧
    (L.length % 64 + chunk.length = 64 → (L ++ chunk).length / 64 = L.length / 64 + 1 ∧ (L ++ chunk).length % 64 = 0 ∧
      comp (hk L (L.length / 64)) (splice part (L.length % 64) chunk) = hk (L ++ chunk) (L.length / 64 + 1)) := by
  have hsl : (splice part (L.length % 64) chunk).length = 64 := by rw [length_splice _ _ _ (by omega), hp]
  have hta : (splice part (L.length % 64) chunk).take (L.length % 64 + chunk.length) = (L ++ chunk).drop (64 * (L.length / 64)) := by
    unfold splice
    rw [← List.append_assoc, List.take_append_of_le_length (by simp; omega), List.take_of_length_le (by simp; omega), ht, List.drop_append_of_le_length (by omega)]
  have hkk : hk (L ++ chunk) (L.length / 64) = hk L (L.length / 64) := hk_append L chunk _ (by omega)
  refine ⟨hsl, fun h => ⟨by simp; omega, by simp; omega, hta, hkk⟩, fun h => ⟨by simp; omega, by simp; omega, ?_⟩⟩
  rw [hk_succ, hkk]
  congr 1
  rw [← hta, h, List.take_take, List.take_of_length_le (by omega)]

set_option maxRecDepth 100000 in
theorem copy_p {w : World} {p : Nat} {h : List UInt32} {part chunk : List UInt8} {n : Nat} (ty : TypeId) (hh : h.length = 8) (hp : part.length = 64) (hb : Blk w p 100 (strm true h part n))
    {D : Nat → Prop} {A : Option Addr} {m : List UInt8} (hr : Rd w D A (bvs m)) (o len c k : Nat) (hm : m.length = len) (hk0 : 0 < k) (hk : k = Nat.min len (64 - o)) (ho : o < 64) (hc : chunk = m.take k) :
    (Builtin.copy_ #[50, 50] ty #[.slice (some ⟨p, 9 + o, none⟩) (64 - o) (64 - o), .slice A len c]).run Tryd.prog w = .ok (.int .i64 (k : Int)) (w.setRow p (strm true h (splice part o chunk) n)) := by
  have hk1 : k ≤ len := by rw [hk]; exact Nat.min_le_left _ _
  have hk2 : k ≤ 64 - o := by rw [hk]; exact Nat.min_le_right _ _
  have hcl : chunk.length = k := by rw [hc]; simp; omega
  obtain ⟨a, rfl, _⟩ := hr.at_ (bvs_get m 0 (by omega))
  have hsrc : ∀ j v, (bvs chunk)[j]? = some v → w.cell? (a.add j) = some v := fun j v hv => by
    have hj : j < k := by have := (List.getElem?_eq_some_iff.1 hv).1; rw [bvs_length, hcl] at this; exact this
    have hv' : (bvs m)[j]? = some v := by
      rw [← hv, hc]
      simp [bvs, hj]
    obtain ⟨a', e, hcell⟩ := hr.at_ hv'
    injection e with e
    subst e
    exact hcell
  have := run_copy_row (P := Tryd.prog) w 50 50 ty 5 p (9 + o) (64 - o) (64 - o) a len c _ 100 (bvs chunk) Tryd.underlying50 s8 hb (by rw [bvs_length, hcl, hk]) hsrc (by rw [strm_size hh hp, bvs_length]; omega) (bvs_one chunk)
  rw [this, bvs_length, hcl]
  congr 2
  have e := strm_splice_p (b := true) (n := n) (m := chunk) hh hp o (by omega)
  rw [strm_list, strm_list, ← e]
  show (List.take (9 + o) (strmL true h part n) ++ bvs chunk ++ List.drop (9 + o + k) (strmL true h part n)).toArray = _
  unfold splice
  rw [bvs_length, hcl, List.append_assoc]

set_option maxRecDepth 100000 in
set_option maxHeartbeats 2000000 in
theorem write_calls {w : World} {p : Nat} {l : List UInt8} (hs : Strm w p l) (G : Glob w) (hp2 : 2 ≤ p) {D : Nat → Prop} {A : Option Addr} {m : List UInt8} (c len : Nat) (hr : Rd w D A (bvs m)) (hm : m.length = len) (hc : len ≤ c) (hD : ¬ D p)
    (hlen : l.length + m.length ≤ 1125899906842624) :
    Calls Tryd.prog 52 #[.pointer (some ⟨p, 0, none⟩), .slice A len c] w fun e w' => (∃ v, e = .returned v) ∧ Strm1 w' p (l ++ m) ∧ Ext (One p) w w' := by
  go_enter Tryd.func52, Tryd.ntmps52
  go_wp2_with fail
  have ctr := begin_strm hs G
  with_reducible refine Calls.mono ctr ?_
  clear ctr
  rintro e w1 ⟨⟨v0, rfl⟩, s1, x1⟩
  have hr1 := hr.ext x1 (fun k hk h => hD ((show k = p from h) ▸ hk))
  go_wp2_with fail
  go_loopw [1] (fun b wr => ∃ (j : Nat) (A' : Option Addr) (c' : Nat), j ≤ len ∧ b = .slice A' (len - j) c' ∧ Rd wr D A' (bvs (m.drop j)) ∧ len - j ≤ c' ∧ Strm1 wr p (l ++ m.take j) ∧ Ext (One p) w wr) (fun b _ => match b with | .slice _ n _ => n | _ => 0)
  case atStart => exact ⟨0, A, c, by omega, by simp, by simpa using hr1, by simpa using hc, by simpa using s1, x1⟩
  case round =>
    clear hr1 s1 x1
    obtain ⟨j, A', c', hj, rfl, hrj, hcj, hst, hx⟩ := hrel
    by_cases hlt : j < len
    · obtain ⟨part, hb, hp, ht, hL⟩ := hst
      have hLl : (l ++ m.take j).length = l.length + j := by simp; omega
      obtain ⟨L, hLe⟩ : ∃ L, l ++ m.take j = L := ⟨_, rfl⟩
      rw [hLe] at hb ht hL hLl
      obtain ⟨N, hN⟩ : ∃ N, L.length = N := ⟨_, rfl⟩
      obtain ⟨o, ho⟩ : ∃ o, N % 64 = o := ⟨_, rfl⟩
      obtain ⟨k, hkm⟩ : ∃ k, k = Nat.min (len - j) (64 - o) := ⟨_, rfl⟩
      have hk1 : k ≤ len - j := by rw [hkm]; exact Nat.min_le_left _ _
      have hk2 : k ≤ 64 - o := by rw [hkm]; exact Nat.min_le_right _ _
      have hk3 : k = len - j ∨ k = 64 - o := by rcases Nat.le_total (len - j) (64 - o) with h | h; exact .inl (by rw [hkm]; exact Nat.min_eq_left h); exact .inr (by rw [hkm]; exact Nat.min_eq_right h)
      have ho64 : o < 64 := by omega
      have hk0 : 0 < k := by omega
      obtain ⟨chunk, hch⟩ : ∃ chunk, chunk = (m.drop j).take k := ⟨_, rfl⟩
      have hchl : chunk.length = k := by rw [hch]; simp; omega
      have hadv := strm_adv (chunk := chunk) hp ht (by rw [hN, ho, hchl]; omega)
      rw [hN, ho, hchl] at hadv
      rw [hN] at hb
      obtain ⟨hsl, hA1, hA2⟩ := hadv
      have hh := hk_len L (N / 64)
      have hnext : l ++ m.take (j + k) = L ++ chunk := by rw [← hLe, hch, List.append_assoc, List.take_add]
      have cn : wr.cell? ⟨p, 73, none⟩ = some (.int .u64 (N : Int)) := by rw [hb.cell, strm_n hh hp]
      have sl := fun W => run_arr_lo (P := Tryd.prog) W Tryd.underlying98 s8 p 9 .i64 (o : Int) o rfl ho64
      have cp := fun ty => copy_p ty hh hp hb hrj o (len - j) c' k (by simp; omega) hk0 hkm ho64 hch
      have hb1 := hb.setRow (strm true (hk L (N / 64)) (splice part o chunk) N)
      have hx1 : Ext (One p) w (wr.setRow p (strm true (hk L (N / 64)) (splice part o chunk) N)) := hx.setRow (.inr rfl) _
      have x01 : Ext (One p) wr (wr.setRow p (strm true (hk L (N / 64)) (splice part o chunk) N)) := Ext.setRow (S := One p) (Ext.refl _ _) (.inr rfl) _
      have cn1 : (wr.setRow p (strm true (hk L (N / 64)) (splice part o chunk) N)).cell? ⟨p, 73, none⟩ = some (.int .u64 (N : Int)) := by rw [hb1.cell, strm_n hh hsl]
      have fn1 := hb1.frozen 73
      generalize wr.setRow p (strm true (hk L (N / 64)) (splice part o chunk) N) = w1 at *
      have hb2 := hb1.set_ 73 (.int .u64 ((N + k : Nat) : Int))
      rw [strm_set_n hh hsl] at hb2
      have hx2 := hx1.set1 73 (.int .u64 ((N + k : Nat) : Int))
      have x02 := x01.set1 73 (.int .u64 ((N + k : Nat) : Int))
      have hr2 : Rd (w1.setCell ⟨p, 73, none⟩ (.int .u64 ((N + k : Nat) : Int))) D (cut A' k c') (bvs (m.drop (j + k))) := by
        have := (hrj.ext x02 (fun i hi h => hD ((show i = p from h) ▸ hi))).cut (k := k) (cap := c') (by rw [bvs_length]; simp; omega)
        rw [show bvs (m.drop (j + k)) = (bvs (m.drop j)).drop k from by simp [bvs, List.map_drop, List.drop_drop]]
        exact this
      have e1 : (N : Int) % 64 = (o : Int) := by omega
      have e2 : (N : Int) + (k : Int) = ((N + k : Nat) : Int) := by omega
      have hNk : N + k ≤ 1125899906842624 := by omega
      have e3 : len - j - k = len - (j + k) := by omega
      have e4 : (k : Int) ≤ ((len - j : Nat) : Int) := by omega
      have e5 : (0 : Int) < ((len - j : Nat) : Int) := by omega
      obtain ⟨q, hq⟩ : ∃ q, N + k = q := ⟨_, rfl⟩
      rw [hq] at hb2 hx2 x02 hr2 e2 hNk
      have HQ := Lib.hid hq
      have HO := Lib.hid ho
      have HN := Lib.hid hN
      have HC := Lib.hid hch
      have HCL := Lib.hid hchl
      have HE := Lib.hid hLe
      have HNX := Lib.hid hnext
      have HLL := Lib.hid hLl
      have HK := Lib.hid hkm
      clear hq ho hN hch hchl hLe hnext hLl hkm x01 x02 hb1 hx1 hb ht hrj
      by_cases hf : o + k = 64
      · have t1 : ((o : Int) + (k : Int) == 64) = true := beq_iff_eq.2 (by omega)
        have hA := hA2 hf
        have HA := Lib.hid hA
        clear hA hA1 hA2 hf
        have Gw := G.one hx2 hp2
        go_wp2_with fail
        have ctr := mix_calls hh hsl hb2 Gw
        with_reducible refine Calls.mono ctr ?_
        clear ctr
        rintro e w3 ⟨⟨v1, rfl⟩, hb3, x3⟩
        have hr3 := hr2.ext x3 (fun i hi h => hD ((show i = p from h) ▸ hi))
        go_wp2_with fail
        refine ⟨⟨j + k, cut A' k c', c' - k, by omega, rfl, hr3, by omega, ?_, hx2.trans' x3⟩, by show len - (j + k) < len - j; omega⟩
        obtain ⟨g1, g2, g3⟩ := HA.out
        rw [HNX.out]
        have hlq : (L ++ chunk).length = q := by rw [List.length_append, HN.out, HCL.out, HQ.out]
        refine ⟨splice part o chunk, ?_, hsl, ?_, by rw [hlq]; exact hNk⟩
        · rw [g1, ← g3, hlq]
          exact hb3
        · rw [g2, g1, List.take_zero, List.drop_of_length_le (by omega)]
      · have t1 : ((o : Int) + (k : Int) == 64) = false := beq_eq_false_iff_ne.2 (by omega)
        have hA := hA1 (by omega)
        have HA := Lib.hid hA
        clear hA hA1 hA2 hf
        go_wp2_with fail
        refine ⟨⟨j + k, cut A' k c', c' - k, by omega, rfl, hr2, by omega, ?_, hx2⟩, by show len - (j + k) < len - j; omega⟩
        obtain ⟨g1, g2, g3, g4⟩ := HA.out
        rw [HNX.out]
        have hlq : (L ++ chunk).length = q := by rw [List.length_append, HN.out, HCL.out, HQ.out]
        refine ⟨splice part o chunk, ?_, hsl, ?_, by rw [hlq]; exact hNk⟩
        · rw [g1, g4, hlq]
          exact hb2
        · rw [g2, g1]
          exact g3
    · obtain rfl : j = len := by omega
      rw [List.take_of_length_le (by omega)] at hst
      have e0 : ¬ (0 : Int) < ((j - j : Nat) : Int) := by omega
      go_wp2_with fail
      go_end0
      exact ⟨⟨_, rfl⟩, hst, hx⟩
end Go.Proofs.YtnmpfbffacljfaaDoor
