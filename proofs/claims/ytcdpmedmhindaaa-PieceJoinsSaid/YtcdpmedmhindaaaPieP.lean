/- Pieces: what they are, their bytes; plain lemmas, no program. -/
import Derived.Test.YtcdpmedmhindaaaNum
namespace Go.Proofs.Ytcdpmedmhindaaa
open Go.RowKit

/-- A piece. -/
structure Pc where
  kind : Int
  id : Nat
  fr : Nat
  bx : Nat
  place : Int
  count : Int
  b : List UInt8
abbrev Pc.tup (p : Pc) := (p.kind, p.id, p.fr, p.bx, p.place, p.count, p.b)
theorem Pc.tup_inj {s t : Pc} (h : s.tup = t.tup) : s = t := by
  cases s
  cases t
  simp only [Pc.tup, Prod.mk.injEq] at h
  simp [h]
instance : DecidableEq Pc := fun s t => decidable_of_iff (s.kind = t.kind ∧ s.id = t.id ∧ s.fr = t.fr ∧ s.bx = t.bx ∧ s.place = t.place ∧ s.count = t.count ∧ s.b = t.b)
  ⟨fun h => Pc.tup_inj (by simp only [Pc.tup, Prod.mk.injEq]; exact h), fun h => by subst h; simp⟩
structure Pc.ok (p : Pc) : Prop where
  id : p.id < 4294967296
  fr : p.fr < 65536
  bx : p.bx < 65536
/-- Its cells. -/
def pcA (p : Pc) (A : Option Addr) (c : Nat) : Array Value := #[.int .i64 p.kind, .int .u32 p.id, .int .u16 p.fr, .int .u16 p.bx, .int .i64 p.place, .int .i64 p.count, .slice A p.b.length c]
theorem pcA_all (p : Pc) (A : Option Addr) (c : Nat) : (pcA p A c).all (·.oneCell') = true := by simp [pcA, Value.oneCell']
/-- As many bytes as it must have. -/
def pfl (p : Pc) : Bool := if p.place = p.count - 1 then decide (p.b.length ≤ 244) && (decide (0 < p.b.length) || decide (p.count = 1)) && decide (244 * p.place + p.b.length ≤ 4096) else decide (p.b.length = 244)
def prt (p : Pc) : Bool :=
  if p.kind = 1 then decide (1 ≤ p.count ∧ p.count ≤ 17 ∧ 0 ≤ p.place ∧ p.place < p.count) && pfl p
  else decide (p.place = 0 ∧ p.count = 0 ∧ p.b.length = 0) && (decide (p.kind = 2) || decide (p.kind = 3 ∧ p.fr = 0 ∧ p.bx = 0))
/-- What a right piece is. -/
theorem prt_facts {p : Pc} (h : prt p = true) : (1 ≤ p.kind ∧ p.kind ≤ 3) ∧ (0 ≤ p.place ∧ p.place ≤ 16) ∧ (0 ≤ p.count ∧ p.count ≤ 17) ∧ p.b.length ≤ 244 := by
  unfold prt at h
  split at h
  · rename_i hk
    simp only [Bool.and_eq_true, decide_eq_true_eq] at h
    obtain ⟨⟨h1, h2, h3, h4⟩, h5⟩ := h
    refine ⟨by omega, by omega, by omega, ?_⟩
    unfold pfl at h5
    split at h5
    · simp only [Bool.and_eq_true, decide_eq_true_eq] at h5
      exact h5.1.1
    · simp only [decide_eq_true_eq] at h5
      omega
  · rename_i hk
    simp only [Bool.and_eq_true, decide_eq_true_eq, Bool.or_eq_true] at h
    obtain ⟨⟨h1, h2, h3⟩, h4⟩ := h
    refine ⟨?_, by omega, by omega, by omega⟩
    rcases h4 with h4 | h4 <;> omega

/-- Its bytes. -/
def pcb (p : Pc) : List UInt8 := be 1 p.kind.toNat ++ be 4 p.id ++ be 2 p.fr ++ be 2 p.bx ++ be 1 p.place.toNat ++ be 1 p.count.toNat ++ be 1 p.b.length ++ p.b ++ zeros (244 - p.b.length)
theorem pcb_len {p : Pc} (h : p.b.length ≤ 244) : (pcb p).length = 256 := by
  simp only [pcb, List.length_append, be_length, zeros_length]
  omega
theorem prt_len {p : Pc} (h : prt p = true) : (pcb p).length = 256 := pcb_len (prt_facts h).2.2.2
def pencb (p : Pc) : List UInt8 := if prt p then pcb p else zeros 256
def pence (p : Pc) : Nat := if prt p then 0 else 1
theorem pencb_len (p : Pc) : (pencb p).length = 256 := by
  unfold pencb
  split
  · rename_i h; exact prt_len h
  · exact zeros_length 256
theorem pencb_rt {p : Pc} (h : prt p = true) : pencb p = pcb p := by unfold pencb; rw [if_pos h]
theorem pence_rt {p : Pc} (h : prt p = true) : pence p = 0 := by unfold pence; rw [if_pos h]

/-- The piece of bytes, whatever they say. -/
def rdpc (l : List UInt8) : Pc :=
  ⟨num ((l.drop 0).take 1), num ((l.drop 1).take 4), num ((l.drop 5).take 2), num ((l.drop 7).take 2), num ((l.drop 9).take 1), num ((l.drop 10).take 1), if num ((l.drop 11).take 1) ≤ 244 then (l.drop 12).take (num ((l.drop 11).take 1)) else []⟩
def pc0 : Pc := ⟨0, 0, 0, 0, 0, 0, []⟩
def pgood (l : List UInt8) : Bool := decide (num ((l.drop 11).take 1) ≤ 244) && prt (rdpc l) && decide (pcb (rdpc l) = l)
def pdece (l : List UInt8) : Nat := if pgood l then 0 else 3
def pdec (l : List UInt8) : Pc := if pgood l then rdpc l else pc0
theorem pnum_lt {l : List UInt8} {a k : Nat} (h : a + k ≤ l.length) : num ((l.drop a).take k) < 256 ^ k := num_lt k _ (by simp; omega)
theorem rdpc_ok {l : List UInt8} (h : l.length = 256) : (rdpc l).ok :=
  ⟨pnum_lt (l := l) (a := 1) (k := 4) (by omega), pnum_lt (l := l) (a := 5) (k := 2) (by omega), pnum_lt (l := l) (a := 7) (k := 2) (by omega)⟩
theorem pc0_ok : pc0.ok := ⟨by decide, by decide, by decide⟩
theorem pdec_ok {l : List UInt8} (h : l.length = 256) : (pdec l).ok := by
  unfold pdec
  split
  · exact rdpc_ok h
  · exact pc0_ok
theorem drop_at (x y : Nat) (h : x ≤ y) (l m : List UInt8) (hl : l.length = x) : (l ++ m).drop y = m.drop (y - x) := by
  rw [List.drop_append, List.drop_of_length_le (by omega), List.nil_append, hl]
theorem take_at (x : Nat) (l m : List UInt8) (hl : l.length = x) : (l ++ m).take x = l := by
  rw [List.take_append_of_le_length (by omega), List.take_of_length_le (by omega)]
/-- A right piece is read back. -/
theorem rdpc_pcb {p : Pc} (h : p.ok) (hr : prt p = true) : rdpc (pcb p) = p := by
  obtain ⟨⟨k1, k2⟩, ⟨p1, p2⟩, ⟨c1, c2⟩, hb⟩ := prt_facts hr
  have e0 : num (((pcb p).drop 0).take 1) = p.kind.toNat := by
    unfold pcb
    simp only [List.append_assoc, List.drop_zero]
    rw [take_at 1 _ _ (be_length _ _), num_be]
    exact Nat.mod_eq_of_lt (by omega)
  have e1 : num (((pcb p).drop 1).take 4) = p.id := by
    unfold pcb
    simp only [List.append_assoc]
    rw [drop_at 1 1 (by decide) _ _ (be_length _ _), Nat.sub_self, List.drop_zero, take_at 4 _ _ (be_length _ _), num_be]
    exact Nat.mod_eq_of_lt h.id
  have e5 : num (((pcb p).drop 5).take 2) = p.fr := by
    unfold pcb
    simp only [List.append_assoc]
    rw [drop_at 1 5 (by decide) _ _ (be_length _ _), drop_at 4 4 (by decide) _ _ (be_length _ _), Nat.sub_self, List.drop_zero, take_at 2 _ _ (be_length _ _), num_be]
    exact Nat.mod_eq_of_lt h.fr
  have e7 : num (((pcb p).drop 7).take 2) = p.bx := by
    unfold pcb
    simp only [List.append_assoc]
    rw [drop_at 1 7 (by decide) _ _ (be_length _ _), drop_at 4 6 (by decide) _ _ (be_length _ _), drop_at 2 2 (by decide) _ _ (be_length _ _), Nat.sub_self, List.drop_zero, take_at 2 _ _ (be_length _ _), num_be]
    exact Nat.mod_eq_of_lt h.bx
  have e9 : num (((pcb p).drop 9).take 1) = p.place.toNat := by
    unfold pcb
    simp only [List.append_assoc]
    rw [drop_at 1 9 (by decide) _ _ (be_length _ _), drop_at 4 8 (by decide) _ _ (be_length _ _), drop_at 2 4 (by decide) _ _ (be_length _ _), drop_at 2 2 (by decide) _ _ (be_length _ _), Nat.sub_self, List.drop_zero, take_at 1 _ _ (be_length _ _), num_be]
    exact Nat.mod_eq_of_lt (by omega)
  have e10 : num (((pcb p).drop 10).take 1) = p.count.toNat := by
    unfold pcb
    simp only [List.append_assoc]
    rw [drop_at 1 10 (by decide) _ _ (be_length _ _), drop_at 4 9 (by decide) _ _ (be_length _ _), drop_at 2 5 (by decide) _ _ (be_length _ _), drop_at 2 3 (by decide) _ _ (be_length _ _), drop_at 1 1 (by decide) _ _ (be_length _ _), Nat.sub_self, List.drop_zero, take_at 1 _ _ (be_length _ _), num_be]
    exact Nat.mod_eq_of_lt (by omega)
  have e11 : num (((pcb p).drop 11).take 1) = p.b.length := by
    unfold pcb
    simp only [List.append_assoc]
    rw [drop_at 1 11 (by decide) _ _ (be_length _ _), drop_at 4 10 (by decide) _ _ (be_length _ _), drop_at 2 6 (by decide) _ _ (be_length _ _), drop_at 2 4 (by decide) _ _ (be_length _ _), drop_at 1 2 (by decide) _ _ (be_length _ _), drop_at 1 1 (by decide) _ _ (be_length _ _), Nat.sub_self, List.drop_zero, take_at 1 _ _ (be_length _ _), num_be]
    exact Nat.mod_eq_of_lt (by omega)
  have e12 : ((pcb p).drop 12).take p.b.length = p.b := by
    unfold pcb
    simp only [List.append_assoc]
    rw [drop_at 1 12 (by decide) _ _ (be_length _ _), drop_at 4 11 (by decide) _ _ (be_length _ _), drop_at 2 7 (by decide) _ _ (be_length _ _), drop_at 2 5 (by decide) _ _ (be_length _ _), drop_at 1 3 (by decide) _ _ (be_length _ _), drop_at 1 2 (by decide) _ _ (be_length _ _), drop_at 1 1 (by decide) _ _ (be_length _ _), Nat.sub_self, List.drop_zero, take_at _ _ _ rfl]
  unfold rdpc
  rw [e0, e1, e5, e7, e9, e10, e11, e12, if_pos hb]
  apply Pc.tup_inj
  simp only [Pc.tup, Prod.mk.injEq, and_true, true_and]
  refine ⟨by omega, by omega, by omega⟩
theorem pgood_pcb {p : Pc} (h : p.ok) (hr : prt p = true) : pgood (pcb p) = true := by
  have e := rdpc_pcb h hr
  have hb := (prt_facts hr).2.2.2
  have e11 : num (((pcb p).drop 11).take 1) ≤ 244 := by
    rcases Nat.lt_or_ge 244 (num (((pcb p).drop 11).take 1)) with hlt | hle
    · exfalso
      have hbe : p.b.length = num (((pcb p).drop 11).take 1) := by
        unfold pcb
        simp only [List.append_assoc]
        rw [drop_at 1 11 (by decide) _ _ (be_length _ _), drop_at 4 10 (by decide) _ _ (be_length _ _), drop_at 2 6 (by decide) _ _ (be_length _ _), drop_at 2 4 (by decide) _ _ (be_length _ _), drop_at 1 2 (by decide) _ _ (be_length _ _), drop_at 1 1 (by decide) _ _ (be_length _ _), Nat.sub_self, List.drop_zero, take_at 1 _ _ (be_length _ _), num_be]
        exact (Nat.mod_eq_of_lt (by omega)).symm
      omega
    · exact hle
  unfold pgood
  rw [e, hr]
  simp [e11]
theorem pdec_pcb {p : Pc} (h : p.ok) (hr : prt p = true) : pdec (pcb p) = p ∧ pdece (pcb p) = 0 := by
  have e := pgood_pcb h hr
  unfold pdec pdece
  rw [if_pos e, if_pos e]
  exact ⟨rdpc_pcb h hr, rfl⟩
theorem pgood_facts {l : List UInt8} (h : pgood l = true) : prt (rdpc l) = true ∧ pcb (rdpc l) = l := by
  unfold pgood at h
  simp only [Bool.and_eq_true, decide_eq_true_eq] at h
  exact ⟨h.1.2, h.2⟩

/-! ### A message in pieces -/
def cnt (m : List UInt8) : Nat := max ((m.length + 243) / 244) 1
def pce (m : List UInt8) (i : Nat) : List UInt8 := (m.drop (244 * i)).take 244
def mpc (id fr bx : Nat) (m : List UInt8) (i : Nat) : Pc := ⟨1, id, fr, bx, i, cnt m, pce m i⟩
theorem cnt_facts (m : List UInt8) (h : m.length ≤ 4096) : 1 ≤ cnt m ∧ cnt m ≤ 17 ∧ m.length ≤ 244 * cnt m ∧ (cnt m = 1 ∨ 244 * (cnt m - 1) < m.length) := by
  unfold cnt
  rcases Nat.le_total ((m.length + 243) / 244) 1 with h1 | h1
  · rw [Nat.max_eq_right h1]; omega
  · rw [Nat.max_eq_left h1]; omega
theorem pce_len (m : List UInt8) (i : Nat) : (pce m i).length = min 244 (m.length - 244 * i) := by simp [pce]
theorem mpc_ok {id fr bx : Nat} (hid : id < 4294967296) (hfr : fr < 65536) (hbx : bx < 65536) (m : List UInt8) (i : Nat) : (mpc id fr bx m i).ok := ⟨hid, hfr, hbx⟩
theorem mpc_rt (id fr bx : Nat) {m : List UInt8} (h : m.length ≤ 4096) {i : Nat} (hi : i < cnt m) : prt (mpc id fr bx m i) = true := by
  obtain ⟨h1, h2, h3, h4⟩ := cnt_facts m h
  have hl := pce_len m i
  unfold prt
  rw [if_pos (show (mpc id fr bx m i).kind = 1 from rfl)]
  have hp : pfl (mpc id fr bx m i) = true := by
    unfold pfl mpc
    simp only
    by_cases e : (i : Int) = (cnt m : Int) - 1
    · rw [if_pos e]
      simp only [Bool.and_eq_true, Bool.or_eq_true, decide_eq_true_eq]
      have h5 := Nat.min_le_left 244 (m.length - 244 * i)
      have h6 := Nat.min_le_right 244 (m.length - 244 * i)
      have h7 : 0 < m.length - 244 * i → 0 < min 244 (m.length - 244 * i) := fun h => Nat.lt_min.2 ⟨by decide, h⟩
      rw [hl]
      refine ⟨⟨by omega, ?_⟩, by omega⟩
      rcases h4 with h4 | h4
      · right; omega
      · left; omega
    · rw [if_neg e]
      simp only [decide_eq_true_eq]
      rw [hl]
      have : min 244 (m.length - 244 * i) = 244 := Nat.min_eq_left (by omega)
      exact this
  rw [hp]
  simp only [Bool.and_true, decide_eq_true_eq]
  show 1 ≤ (cnt m : Int) ∧ (cnt m : Int) ≤ 17 ∧ 0 ≤ (i : Int) ∧ (i : Int) < (cnt m : Int)
  omega
theorem parts_join (m : List UInt8) : ∀ n, ((List.range n).flatMap (pce m)) = m.take (244 * n)
  | 0 => by simp
  | n + 1 => by
    rw [List.range_succ, List.flatMap_append, parts_join m n]
    simp only [List.flatMap_cons, List.flatMap_nil, List.append_nil, pce]
    rw [show 244 * (n + 1) = 244 * n + 244 from rfl, List.take_add]
theorem parts_whole {m : List UInt8} (h : m.length ≤ 4096) : ((List.range (cnt m)).flatMap (pce m)) = m := by
  rw [parts_join]
  exact List.take_of_length_le (cnt_facts m h).2.2.1
end Go.Proofs.Ytcdpmedmhindaaa
