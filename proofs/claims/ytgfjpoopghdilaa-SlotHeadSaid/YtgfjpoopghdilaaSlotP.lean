/- Slots and packets: what they are, their bytes; plain lemmas, no program. -/
import Derived.Test.YtgfjpoopghdilaaNum
import Derived.Test.YtgfjpoopghdilaaRow
namespace Go.Proofs.Ytgfjpoopghdilaa
open Go.RowKit

/-- A slot. -/
structure Sl where
  last : Bool
  next : Nat
  box : Nat
  who : Nat
  epoch : Nat
  nonce : List UInt8
  mac : List UInt8
  lo : Nat
  hi : Nat
  delay : Nat
abbrev Sl.tup (s : Sl) := (s.last, s.next, s.box, s.who, s.epoch, s.nonce, s.mac, s.lo, s.hi, s.delay)
theorem Sl.tup_inj {s t : Sl} (h : s.tup = t.tup) : s = t := by
  cases s
  cases t
  simp only [Sl.tup, Prod.mk.injEq] at h
  simp [h]
instance : DecidableEq Sl := fun s t => decidable_of_iff (s.last = t.last ∧ s.next = t.next ∧ s.box = t.box ∧ s.who = t.who ∧ s.epoch = t.epoch ∧ s.nonce = t.nonce ∧ s.mac = t.mac ∧ s.lo = t.lo ∧ s.hi = t.hi ∧ s.delay = t.delay)
  ⟨fun h => Sl.tup_inj (by simp only [Sl.tup, Prod.mk.injEq]; exact h), fun h => by subst h; simp⟩
structure Sl.ok (s : Sl) : Prop where
  next : s.next < 65536
  box : s.box < 65536
  who : s.who < 65536
  epoch : s.epoch < 4294967296
  nonce : s.nonce.length = 16
  mac : s.mac.length = 16
  lo : s.lo < 18446744073709551616
  hi : s.hi < 18446744073709551616
  delay : s.delay < 4294967296
/-- Its cells. -/
def slL (s : Sl) : List Value := .bool s.last :: .int .u16 s.next :: .int .u16 s.box :: .int .u16 s.who :: .int .u32 s.epoch :: (bvs s.nonce ++ (bvs s.mac ++ [.int .u64 s.lo, .int .u64 s.hi, .int .u32 s.delay]))
def sl (s : Sl) : Array Value := (slL s).toArray
section
variable {s : Sl} (h : s.ok)
include h
theorem sl_size : (sl s).size = 40 := by simp [sl, slL, bvs_length, h.nonce, h.mac]
theorem sl_get0 : (sl s)[0]? = some (.bool s.last) := by simp [sl, slL, List.getElem?_append, bvs_length, h.nonce, h.mac]
theorem sl_get1 : (sl s)[1]? = some (.int .u16 s.next) := by simp [sl, slL, List.getElem?_append, bvs_length, h.nonce, h.mac]
theorem sl_get2 : (sl s)[2]? = some (.int .u16 s.box) := by simp [sl, slL, List.getElem?_append, bvs_length, h.nonce, h.mac]
theorem sl_get3 : (sl s)[3]? = some (.int .u16 s.who) := by simp [sl, slL, List.getElem?_append, bvs_length, h.nonce, h.mac]
theorem sl_get4 : (sl s)[4]? = some (.int .u32 s.epoch) := by simp [sl, slL, List.getElem?_append, bvs_length, h.nonce, h.mac]
theorem sl_get37 : (sl s)[37]? = some (.int .u64 s.lo) := by simp [sl, slL, List.getElem?_append, bvs_length, h.nonce, h.mac]
theorem sl_get38 : (sl s)[38]? = some (.int .u64 s.hi) := by simp [sl, slL, List.getElem?_append, bvs_length, h.nonce, h.mac]
theorem sl_get39 : (sl s)[39]? = some (.int .u32 s.delay) := by simp [sl, slL, List.getElem?_append, bvs_length, h.nonce, h.mac]
theorem sl_set37 (v : Nat) : (sl s).setIfInBounds 37 (.int .u64 v) = sl { s with lo := v } := by simp [sl, slL, List.set_append, bvs_length, h.nonce, h.mac]
theorem sl_set38 (v : Nat) : (sl s).setIfInBounds 38 (.int .u64 v) = sl { s with hi := v } := by simp [sl, slL, List.set_append, bvs_length, h.nonce, h.mac]
theorem sl_set39 (v : Nat) : (sl s).setIfInBounds 39 (.int .u32 v) = sl { s with delay := v } := by simp [sl, slL, List.set_append, bvs_length, h.nonce, h.mac]
theorem sl_nonce : (sl s).extract 5 21 = ba s.nonce := by
  apply Array.toList_inj.1
  simp [sl, slL, ba, List.extract, bvs_length, h.nonce, h.mac, List.take_append]
theorem sl_mac : (sl s).extract 21 37 = ba s.mac := by
  apply Array.toList_inj.1
  simp [sl, slL, ba, List.extract, bvs_length, h.nonce, h.mac, List.take_append, List.drop_append]
end
theorem sl_set0 (s : Sl) (v : Bool) : (sl s).setIfInBounds 0 (.bool v) = sl { s with last := v } := by simp [sl, slL]
theorem sl_set1 (s : Sl) (v : Nat) : (sl s).setIfInBounds 1 (.int .u16 v) = sl { s with next := v } := by simp [sl, slL]
theorem sl_set2 (s : Sl) (v : Nat) : (sl s).setIfInBounds 2 (.int .u16 v) = sl { s with box := v } := by simp [sl, slL]
theorem sl_set3 (s : Sl) (v : Nat) : (sl s).setIfInBounds 3 (.int .u16 v) = sl { s with who := v } := by simp [sl, slL]
theorem sl_set4 (s : Sl) (v : Nat) : (sl s).setIfInBounds 4 (.int .u32 v) = sl { s with epoch := v } := by simp [sl, slL]
theorem bvs_cell (l : List UInt8) : ∀ u ∈ bvs l, u.oneCell' = true := bvs_one l
theorem sl_all (s : Sl) : (sl s).all (·.oneCell') = true := by
  refine Array.all_eq_true_iff_forall_mem.2 (fun v hv => ?_)
  simp only [sl, slL, List.mem_toArray, List.mem_cons, List.mem_append, List.not_mem_nil, or_false] at hv
  rcases hv with rfl | rfl | rfl | rfl | rfl | hv | hv | rfl | rfl | rfl
  all_goals first | rfl | exact bvs_one _ _ hv
theorem sl_ne (s : Sl) : sl s ≠ #[] := by
  intro e
  have := congrArg Array.size e
  simp [sl, slL] at this
/-- The slot of noughts. -/
def sl0 : Sl := ⟨false, 0, 0, 0, 0, zeros 16, zeros 16, 0, 0, 0⟩
theorem sl0_ok : sl0.ok := ⟨by decide, by decide, by decide, by decide, rfl, rfl, by decide, by decide, by decide⟩

/-- What one of its kind has. -/
def only (s : Sl) : Sl := if s.last then ⟨true, 0, s.box, 0, 0, zeros 16, zeros 16, s.lo, s.hi, s.delay⟩ else { s with box := 0 }
def right (s : Sl) : Bool := decide (s.lo ≤ s.hi) && decide (s = only s)
/-- Its bytes. -/
def slb (s : Sl) : List UInt8 := be 1 (if s.last then 1 else 0) ++ be 2 (if s.last then s.box else s.next) ++ be 8 s.lo ++ be 8 s.hi ++ be 4 s.delay ++ be 2 s.who ++ be 4 s.epoch ++ s.nonce ++ s.mac ++ zeros 3
theorem slb_len {s : Sl} (h : s.ok) : (slb s).length = 64 := by simp [slb, be_length, h.nonce, h.mac, zeros]
/-- The slot of bytes, whatever they say. -/
def rdsl (l : List UInt8) : Sl :=
  ⟨num (l.take 1) == 1, if num (l.take 1) == 1 then 0 else num ((l.drop 1).take 2), if num (l.take 1) == 1 then num ((l.drop 1).take 2) else 0, num ((l.drop 23).take 2), num ((l.drop 25).take 4), (l.drop 29).take 16, (l.drop 45).take 16, num ((l.drop 3).take 8), num ((l.drop 11).take 8), num ((l.drop 19).take 4)⟩
theorem num_lt' {l : List UInt8} {a k : Nat} (h : a + k ≤ l.length) : num ((l.drop a).take k) < 256 ^ k := num_lt k _ (by simp; omega)
theorem rdsl_ok {l : List UInt8} (h : l.length = 64) : (rdsl l).ok := by
  have h1 := num_lt' (l := l) (a := 1) (k := 2) (by omega)
  have h2 := num_lt' (l := l) (a := 23) (k := 2) (by omega)
  have h3 := num_lt' (l := l) (a := 25) (k := 4) (by omega)
  have h4 := num_lt' (l := l) (a := 3) (k := 8) (by omega)
  have h5 := num_lt' (l := l) (a := 11) (k := 8) (by omega)
  have h6 := num_lt' (l := l) (a := 19) (k := 4) (by omega)
  refine ⟨?_, ?_, h2, h3, by simp [rdsl]; omega, by simp [rdsl]; omega, h4, h5, h6⟩
  · show (if _ then 0 else _) < 65536
    split
    · decide
    · exact h1
  · show (if _ then _ else 0) < 65536
    split
    · exact h1
    · decide
/-- The slot of bytes, and what is wrong. -/
def encb (s : Sl) : List UInt8 := if right s then slb s else zeros 64
def ence (s : Sl) : Nat := if right s then 0 else 1
def dece (l : List UInt8) : Nat := if right (rdsl l) && decide (slb (rdsl l) = l) then 0 else 3
def decs (l : List UInt8) : Sl := if right (rdsl l) && decide (slb (rdsl l) = l) then rdsl l else sl0
theorem encb_len {s : Sl} (h : s.ok) : (encb s).length = 64 := by
  unfold encb
  split
  · exact slb_len h
  · simp [zeros]
theorem only_ok {s : Sl} (h : s.ok) : (only s).ok := by
  unfold only
  split
  · exact ⟨Nat.succ_pos _, h.box, Nat.succ_pos _, Nat.succ_pos _, rfl, rfl, h.lo, h.hi, h.delay⟩
  · exact ⟨h.next, Nat.succ_pos _, h.who, h.epoch, h.nonce, h.mac, h.lo, h.hi, h.delay⟩
theorem decs_ok {l : List UInt8} (h : l.length = 64) : (decs l).ok := by
  unfold decs
  split
  · exact rdsl_ok h
  · exact sl0_ok
/-- A right slot is read back. -/
theorem rdsl_slb {s : Sl} (h : s.ok) (hr : right s = true) : rdsl (slb s) = s := by
  simp only [right, Bool.and_eq_true, decide_eq_true_eq] at hr
  obtain ⟨_, ho⟩ := hr
  have a1 : ∀ x y : Nat, x ≤ y → ∀ l m : List UInt8, l.length = x → (l ++ m).drop y = m.drop (y - x) := by
    intro x y hxy l m hl
    rw [List.drop_append, List.drop_of_length_le (by omega), List.nil_append, hl]
  have a2 : ∀ x : Nat, ∀ l m : List UInt8, l.length = x → (l ++ m).take x = l := by
    intro x l m hl
    rw [List.take_append_of_le_length (by omega), List.take_of_length_le (by omega)]
  have hk : num ((slb s).take 1) = if s.last then 1 else 0 := by
    unfold slb
    simp only [List.append_assoc]
    rw [a2 1 _ _ (be_length _ _), num_be]
    split <;> rfl
  have ht : num (((slb s).drop 1).take 2) = if s.last then s.box else s.next := by
    unfold slb
    simp only [List.append_assoc]
    rw [a1 1 1 (by decide) _ _ (be_length _ _), Nat.sub_self, List.drop_zero, a2 2 _ _ (be_length _ _), num_be]
    split
    · exact Nat.mod_eq_of_lt h.box
    · exact Nat.mod_eq_of_lt h.next
  have e3 : num (((slb s).drop 3).take 8) = s.lo := by
    unfold slb
    simp only [List.append_assoc]
    rw [a1 1 3 (by decide) _ _ (be_length _ _), a1 2 2 (by decide) _ _ (be_length _ _), Nat.sub_self, List.drop_zero, a2 8 _ _ (be_length _ _), num_be]
    exact Nat.mod_eq_of_lt h.lo
  have e11 : num (((slb s).drop 11).take 8) = s.hi := by
    unfold slb
    simp only [List.append_assoc]
    rw [a1 1 11 (by decide) _ _ (be_length _ _), a1 2 10 (by decide) _ _ (be_length _ _), a1 8 8 (by decide) _ _ (be_length _ _), Nat.sub_self, List.drop_zero, a2 8 _ _ (be_length _ _), num_be]
    exact Nat.mod_eq_of_lt h.hi
  have e19 : num (((slb s).drop 19).take 4) = s.delay := by
    unfold slb
    simp only [List.append_assoc]
    rw [a1 1 19 (by decide) _ _ (be_length _ _), a1 2 18 (by decide) _ _ (be_length _ _), a1 8 16 (by decide) _ _ (be_length _ _), a1 8 8 (by decide) _ _ (be_length _ _), Nat.sub_self, List.drop_zero, a2 4 _ _ (be_length _ _), num_be]
    exact Nat.mod_eq_of_lt h.delay
  have e23 : num (((slb s).drop 23).take 2) = s.who := by
    unfold slb
    simp only [List.append_assoc]
    rw [a1 1 23 (by decide) _ _ (be_length _ _), a1 2 22 (by decide) _ _ (be_length _ _), a1 8 20 (by decide) _ _ (be_length _ _), a1 8 12 (by decide) _ _ (be_length _ _), a1 4 4 (by decide) _ _ (be_length _ _), Nat.sub_self, List.drop_zero, a2 2 _ _ (be_length _ _), num_be]
    exact Nat.mod_eq_of_lt h.who
  have e25 : num (((slb s).drop 25).take 4) = s.epoch := by
    unfold slb
    simp only [List.append_assoc]
    rw [a1 1 25 (by decide) _ _ (be_length _ _), a1 2 24 (by decide) _ _ (be_length _ _), a1 8 22 (by decide) _ _ (be_length _ _), a1 8 14 (by decide) _ _ (be_length _ _), a1 4 6 (by decide) _ _ (be_length _ _), a1 2 2 (by decide) _ _ (be_length _ _), Nat.sub_self, List.drop_zero, a2 4 _ _ (be_length _ _), num_be]
    exact Nat.mod_eq_of_lt h.epoch
  have e29 : ((slb s).drop 29).take 16 = s.nonce := by
    unfold slb
    simp only [List.append_assoc]
    rw [a1 1 29 (by decide) _ _ (be_length _ _), a1 2 28 (by decide) _ _ (be_length _ _), a1 8 26 (by decide) _ _ (be_length _ _), a1 8 18 (by decide) _ _ (be_length _ _), a1 4 10 (by decide) _ _ (be_length _ _), a1 2 6 (by decide) _ _ (be_length _ _), a1 4 4 (by decide) _ _ (be_length _ _), Nat.sub_self, List.drop_zero, a2 16 _ _ h.nonce]
  have e45 : ((slb s).drop 45).take 16 = s.mac := by
    unfold slb
    simp only [List.append_assoc]
    rw [a1 1 45 (by decide) _ _ (be_length _ _), a1 2 44 (by decide) _ _ (be_length _ _), a1 8 42 (by decide) _ _ (be_length _ _), a1 8 34 (by decide) _ _ (be_length _ _), a1 4 26 (by decide) _ _ (be_length _ _), a1 2 22 (by decide) _ _ (be_length _ _), a1 4 20 (by decide) _ _ (be_length _ _), a1 16 16 (by decide) _ _ h.nonce, Nat.sub_self, List.drop_zero, a2 16 _ _ h.mac]
  unfold rdsl
  rw [hk, ht, e3, e11, e19, e23, e25, e29, e45]
  cases hl : s.last
  · have hb : s.box = 0 := by
      have := congrArg Sl.box ho
      simpa [only, hl] using this
    clear ho
    apply Sl.tup_inj
    simp [Sl.tup, hb, hl]
  · have hn : s.next = 0 := by
      have := congrArg Sl.next ho
      simpa [only, hl] using this
    clear ho
    apply Sl.tup_inj
    simp [Sl.tup, hn, hl]
theorem dec_enc {s : Sl} (h : s.ok) (hr : right s = true) : dece (encb s) = 0 ∧ decs (encb s) = s := by
  have e : encb s = slb s := by unfold encb; rw [if_pos hr]
  have e2 : (right (rdsl (slb s)) && decide (slb (rdsl (slb s)) = slb s)) = true := by
    rw [rdsl_slb h hr, hr]
    simp
  unfold dece decs
  rw [e, if_pos e2, if_pos e2]
  exact ⟨rfl, rdsl_slb h hr⟩
theorem slb_inj {s t : Sl} (h : s.ok) (hr : right s = true) (h' : t.ok) (hr' : right t = true) (e : slb s = slb t) : s = t := by
  rw [← rdsl_slb h hr, e, rdsl_slb h' hr']

/-! ### Packets -/
structure Pk where
  who : Nat
  epoch : Nat
  nonce : List UInt8
  mac : List UInt8
  head : List UInt8
  body : List UInt8
abbrev Pk.tup (s : Pk) := (s.who, s.epoch, s.nonce, s.mac, s.head, s.body)
theorem Pk.tup_inj {s t : Pk} (h : s.tup = t.tup) : s = t := by
  cases s
  cases t
  simp only [Pk.tup, Prod.mk.injEq] at h
  simp [h]
instance : DecidableEq Pk := fun s t => decidable_of_iff (s.tup = t.tup) ⟨Pk.tup_inj, fun h => by rw [h]⟩
structure Pk.ok (s : Pk) : Prop where
  who : s.who < 65536
  epoch : s.epoch < 4294967296
  nonce : s.nonce.length = 16
  mac : s.mac.length = 16
  head : s.head.length = 320
  body : s.body.length = 256
def pkL (s : Pk) : List Value := .int .u16 s.who :: .int .u32 s.epoch :: (bvs s.nonce ++ (bvs s.mac ++ (bvs s.head ++ bvs s.body)))
def pk (s : Pk) : Array Value := (pkL s).toArray
section
variable {s : Pk} (h : s.ok)
theorem pk_get0 : (pk s)[0]? = some (.int .u16 s.who) := by simp [pk, pkL]
theorem pk_get1 : (pk s)[1]? = some (.int .u32 s.epoch) := by simp [pk, pkL]
theorem pk_set0 (v : Nat) : (pk s).setIfInBounds 0 (.int .u16 v) = pk { s with who := v } := by simp [pk, pkL]
theorem pk_set1 (v : Nat) : (pk s).setIfInBounds 1 (.int .u32 v) = pk { s with epoch := v } := by simp [pk, pkL]
include h
theorem pk_size : (pk s).size = 610 := by simp [pk, pkL, bvs_length, h.nonce, h.mac, h.head, h.body]
theorem pk_nonce : (pk s).extract 2 18 = ba s.nonce := by
  apply Array.toList_inj.1
  simp [pk, pkL, ba, List.extract, bvs_length, h.nonce, List.take_append]
theorem pk_mac : (pk s).extract 18 34 = ba s.mac := by
  apply Array.toList_inj.1
  simp [pk, pkL, ba, List.extract, bvs_length, h.nonce, h.mac, List.take_append, List.drop_append]
theorem pk_head : (pk s).extract 34 354 = ba s.head := by
  apply Array.toList_inj.1
  simp [pk, pkL, ba, List.extract, bvs_length, h.nonce, h.mac, h.head, List.take_append, List.drop_append]
theorem pk_body : (pk s).extract 354 610 = ba s.body := by
  have e1 : (bvs s.nonce).drop 352 = [] := List.drop_of_length_le (by rw [bvs_length, h.nonce]; decide)
  have e2 : (bvs s.mac).drop 336 = [] := List.drop_of_length_le (by rw [bvs_length, h.mac]; decide)
  have e3 : (bvs s.body).take 256 = bvs s.body := List.take_of_length_le (by rw [bvs_length, h.body]; decide)
  apply Array.toList_inj.1
  simp [pk, pkL, ba, List.extract, bvs_length, h.nonce, h.mac, h.head, List.take_append, List.drop_append, e1, e2, e3]
end
theorem pk_all (s : Pk) : (pk s).all (·.oneCell') = true := by
  refine Array.all_eq_true_iff_forall_mem.2 (fun v hv => ?_)
  simp only [pk, pkL, List.mem_toArray, List.mem_cons, List.mem_append] at hv
  rcases hv with rfl | rfl | hv | hv | hv | hv
  all_goals first | rfl | exact bvs_one _ _ hv
theorem pk_ne (s : Pk) : pk s ≠ #[] := by
  intro e
  have := congrArg Array.size e
  simp [pk, pkL] at this
def pk0 : Pk := ⟨0, 0, zeros 16, zeros 16, zeros 320, zeros 256⟩
theorem pk0_ok : pk0.ok := ⟨by decide, by decide, zeros_length 16, zeros_length 16, zeros_length 320, zeros_length 256⟩
def pkb (s : Pk) : List UInt8 := be 2 s.who ++ be 4 s.epoch ++ s.nonce ++ s.mac ++ s.head ++ s.body
theorem pkb_len {s : Pk} (h : s.ok) : (pkb s).length = 614 := by simp [pkb, be_length, h.nonce, h.mac, h.head, h.body]
def rdpk (l : List UInt8) : Pk := ⟨num (l.take 2), num ((l.drop 2).take 4), (l.drop 6).take 16, (l.drop 22).take 16, (l.drop 38).take 320, (l.drop 358).take 256⟩
theorem rdpk_ok {l : List UInt8} (h : l.length = 614) : (rdpk l).ok :=
  ⟨num_lt 2 _ (by simp; omega), num_lt 4 _ (by simp; omega), by simp [rdpk]; omega, by simp [rdpk]; omega, by simp [rdpk]; omega, by simp [rdpk]; omega⟩
theorem rdpk_pkb {s : Pk} (h : s.ok) : rdpk (pkb s) = s := by
  have a1 : ∀ x y : Nat, x ≤ y → ∀ l m : List UInt8, l.length = x → (l ++ m).drop y = m.drop (y - x) := by
    intro x y hxy l m hl
    rw [List.drop_append, List.drop_of_length_le (by omega), List.nil_append, hl]
  have a2 : ∀ x : Nat, ∀ l m : List UInt8, l.length = x → (l ++ m).take x = l := by
    intro x l m hl
    rw [List.take_append_of_le_length (by omega), List.take_of_length_le (by omega)]
  unfold rdpk pkb
  simp only [List.append_assoc]
  rw [a2 2 _ _ (be_length _ _), a1 2 2 (by decide) _ _ (be_length _ _), Nat.sub_self, List.drop_zero, a2 4 _ _ (be_length _ _), a1 2 6 (by decide) _ _ (be_length _ _), a1 4 4 (by decide) _ _ (be_length _ _), Nat.sub_self, List.drop_zero, a2 16 _ _ h.nonce]
  rw [a1 2 22 (by decide) _ _ (be_length _ _), a1 4 20 (by decide) _ _ (be_length _ _), a1 16 16 (by decide) _ _ h.nonce, Nat.sub_self, List.drop_zero, a2 16 _ _ h.mac]
  rw [a1 2 38 (by decide) _ _ (be_length _ _), a1 4 36 (by decide) _ _ (be_length _ _), a1 16 32 (by decide) _ _ h.nonce, a1 16 16 (by decide) _ _ h.mac, Nat.sub_self, List.drop_zero, a2 320 _ _ h.head]
  rw [a1 2 358 (by decide) _ _ (be_length _ _), a1 4 356 (by decide) _ _ (be_length _ _), a1 16 352 (by decide) _ _ h.nonce, a1 16 336 (by decide) _ _ h.mac, a1 320 320 (by decide) _ _ h.head, Nat.sub_self, List.drop_zero, List.take_of_length_le (by rw [h.body]; decide)]
  rw [num_be, num_be]
  cases s
  simp only [Pk.mk.injEq, and_true]
  exact ⟨Nat.mod_eq_of_lt h.who, Nat.mod_eq_of_lt h.epoch⟩
theorem pkb_rdpk {l : List UInt8} (h : l.length = 614) : pkb (rdpk l) = l := by
  unfold pkb rdpk
  have s2 : ∀ (a k : Nat), (l.drop a).take k ++ l.drop (a + k) = l.drop a := by
    intro a k
    rw [← List.drop_drop, List.take_append_drop]
  rw [be_num 2 _ (by simp; omega), be_num 4 _ (by simp; omega)]
  simp only [List.append_assoc]
  rw [List.take_of_length_le (show (l.drop 358).length ≤ 256 by simp; omega), s2 38 320, s2 22 16, s2 6 16, s2 2 4, List.take_append_drop]
end Go.Proofs.Ytgfjpoopghdilaa
