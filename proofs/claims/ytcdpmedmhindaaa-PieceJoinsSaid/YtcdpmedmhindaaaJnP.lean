/- The joiner of pieces, as plain lists: what it answers, and how messages become whole. No program. -/
import Derived.Test.YtcdpmedmhindaaaPieP
import Derived.Test.YtcdpmedmhindaaaMap
namespace Go.Proofs.Ytcdpmedmhindaaa
open Go.RowKit

abbrev Ky := Nat × Nat × Nat
def Pc.key (p : Pc) : Ky := (p.id, p.fr, p.bx)
/-- A message that is not whole: how many pieces it has; those that came, by their places. -/
abbrev Opn := Int × List (Int × List UInt8)
structure Jn where
  room : Int
  opn : List (Ky × Opn)
  done : List Ky
def last64 (l : List Ky) : List Ky := l.drop (l.length - 64)
def whole (c : Int) (by_ : List (Int × List UInt8)) : List UInt8 := (List.range c.toNat).flatMap fun (i : Nat) => (lkp (i : Int) by_).getD []
def jput (J : Jn) (p : Pc) (c : Int) (by_ : List (Int × List UInt8)) : Jn × Nat × Option (List UInt8) :=
  let l := mput p.place p.b by_
  if (l.length : Int) < c then ({ J with opn := mput p.key (c, l) J.opn }, 0, none)
  else ({ J with opn := mers p.key J.opn, done := last64 (J.done ++ [p.key]) }, 0, some (whole c l))
/-- What is wrong with a piece, by what came; else the parts of its message. -/
def jchk (J : Jn) (p : Pc) : Nat × Opn :=
  if prt p = true ∧ p.kind = 1 then
    if p.key ∈ J.done then (7, 0, [])
    else match lkp p.key J.opn with
      | none => if 1 < p.count ∧ J.room ≤ (J.opn.length : Int) then (8, 0, []) else (0, p.count, [])
      | some o => if o.1 ≠ p.count ∨ (lkp p.place o.2 ≠ none ∧ lkp p.place o.2 ≠ some p.b) then (3, 0, []) else if lkp p.place o.2 ≠ none then (7, 0, []) else (0, o)
  else (1, 0, [])
def jtake (J : Jn) (p : Pc) : Jn × Nat × Option (List UInt8) :=
  if (jchk J p).1 = 0 then jput J p (jchk J p).2.1 (jchk J p).2.2 else (J, (jchk J p).1, none)

/-- What a joiner owes. -/
structure Jn.ok (J : Jn) : Prop where
  apart : Apart J.opn
  each : ∀ k o, (k, o) ∈ J.opn → 0 ≤ o.1 ∧ o.1 ≤ 17 ∧ ∀ x ∈ o.2, x.2.length ≤ 244
  few : J.done.length ≤ 64
theorem last64_len (l : List Ky) : (last64 l).length ≤ 64 := by simp [last64]; omega
theorem mput_mem {κ β : Type} [DecidableEq κ] {k : κ} {v : β} : ∀ {L : List (κ × β)} {x : κ × β}, x ∈ mput k v L → x = (k, v) ∨ x ∈ L
  | [], x, h => by simpa [mput] using h
  | y :: L, x, h => by
    unfold mput at h
    split at h
    · rename_i e
      rcases List.mem_cons.1 h with rfl | h
      · left; rw [e]
      · right; exact List.mem_cons_of_mem _ h
    · rcases List.mem_cons.1 h with rfl | h
      · right; exact List.mem_cons_self
      · rcases mput_mem h with h | h
        · exact .inl h
        · exact .inr (List.mem_cons_of_mem _ h)
theorem jchk_opn {J : Jn} {p : Pc} (h : (jchk J p).1 = 0) : prt p = true ∧ p.kind = 1 ∧ p.key ∉ J.done ∧
    ((lkp p.key J.opn = none ∧ (jchk J p).2 = (p.count, []) ∧ ¬ (1 < p.count ∧ J.room ≤ (J.opn.length : Int))) ∨ ∃ o, lkp p.key J.opn = some o ∧ o.1 = p.count ∧ lkp p.place o.2 = none ∧ (jchk J p).2 = o) := by
  unfold jchk at h ⊢
  split at h
  · rename_i h1
    rw [if_pos h1]
    split at h
    · cases h
    · rename_i h2
      rw [if_neg h2]
      refine ⟨h1.1, h1.2, h2, ?_⟩
      cases e : lkp p.key J.opn with
      | none =>
        simp only [e] at h ⊢
        split at h
        · cases h
        · rename_i h3
          refine .inl ⟨?_, by rw [if_neg h3], h3⟩
          first | rfl | trivial
      | some o =>
        simp only [e] at h ⊢
        split at h
        · cases h
        · rename_i h3
          split at h
          · cases h
          · rename_i h4
            refine .inr ⟨o, rfl, ?_, ?_, by rw [if_neg h3, if_neg h4]⟩
            · exact Classical.byContradiction fun hc => h3 (.inl hc)
            · exact Classical.byContradiction fun hc => h4 hc
  · cases h
theorem Jn.ok.take {J : Jn} (h : J.ok) (p : Pc) : (jtake J p).1.ok := by
  unfold jtake
  split
  · rename_i h0
    obtain ⟨hr, hk, hd, hc⟩ := jchk_opn h0
    obtain ⟨_, hp, hcn, hb⟩ := prt_facts hr
    have ho : 0 ≤ (jchk J p).2.1 ∧ (jchk J p).2.1 ≤ 17 ∧ ∀ x ∈ (jchk J p).2.2, x.2.length ≤ 244 := by
      rcases hc with ⟨_, e, _⟩ | ⟨o, e1, e2, e3, e4⟩
      · rw [e]
        exact ⟨hcn.1, hcn.2, fun x hx => by simp at hx⟩
      · rw [e4]
        exact h.each _ _ (lkp_mem e1)
    unfold jput
    simp only
    split
    · refine ⟨Apart.put h.apart _ _, fun k o hm => ?_, h.few⟩
      rcases mput_mem hm with e | hm
      · injection e with _ e
        subst e
        refine ⟨ho.1, ho.2.1, fun x hx => ?_⟩
        rcases mput_mem hx with e | hx
        · subst e; exact hb
        · exact ho.2.2 x hx
      · exact h.each k o hm
    · exact ⟨Apart.ers h.apart _, fun k o hm => h.each k o ((mers_sub _ _).mem hm), last64_len _⟩
  · exact h

/-! ### A message's pieces -/
/-- The state of a message of which the pieces at the places s came. -/
def got (m : List UInt8) (s : List Nat) : List (Int × List UInt8) := s.map fun (i : Nat) => ((i : Int), pce m i)
def sta (m : List UInt8) (s : List Nat) : Option Opn := if s = [] then none else some ((cnt m : Int), got m s)
theorem lkp_got (m : List UInt8) (i : Nat) : ∀ s : List Nat, lkp (i : Int) (got m s) = if i ∈ s then some (pce m i) else none
  | [] => rfl
  | x :: s => by
    have := lkp_got m i s
    unfold got at this ⊢
    simp only [List.map_cons, lkp, this, List.mem_cons]
    by_cases e : i = x
    · subst e; simp
    · have e' : ¬ ((i : Int) = (x : Int)) := by omega
      simp [e, e']
theorem mput_got (m : List UInt8) (s : List Nat) (i : Nat) (h : i ∉ s) : mput (i : Int) (pce m i) (got m s) = got m (s ++ [i]) := by
  rw [mput_new _ (by rw [lkp_got, if_neg h])]
  simp [got]
theorem nodup_le : ∀ (n : Nat) (s : List Nat), s.Nodup → (∀ x ∈ s, x < n) → s.length ≤ n
  | 0, s, _, h => by
    cases s with
    | nil => exact Nat.le_refl _
    | cons x s => exact absurd (h x List.mem_cons_self) (Nat.not_lt_zero x)
  | n + 1, s, hn, h => by
    have h1 := nodup_le n (s.erase n) (hn.erase n) (fun x hx => by
      have hx' := (List.Nodup.mem_erase_iff hn).1 hx
      have := h x hx'.2
      have := hx'.1
      omega)
    rw [List.length_erase] at h1
    split at h1 <;> omega
theorem perm_range (n : Nat) (s : List Nat) (hn : s.Nodup) (hl : s.length = n) (hs : ∀ x ∈ s, x < n) (i : Nat) (hi : i < n) : i ∈ s := by
  refine Classical.byContradiction fun h => ?_
  have := nodup_le n (i :: s) (List.nodup_cons.2 ⟨h, hn⟩) (fun x hx => by
    rcases List.mem_cons.1 hx with rfl | hx
    · exact hi
    · exact hs x hx)
  simp at this
  omega
theorem whole_got {m : List UInt8} (hm : m.length ≤ 4096) {s : List Nat} (hn : s.Nodup) (hl : s.length = cnt m) (hs : ∀ x ∈ s, x < cnt m) : whole (cnt m : Int) (got m s) = m := by
  have h : ∀ i ∈ List.range (cnt m), (lkp (i : Int) (got m s)).getD [] = pce m i := by
    intro i hi
    rw [lkp_got, if_pos (perm_range _ s hn hl hs i (List.mem_range.1 hi))]
    rfl
  unfold whole
  rw [Int.toNat_natCast]
  have e : ((List.range (cnt m)).flatMap fun (i : Nat) => (lkp (i : Int) (got m s)).getD []) = (List.range (cnt m)).flatMap (pce m) := by
    rw [List.flatMap_def, List.flatMap_def, List.map_congr_left h]
  rw [e, parts_whole hm]
theorem mpc_key (id fr bx : Nat) (m : List UInt8) (i : Nat) : (mpc id fr bx m i).key = (id, fr, bx) := rfl
section
variable {J : Jn} {m : List UInt8} {id fr bx : Nat} {s : List Nat} {i : Nat}
theorem jchk_new (hm : m.length ≤ 4096) (hd : (id, fr, bx) ∉ J.done) (hst : lkp (id, fr, bx) J.opn = sta m s) (hi : i < cnt m) (his : i ∉ s)
    (hroom : s ≠ [] ∨ cnt m = 1 ∨ (J.opn.length : Int) < J.room) : jchk J (mpc id fr bx m i) = (0, (cnt m : Int), got m s) := by
  have hr := mpc_rt id fr bx hm hi
  unfold jchk
  rw [if_pos ⟨hr, rfl⟩, mpc_key, if_neg hd, hst]
  unfold sta
  by_cases e : s = []
  · rw [if_pos e]
    subst e
    simp only
    rw [if_neg]
    · rfl
    · rintro ⟨h1, h2⟩
      have h1 : (1 : Int) < (cnt m : Int) := h1
      rcases hroom with h | h | h
      · exact h rfl
      · omega
      · omega
  · rw [if_neg e]
    have h1 : lkp ((mpc id fr bx m i).place) (got m s) = none := by
      show lkp (i : Int) _ = none
      rw [lkp_got, if_neg his]
    simp only [h1]
    rw [if_neg, if_neg]
    · simp
    · simp; rfl
theorem jtake_some (hm : m.length ≤ 4096) (hd : (id, fr, bx) ∉ J.done) (hst : lkp (id, fr, bx) J.opn = sta m s) (hi : i < cnt m) (his : i ∉ s)
    (hroom : s ≠ [] ∨ cnt m = 1 ∨ (J.opn.length : Int) < J.room) (hlt : s.length + 1 < cnt m) :
    jtake J (mpc id fr bx m i) = ({ J with opn := mput (id, fr, bx) ((cnt m : Int), got m (s ++ [i])) J.opn }, 0, none) := by
  unfold jtake
  rw [jchk_new hm hd hst hi his hroom, if_pos rfl]
  unfold jput
  have e : mput (mpc id fr bx m i).place (mpc id fr bx m i).b (got m s) = got m (s ++ [i]) := mput_got m s i his
  simp only [e, mpc_key]
  rw [if_pos]
  show ((s ++ [i]).map _).length < (cnt m : Int)
  simp
  omega
theorem jtake_last (hm : m.length ≤ 4096) (hd : (id, fr, bx) ∉ J.done) (hst : lkp (id, fr, bx) J.opn = sta m s) (hi : i < cnt m) (his : i ∉ s) (hsn : s.Nodup) (hs : ∀ x ∈ s, x < cnt m)
    (hroom : s ≠ [] ∨ cnt m = 1 ∨ (J.opn.length : Int) < J.room) (hlt : s.length + 1 = cnt m) :
    jtake J (mpc id fr bx m i) = ({ J with opn := mers (id, fr, bx) J.opn, done := last64 (J.done ++ [(id, fr, bx)]) }, 0, some m) := by
  unfold jtake
  rw [jchk_new hm hd hst hi his hroom, if_pos rfl]
  unfold jput
  have e : mput (mpc id fr bx m i).place (mpc id fr bx m i).b (got m s) = got m (s ++ [i]) := mput_got m s i his
  simp only [e, mpc_key]
  have hl : (got m (s ++ [i])).length = s.length + 1 := by simp [got]
  rw [if_neg (by rw [hl]; omega), whole_got hm (by
    rw [List.nodup_append]
    refine ⟨hsn, by simp, fun a ha b hb => ?_⟩
    simp only [List.mem_cons, List.not_mem_nil, or_false] at hb
    subst hb
    rintro rfl
    exact his ha) (by simp; omega) (fun x hx => by
    simp only [List.mem_append, List.mem_cons, List.not_mem_nil, or_false] at hx
    rcases hx with hx | rfl
    · exact hs x hx
    · exact hi)]
theorem jtake_again (hm : m.length ≤ 4096) (hst : lkp (id, fr, bx) J.opn = sta m s) (hi : i < cnt m) (his : i ∈ s) : jtake J (mpc id fr bx m i) = (J, 7, none) := by
  have hr := mpc_rt id fr bx hm hi
  have hc : (jchk J (mpc id fr bx m i)).1 = 7 := by
    unfold jchk
    rw [if_pos ⟨hr, rfl⟩, mpc_key]
    split
    · rfl
    · rw [hst]
      have hne : s ≠ [] := by rintro rfl; simp at his
      unfold sta
      rw [if_neg hne]
      have h1 : lkp ((mpc id fr bx m i).place) (got m s) = some (pce m i) := by
        show lkp (i : Int) _ = _
        rw [lkp_got, if_pos his]
      simp only [h1]
      rw [if_neg, if_pos]
      · simp
      · simp; exact ⟨rfl, rfl⟩
  unfold jtake
  rw [if_neg (by rw [hc]; decide), hc]
theorem jtake_done {p : Pc} (hr : prt p = true) (hk : p.kind = 1) (hd : p.key ∈ J.done) : jtake J p = (J, 7, none) := by
  have hc : (jchk J p).1 = 7 := by
    unfold jchk
    rw [if_pos ⟨hr, hk⟩, if_pos hd]
  unfold jtake
  rw [if_neg (by rw [hc]; decide), hc]
theorem jtake_arg {p : Pc} (h : ¬ (prt p = true ∧ p.kind = 1)) : jtake J p = (J, 1, none) := by
  have hc : (jchk J p).1 = 1 := by
    unfold jchk
    rw [if_neg h]
  unfold jtake
  rw [if_neg (by rw [hc]; decide), hc]
end
def jn0 (room : Int) : Jn := ⟨if room < 1 then 1 else room, [], []⟩
theorem jn0_ok (room : Int) : (jn0 room).ok := ⟨by simp [jn0, Apart], fun k o h => by simp [jn0] at h, by simp [jn0]⟩
end Go.Proofs.Ytcdpmedmhindaaa
