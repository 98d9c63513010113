/- A joiner that meets a few messages, by turns. Plain. -/
import Derived.Test.YtcdpmedmhindaaaJnP
namespace Go.Proofs.Ytcdpmedmhindaaa
open Go.RowKit

theorem nodup_sub_len {α : Type} [DecidableEq α] : ∀ (l m : List α), l.Nodup → (∀ x ∈ l, x ∈ m) → l.length ≤ m.length
  | [], _, _, _ => Nat.zero_le _
  | x :: l, m, hn, h => by
    have hx := h x List.mem_cons_self
    have h1 := nodup_sub_len l (m.erase x) (List.nodup_cons.1 hn).2 (fun y hy => by
      have hne : y ≠ x := by
        rintro rfl
        exact (List.nodup_cons.1 hn).1 hy
      exact (List.mem_erase_of_ne hne).2 (h y (List.mem_cons_of_mem _ hy)))
    rw [List.length_erase, if_pos hx] at h1
    have := List.length_pos_of_mem hx
    simp only [List.length_cons]
    omega
/-- What is known of a joiner that has met a few messages: their keys, the messages, the places that came, which were whole; how many at most are known to have been whole. -/
structure Mm (J : Jn) (n : Nat) (K : Nat → Ky) (M : Nat → List UInt8) (s : Nat → List Nat) (fin : Nat → Bool) (d : Nat) : Prop where
  room : J.room = (n : Int)
  lk : ∀ q, q < n → lkp (K q) J.opn = if fin q = true then none else sta (M q) (s q)
  dn : ∀ q, q < n → (K q ∈ J.done ↔ fin q = true)
  only : ∀ x ∈ J.opn, ∃ q, q < n ∧ x.1 = K q
  ap : Apart J.opn
  dl : J.done.length ≤ d
def up {α : Type} (f : Nat → α) (q : Nat) (v : α) : Nat → α := fun r => if r = q then v else f r
section
variable {J : Jn} {n d : Nat} {K : Nat → Ky} {M : Nat → List UInt8} {s : Nat → List Nat} {fin : Nat → Bool} {q i id fr bx : Nat}
theorem Mm.ext' {s' : Nat → List Nat} {fin' : Nat → Bool} {d' : Nat} (h : Mm J n K M s fin d) (hf : ∀ q, q < n → fin' q = fin q) (hs : ∀ q, q < n → fin q = false → s' q = s q) (hd : d ≤ d') : Mm J n K M s' fin' d' :=
  ⟨h.room, fun q hq => by
    rw [h.lk q hq, hf q hq]
    split
    · rfl
    · rename_i hh
      rw [hs q hq (by simpa using hh)], fun q hq => by rw [h.dn q hq, hf q hq], h.only, h.ap, Nat.le_trans h.dl hd⟩
theorem Mm.roomy (h : Mm J n K M s fin d) (hq : q < n) (hn : lkp (K q) J.opn = none) : (J.opn.length : Int) < J.room := by
  rw [h.room]
  have h1 := nodup_sub_len (J.opn.map fun x : Ky × Opn => x.1) (((List.range n).erase q).map K) h.ap (fun x hx => by
    obtain ⟨y, hy, rfl⟩ := List.mem_map.1 hx
    obtain ⟨r, hr, e⟩ := h.only y hy
    refine List.mem_map.2 ⟨r, ?_, e.symm⟩
    refine (List.mem_erase_of_ne ?_).2 (List.mem_range.2 hr)
    rintro rfl
    rw [lkp_none] at hn
    exact hn (e ▸ hx))
  rw [List.length_map, List.length_map, List.length_erase, if_pos (List.mem_range.2 hq), List.length_range] at h1
  omega
theorem Mm.more (h : Mm J n K M s fin d) (hK : ∀ a b, a < n → b < n → K a = K b → a = b) (hq : q < n) (hk : K q = (id, fr, bx)) (hm : (M q).length ≤ 4096) (hf : fin q = false) (hi : i < cnt (M q)) (his : i ∉ s q) (hlt : (s q).length + 1 < cnt (M q)) :
    ∃ J', jtake J (mpc id fr bx (M q) i) = (J', 0, none) ∧ Mm J' n K M (up s q (s q ++ [i])) fin d := by
  have hl := h.lk q hq
  rw [if_neg (by simp [hf]), hk] at hl
  have hd : (id, fr, bx) ∉ J.done := by
    rw [← hk, h.dn q hq, hf]
    decide
  have hr : s q ≠ [] ∨ cnt (M q) = 1 ∨ (J.opn.length : Int) < J.room := by
    by_cases e : s q = []
    · refine .inr (.inr (h.roomy hq ?_))
      rw [hk, hl, sta, if_pos e]
    · exact .inl e
  refine ⟨_, jtake_some hm hd hl hi his hr hlt, h.room, fun r hr => ?_, h.dn, fun x hx => ?_, Apart.put h.ap _ _, h.dl⟩
  · show lkp (K r) (mput (id, fr, bx) _ J.opn) = _
    by_cases e : r = q
    · subst e
      rw [hk, lkp_put_self, if_neg (by simp [hf])]
      unfold up sta
      rw [if_pos rfl, if_neg (by simp)]
    · have hne : K r ≠ (id, fr, bx) := by
        rw [← hk]
        exact fun hh => e (hK _ _ hr hq hh)
      rw [lkp_put_ne hne, h.lk r hr]
      unfold up
      rw [if_neg e]
  · rcases mput_mem hx with rfl | hx
    · exact ⟨q, hq, hk.symm⟩
    · exact h.only x hx
theorem Mm.last (h : Mm J n K M s fin d) (hK : ∀ a b, a < n → b < n → K a = K b → a = b) (hq : q < n) (hk : K q = (id, fr, bx)) (hm : (M q).length ≤ 4096) (hf : fin q = false) (hi : i < cnt (M q)) (his : i ∉ s q) (hsn : (s q).Nodup) (hs : ∀ x ∈ s q, x < cnt (M q)) (hlt : (s q).length + 1 = cnt (M q)) (hd64 : d < 64) :
    ∃ J', jtake J (mpc id fr bx (M q) i) = (J', 0, some (M q)) ∧ Mm J' n K M s (up fin q true) (d + 1) := by
  have hl := h.lk q hq
  rw [if_neg (by simp [hf]), hk] at hl
  have hd : (id, fr, bx) ∉ J.done := by
    rw [← hk, h.dn q hq, hf]
    decide
  have hr : s q ≠ [] ∨ cnt (M q) = 1 ∨ (J.opn.length : Int) < J.room := by
    by_cases e : s q = []
    · refine .inr (.inr (h.roomy hq ?_))
      rw [hk, hl, sta, if_pos e]
    · exact .inl e
  have hdl := h.dl
  have e64 : last64 (J.done ++ [(id, fr, bx)]) = J.done ++ [(id, fr, bx)] := by
    unfold last64
    have : (J.done ++ [(id, fr, bx)]).length - 64 = 0 := by rw [List.length_append, List.length_singleton]; omega
    rw [this, List.drop_zero]
  refine ⟨_, jtake_last hm hd hl hi his hsn hs hr hlt, h.room, fun r hr => ?_, fun r hr => ?_, fun x hx => h.only x ((mers_sub _ _).mem hx), Apart.ers h.ap _, ?_⟩
  · show lkp (K r) (mers (id, fr, bx) J.opn) = _
    by_cases e : r = q
    · subst e
      rw [hk, lkp_ers_self h.ap]
      unfold up
      rw [if_pos rfl, if_pos rfl]
    · have hne : K r ≠ (id, fr, bx) := by
        rw [← hk]
        exact fun hh => e (hK _ _ hr hq hh)
      rw [lkp_ers_ne hne, h.lk r hr]
      unfold up
      rw [if_neg e]
  · show K r ∈ last64 (J.done ++ [(id, fr, bx)]) ↔ _
    rw [e64, List.mem_append, List.mem_singleton, h.dn r hr]
    unfold up
    by_cases e : r = q
    · subst e
      simp [hk]
    · have hne : K r ≠ (id, fr, bx) := by
        rw [← hk]
        exact fun hh => e (hK _ _ hr hq hh)
      simp [e, hne]
  · show (last64 (J.done ++ [(id, fr, bx)])).length ≤ d + 1
    rw [e64, List.length_append, List.length_singleton]
    omega
theorem Mm.none_left (h : Mm J n K M s fin d) (hf : ∀ q, q < n → fin q = true) : J.opn.length = 0 := by
  rw [List.length_eq_zero_iff]
  refine Classical.byContradiction fun hne => ?_
  obtain ⟨x, hx⟩ := List.exists_mem_of_ne_nil _ hne
  obtain ⟨q, hq, e⟩ := h.only x hx
  have := h.lk q hq
  rw [if_pos (hf q hq), lkp_none] at this
  exact this (List.mem_map.2 ⟨x, hx, e⟩)
theorem Mm.new (n : Nat) (hn : 1 ≤ n) (K : Nat → Ky) (M : Nat → List UInt8) : Mm (jn0 (n : Int)) n K M (fun _ => []) (fun _ => false) 0 :=
  ⟨by unfold jn0; simp only; rw [if_neg (by omega)], fun q hq => rfl, fun q hq => by simp [jn0], fun x hx => by simp [jn0] at hx, by simp [jn0, Apart], by simp [jn0]⟩
end
end Go.Proofs.Ytcdpmedmhindaaa
