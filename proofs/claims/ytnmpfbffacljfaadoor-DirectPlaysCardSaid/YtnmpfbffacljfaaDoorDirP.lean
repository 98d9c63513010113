/- Records of a directory, in order; plain lemmas, no program. -/
import Derived.Test.YtnmpfbffacljfaaDoorNum
namespace Go.Proofs.YtnmpfbffacljfaaDoor
open Go.RowKit

/-- A record: node, first epoch, last epoch, link. -/
structure Rc where
  ad : Nat
  fr : Nat
  up : Nat
  ln : Nat
abbrev Rc.tup (r : Rc) := (r.ad, r.fr, r.up, r.ln)
theorem Rc.tup_inj {s t : Rc} (h : s.tup = t.tup) : s = t := by
  cases s
  cases t
  simp only [Rc.tup, Prod.mk.injEq] at h
  simp [h]
instance : DecidableEq Rc := fun s t => decidable_of_iff (s.ad = t.ad ∧ s.fr = t.fr ∧ s.up = t.up ∧ s.ln = t.ln)
  ⟨fun h => Rc.tup_inj (by simp only [Rc.tup, Prod.mk.injEq]; exact h), fun h => by subst h; simp⟩
instance : Inhabited Rc := ⟨⟨0, 0, 0, 0⟩⟩
structure Rc.ok (r : Rc) : Prop where
  ad : r.ad < 65536
  fr : r.fr < 4294967296
  up : r.up < 4294967296
  ln : r.ln < 4294967296
def rc0 : Rc := ⟨0, 0, 0, 0⟩
theorem rc0_ok : rc0.ok := ⟨by decide, by decide, by decide, by decide⟩
/-- Its cells. -/
def rcA (r : Rc) : Array Value := #[.int .u16 r.ad, .int .u32 r.fr, .int .u32 r.up, .int .u32 r.ln]
def rcL (r : Rc) : List Value := [.int .u16 r.ad, .int .u32 r.fr, .int .u32 r.up, .int .u32 r.ln]
theorem rcL_toArray (r : Rc) : (rcL r).toArray = rcA r := rfl
theorem rcA_toList (r : Rc) : (rcA r).toList = rcL r := rfl
theorem rcL_len (r : Rc) : (rcL r).length = 4 := rfl
theorem rcL_one (r : Rc) : ∀ u ∈ rcL r, u.oneCell' = true := by
  intro u hu
  simp only [rcL, List.mem_cons, List.not_mem_nil, or_false] at hu
  rcases hu with rfl | rfl | rfl | rfl <;> rfl
def rcs (l : List Rc) : List Value := l.flatMap rcL
theorem rcs_app (l m : List Rc) : rcs (l ++ m) = rcs l ++ rcs m := by unfold rcs; rw [List.flatMap_append]
theorem rcs_one (l : List Rc) : ∀ u ∈ rcs l, u.oneCell' = true := by
  intro u hu
  unfold rcs at hu
  obtain ⟨q, _, hq⟩ := List.mem_flatMap.1 hu
  exact rcL_one q u hq
theorem rcs_len : ∀ l : List Rc, (rcs l).length = l.length * 4
  | [] => rfl
  | r :: l => by
    have := rcs_len l
    unfold rcs at *
    rw [List.flatMap_cons, List.length_append, this, rcL_len, List.length_cons]
    omega
theorem rcs_get : ∀ (l : List Rc) (i : Nat) (hi : i < l.length) (j : Nat), j < 4 → (rcs l)[i * 4 + j]? = (rcL l[i])[j]?
  | r :: l, 0, _, j, hj => by
    unfold rcs
    rw [List.flatMap_cons, List.getElem?_append_left (by rw [rcL_len]; omega)]
    simp
  | r :: l, i + 1, hi, j, hj => by
    have := rcs_get l i (by simpa using hi) j hj
    unfold rcs at this ⊢
    rw [List.flatMap_cons, List.getElem?_append_right (by rw [rcL_len]; omega), rcL_len, show (i + 1) * 4 + j - 4 = i * 4 + j from by omega]
    exact this

/-- Does a record have an epoch? -/
def Rc.has (r : Rc) (e : Nat) : Bool := decide (r.fr ≤ e ∧ e ≤ r.up)
/-- Of one node, with an epoch in common? -/
def clash (x r : Rc) : Bool := decide (x.ad = r.ad) && (x.has r.fr || r.has x.fr)
def Rc.fine (r : Rc) : Bool := decide (r.ad < 16 ∧ r.fr ≤ r.up)
/-- Does one stand ahead of another? -/
def klt (a b : Rc) : Bool := decide (a.ad < b.ad ∨ a.ad = b.ad ∧ a.fr < b.fr)
/-- What Add answers. -/
def dire (S : List Rc) (r : Rc) : Nat := if r.fine then (if S.any (clash · r) then 12 else if 64 ≤ S.length then 8 else 0) else 1
/-- One more, in its place. -/
def ins (r : Rc) : List Rc → List Rc
  | [] => [r]
  | x :: S => if klt x r then x :: ins r S else r :: x :: S
def dirl (S : List Rc) (r : Rc) : List Rc := if dire S r = 0 then ins r S else S
/-- What rows of records a directory may have. -/
structure Sound (S : List Rc) : Prop where
  len : S.length ≤ 64
  ok : ∀ r ∈ S, r.ok
  fine : ∀ r ∈ S, r.fine = true
  srt : S.Pairwise fun a b => klt a b = true
  apart : S.Pairwise fun a b => clash a b = false
theorem Sound.nil : Sound [] := ⟨by simp, by simp, by simp, .nil, .nil⟩
theorem clash_comm (a b : Rc) : clash a b = clash b a := by
  unfold clash
  rw [Bool.or_comm, show decide (a.ad = b.ad) = decide (b.ad = a.ad) from decide_eq_decide.2 ⟨Eq.symm, Eq.symm⟩]
theorem klt_irrefl (a : Rc) : klt a a = false := by simp [klt]
theorem klt_trans {a b c : Rc} (h : klt a b = true) (k : klt b c = true) : klt a c = true := by
  simp only [klt, decide_eq_true_eq] at *
  omega
theorem klt_asymm {a b : Rc} (h : klt a b = true) : klt b a = false := by
  simp only [klt, decide_eq_true_eq, decide_eq_false_iff_not] at *
  omega
/-- Who stands nowhere has one key with the other. -/
theorem klt_tri {a b : Rc} (h : klt a b = false) (k : klt b a = false) : a.ad = b.ad ∧ a.fr = b.fr := by
  simp only [klt, decide_eq_false_iff_not] at *
  omega
theorem clash_key {a b : Rc} (ha : a.fine = true) (hb : b.fine = true) (h : a.ad = b.ad ∧ a.fr = b.fr) : clash a b = true := by
  simp only [clash, Rc.has, Rc.fine, Bool.and_eq_true, Bool.or_eq_true, decide_eq_true_eq] at *
  omega
/-- The document's way to say it. -/
theorem clash_doc {a b : Rc} (ha : a.fine = true) (hb : b.fine = true) : clash a b = decide (a.ad = b.ad ∧ (if a.fr < b.fr then b.fr else a.fr) ≤ (if a.up < b.up then a.up else b.up)) := by
  rw [Bool.eq_iff_iff]
  simp only [clash, Rc.has, Rc.fine, Bool.and_eq_true, Bool.or_eq_true, decide_eq_true_eq] at *
  split <;> split <;> omega
theorem ins_perm (r : Rc) : ∀ S : List Rc, (ins r S).Perm (r :: S)
  | [] => List.Perm.refl _
  | x :: S => by
    unfold ins
    split
    · exact ((ins_perm r S).cons x).trans (List.Perm.swap r x S)
    · exact List.Perm.refl _
theorem ins_mem {r x : Rc} {S : List Rc} : x ∈ ins r S ↔ x = r ∨ x ∈ S := by rw [(ins_perm r S).mem_iff, List.mem_cons]
theorem ins_len (r : Rc) (S : List Rc) : (ins r S).length = S.length + 1 := (ins_perm r S).length_eq
theorem ins_srt {r : Rc} : ∀ {S : List Rc}, S.Pairwise (fun a b => klt a b = true) → (∀ x ∈ S, klt x r = true ∨ klt r x = true) → (ins r S).Pairwise fun a b => klt a b = true
  | [], _, _ => by unfold ins; exact List.pairwise_singleton _ _
  | x :: S, h, hr => by
    rw [List.pairwise_cons] at h
    unfold ins
    split
    · rename_i hx
      rw [List.pairwise_cons]
      refine ⟨fun y hy => ?_, ins_srt h.2 (fun y hy => hr y (List.mem_cons_of_mem _ hy))⟩
      rcases ins_mem.1 hy with rfl | hy
      · exact hx
      · exact h.1 y hy
    · rename_i hx
      have hrx : klt r x = true := (hr x List.mem_cons_self).resolve_left hx
      rw [List.pairwise_cons]
      refine ⟨fun y hy => ?_, List.pairwise_cons.2 h⟩
      rcases List.mem_cons.1 hy with rfl | hy
      · exact hrx
      · exact klt_trans hrx (h.1 y hy)
/-- Where it stands: behind as many as stand ahead of it. -/
theorem ins_place {r : Rc} : ∀ {S : List Rc}, S.Pairwise (fun a b => klt a b = true) → ins r S = S.take (S.countP (klt · r)) ++ r :: S.drop (S.countP (klt · r))
  | [], _ => rfl
  | x :: S, h => by
    rw [List.pairwise_cons] at h
    unfold ins
    rw [List.countP_cons]
    split
    · rename_i hx
      rw [List.take_succ_cons, List.drop_succ_cons, ins_place h.2]
      rfl
    · rename_i hx
      have h0 : S.countP (klt · r) = 0 := by
        rw [List.countP_eq_zero]
        intro y hy hyr
        exact hx (klt_trans (h.1 y hy) hyr)
      rw [h0]
      rfl
theorem ins_last {r : Rc} : ∀ {S : List Rc}, (∀ x ∈ S, klt x r = true) → ins r S = S ++ [r]
  | [], _ => rfl
  | x :: S, h => by
    unfold ins
    rw [if_pos (h x List.mem_cons_self), ins_last (fun y hy => h y (List.mem_cons_of_mem _ hy))]
    rfl
theorem dire_zero {S : List Rc} {r : Rc} (h : dire S r = 0) : r.fine = true ∧ (∀ x ∈ S, clash x r = false) ∧ S.length < 64 := by
  unfold dire at h
  by_cases h1 : r.fine = true
  · rw [if_pos h1] at h
    by_cases h2 : S.any (clash · r) = true
    · rw [if_pos h2] at h; cases h
    · rw [if_neg h2] at h
      by_cases h3 : 64 ≤ S.length
      · rw [if_pos h3] at h; cases h
      · refine ⟨h1, fun x hx => ?_, by omega⟩
        rw [Bool.not_eq_true, List.any_eq_false] at h2
        simpa using h2 x hx
  · rw [if_neg h1] at h; cases h
theorem dire_of {S : List Rc} {r : Rc} (h1 : r.fine = true) (h2 : ∀ x ∈ S, clash x r = false) (h3 : S.length < 64) : dire S r = 0 := by
  unfold dire
  rw [if_pos h1, if_neg (by rw [Bool.not_eq_true, List.any_eq_false]; intro x hx; simp [h2 x hx]), if_neg (by omega)]
theorem Sound.tri {S : List Rc} (h : Sound S) {r : Rc} (hr : dire S r = 0) : ∀ x ∈ S, klt x r = true ∨ klt r x = true := by
  obtain ⟨h1, h2, _⟩ := dire_zero hr
  intro x hx
  by_cases a : klt x r = true
  · exact .inl a
  · by_cases b : klt r x = true
    · exact .inr b
    · rw [Bool.not_eq_true] at a b
      have := clash_key (h.fine x hx) h1 (klt_tri a b)
      rw [h2 x hx] at this
      cases this
theorem pair_perm {S T : List Rc} {R : Rc → Rc → Prop} (hp : S.Perm T) (hs : ∀ a b, R a b → R b a) (h : S.Pairwise R) : T.Pairwise R := (hp.pairwise_iff (fun {a b} h => hs a b h)).1 h
theorem Sound.ins {S : List Rc} (h : Sound S) {r : Rc} (hok : r.ok) (hr : dire S r = 0) : Sound (ins r S) := by
  obtain ⟨h1, h2, h3⟩ := dire_zero hr
  refine ⟨by rw [ins_len]; omega, fun x hx => ?_, fun x hx => ?_, ins_srt h.srt (h.tri hr), ?_⟩
  · rcases ins_mem.1 hx with rfl | hx
    · exact hok
    · exact h.ok x hx
  · rcases ins_mem.1 hx with rfl | hx
    · exact h1
    · exact h.fine x hx
  · refine pair_perm (ins_perm r S).symm (fun a b h => by rw [clash_comm]; exact h) (List.pairwise_cons.2 ⟨fun x hx => ?_, h.apart⟩)
    rw [clash_comm]
    exact h2 x hx
theorem Sound.dirl {S : List Rc} (h : Sound S) {r : Rc} (hok : r.ok) : Sound (dirl S r) := by
  unfold YtnmpfbffacljfaaDoor.dirl
  split
  · rename_i hr; exact h.ins hok hr
  · exact h
theorem Sound.filter {S : List Rc} (h : Sound S) (p : Rc → Bool) : Sound (S.filter p) :=
  ⟨Nat.le_trans (List.length_filter_le _ _) h.len, fun r hr => h.ok r (List.mem_filter.1 hr).1, fun r hr => h.fine r (List.mem_filter.1 hr).1, h.srt.filter p, h.apart.filter p⟩
/-- Rows of the same records, both in order, are one. -/
theorem in_order : ∀ {l m : List Rc}, l.Perm m → l.Pairwise (fun a b => klt b a = false) → m.Pairwise (fun a b => klt a b = true) → l = m
  | [], m, h, _, _ => (List.Perm.nil_eq h)
  | a :: l, [], h, _, _ => absurd h.symm (by simp)
  | a :: l, b :: m, h, hl, hm => by
    rw [List.pairwise_cons] at hl hm
    have e : a = b := by
      have ha : a ∈ b :: m := h.mem_iff.1 List.mem_cons_self
      have hb : b ∈ a :: l := h.mem_iff.2 List.mem_cons_self
      rcases List.mem_cons.1 ha with e | ha
      · exact e
      · rcases List.mem_cons.1 hb with e | hb
        · exact e.symm
        · have h1 := hl.1 b hb
          have h2 := hm.1 a ha
          rw [h1] at h2
          cases h2
    subst e
    rw [in_order ((List.perm_cons a).1 h) hl.2 hm.2]
theorem Sound.eq {S T : List Rc} (hS : Sound S) (hT : Sound T) (h : S.Perm T) : S = T := in_order h (hS.srt.imp (fun h => klt_asymm h)) hT.srt
/-- Of one node, who has an epoch, is one. -/
theorem Sound.one {S : List Rc} (h : Sound S) {a b : Rc} (ha : a ∈ S) (hb : b ∈ S) (hn : a.ad = b.ad) {e : Nat} (h1 : a.has e = true) (h2 : b.has e = true) : a = b := by
  have key : ∀ x y : Rc, x.ad = y.ad → x.has e = true → y.has e = true → clash x y = true := by
    intro x y hxy hx hy
    simp only [clash, Rc.has, Bool.and_eq_true, Bool.or_eq_true, decide_eq_true_eq] at *
    omega
  have hp := h.apart
  rw [List.pairwise_iff_getElem] at hp
  obtain ⟨i, hi, rfl⟩ := List.getElem_of_mem ha
  obtain ⟨j, hj, rfl⟩ := List.getElem_of_mem hb
  rcases Nat.lt_trichotomy i j with hij | rfl | hij
  · have := hp i j hi hj hij
    rw [key _ _ hn h1 h2] at this
    cases this
  · rfl
  · have := hp j i hj hi hij
    rw [key _ _ hn.symm h2 h1] at this
    cases this
end Go.Proofs.YtnmpfbffacljfaaDoor
