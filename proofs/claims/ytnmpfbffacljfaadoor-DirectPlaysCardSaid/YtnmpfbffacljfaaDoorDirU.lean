/- Package direct: what is written is loaded; contracts as the statements meet them. -/
import Derived.Test.YtnmpfbffacljfaaDoorDirO
namespace Go.Proofs.YtnmpfbffacljfaaDoor
open Go.RowKit

theorem rdr_rcb {r : Rc} (h : r.ok) (m : List UInt8) : rdr (rcb r ++ m) = r := by
  obtain ⟨a, f, u, l⟩ := r
  have h1 : a < 65536 := h.ad
  have h2 : f < 4294967296 := h.fr
  have h3 : u < 4294967296 := h.up
  have h4 : l < 4294967296 := h.ln
  have t : ∀ (x : Nat) (p q : List UInt8), p.length = x → (p ++ q).take x = p := fun x p q hp => by rw [List.take_append_of_le_length (by omega), List.take_of_length_le (by omega)]
  have d : ∀ (x : Nat) (p q : List UInt8), p.length = x → (p ++ q).drop x = q := fun x p q hp => by rw [List.drop_append_of_le_length (by omega), List.drop_of_length_le (by omega), List.nil_append]
  unfold rdr rcb
  simp only [List.append_assoc]
  have e2 : (be 2 a ++ (be 4 f ++ (be 4 u ++ (be 4 l ++ m)))).drop 2 = be 4 f ++ (be 4 u ++ (be 4 l ++ m)) := d 2 _ _ (be_length _ _)
  have e6 : (be 2 a ++ (be 4 f ++ (be 4 u ++ (be 4 l ++ m)))).drop 6 = be 4 u ++ (be 4 l ++ m) := by
    rw [show 6 = 2 + 4 from rfl, ← List.drop_drop, e2, d 4 _ _ (be_length _ _)]
  have e10 : (be 2 a ++ (be 4 f ++ (be 4 u ++ (be 4 l ++ m)))).drop 10 = be 4 l ++ m := by
    rw [show 10 = 6 + 4 from rfl, ← List.drop_drop, e6, d 4 _ _ (be_length _ _)]
  rw [e2, e6, e10, t 2 _ _ (be_length _ _), t 4 _ _ (be_length _ _), t 4 _ _ (be_length _ _), t 4 _ _ (be_length _ _), num_be, num_be, num_be, num_be, Nat.mod_eq_of_lt (by omega), Nat.mod_eq_of_lt (by omega), Nat.mod_eq_of_lt (by omega), Nat.mod_eq_of_lt (by omega)]
theorem dirb_drop : ∀ (S : List Rc) (i : Nat), (dirb S).drop (i * 14) = dirb (S.drop i)
  | S, 0 => by simp
  | [], i + 1 => by simp [dirb]
  | r :: S, i + 1 => by
    have := dirb_drop S i
    unfold dirb at *
    have e : (rcb r ++ List.flatMap rcb S).drop 14 = List.flatMap rcb S := by
      rw [List.drop_append_of_le_length (by rw [rcb_len]; exact Nat.le_refl _), List.drop_of_length_le (by rw [rcb_len]; exact Nat.le_refl _), List.nil_append]
    rw [List.flatMap_cons, List.drop_succ_cons, show (i + 1) * 14 = 14 + i * 14 by omega, ← List.drop_drop, e, this]
theorem recs_dirb {S : List Rc} (h : ∀ r ∈ S, r.ok) : recs (dirb S) = S := by
  have hl : (recs (dirb S)).length = S.length := by rw [recs_len, dirb_len]; omega
  refine List.ext_getElem hl fun i h1 h2 => ?_
  rw [recs_get, dirb_drop, List.drop_eq_getElem_cons h2]
  show rdr (rcb S[i] ++ _) = _
  exact rdr_rcb (h _ (List.getElem_mem h2)) _
theorem ldl_all : ∀ (B A : List Rc), Sound (A ++ B) → ldl A B = some (A ++ B)
  | [], A, _ => by rw [List.append_nil]; rfl
  | x :: B, A, h => by
    have h1 : (A.getLast?.any fun y => klt x y) = false := by
      cases e : A.getLast? with
      | none => rfl
      | some y =>
        have hy : y ∈ A := List.mem_of_getLast? e
        have := (List.pairwise_append.1 h.srt).2.2 y hy x List.mem_cons_self
        exact klt_asymm this
    have h2 : dire A x = 0 := by
      refine dire_of (h.fine x (by simp)) (fun y hy => ?_) ?_
      · exact (List.pairwise_append.1 h.apart).2.2 y hy x List.mem_cons_self
      · have := h.len
        simp at this
        omega
    unfold ldl
    rw [h1, h2]
    have := ldl_all B (A ++ [x]) (by simpa using h)
    simpa using this
/-- What is written is loaded. -/
theorem lode_dirs {S : List Rc} (h : Sound S) : lode (dirs S) = (0, S) := by
  have hl := dirs_len S
  have hd := dirb_len S
  have e1 : (dirs S).length - 32 = (dirb S).length := by omega
  have e2 : (dirs S).take (dirb S).length = dirb S := by unfold dirs; rw [List.take_append_of_le_length (Nat.le_refl _), List.take_of_length_le (Nat.le_refl _)]
  have e3 : (dirs S).drop (dirb S).length = sha (dirb S) := by unfold dirs; rw [List.drop_append_of_le_length (Nat.le_refl _), List.drop_of_length_le (Nat.le_refl _), List.nil_append]
  unfold lode
  rw [if_neg (by omega), e1, e2, e3, if_pos rfl, if_pos (by omega), recs_dirb h.ok, ldl_all S [] h]
  rfl
/-- What is loaded is a directory, and its bytes are those. -/
theorem ldl_sound : ∀ (B A T : List Rc), Sound A → (∀ r ∈ B, r.ok) → ldl A B = some T → T = A ++ B ∧ Sound T
  | [], A, T, h, _, e => by
    injection e with e
    subst e
    exact ⟨by simp, h⟩
  | x :: B, A, T, h, hk, e => by
    unfold ldl at e
    split at e
    · cases e
    · rename_i hc
      simp only [Bool.or_eq_true, decide_eq_true_eq, not_or, Bool.not_eq_true, ne_eq, Classical.not_not] at hc
      have hs : Sound (A ++ [x]) := by rw [← ins_behind h hc.2 hc.1]; exact h.ins (hk x List.mem_cons_self) hc.2
      obtain ⟨h1, h2⟩ := ldl_sound B (A ++ [x]) T hs (fun r hr => hk r (List.mem_cons_of_mem _ hr)) e
      exact ⟨by rw [h1]; simp, h2⟩

/-! ### contracts -/
section
variable {w : World} {D : Nat → Prop} {d : Nat} {S : List Rc} (H : Di w D d S)
include H
theorem add_i (xa xf xu xn : Nat) (hok : (⟨xa, xf, xu, xn⟩ : Rc).ok) (z : Nat) (hz : dire S ⟨xa, xf, xu, xn⟩ = z) (T : List Rc) (hT : dirl S ⟨xa, xf, xu, xn⟩ = T) {x1 x2 x3 x4 x5 : Int} (h1 : x1 = xa) (h2 : x2 = xf) (h3 : x3 = xu) (h4 : x4 = xn) (h5 : x5 = z) :
    Calls Tryd.prog 15 #[.pointer (some ⟨d, 0, none⟩), .agg #[.int .u16 x1, .int .u32 x2, .int .u32 x3, .int .u32 x4]] w fun e w' => e = .returned (.int .i64 x5) ∧ Di w' D d T ∧ Ext D w w' := by
  subst h1 h2 h3 h4 h5
  exact add_x H xa xf xu xn hok z hz T hT
theorem find_some (a e qa qf qu qn : Nat) (hq : dfnd S a e = some ⟨qa, qf, qu, qn⟩) {x1 x2 : Int} (h1 : x1 = a) (h2 : x2 = e) :
    Calls Tryd.prog 19 #[.pointer (some ⟨d, 0, none⟩), .int .u16 x1, .int .u32 x2] w fun e' w' => e' = .returned (.tuple #[.agg #[.int .u16 qa, .int .u32 qf, .int .u32 qu, .int .u32 qn], .bool true]) ∧ Ext Non w w' := by
  subst h1 h2
  exact find_calls H a e _ hq
theorem find_none (a e : Nat) (hq : dfnd S a e = none) {x1 x2 : Int} (h1 : x1 = a) (h2 : x2 = e) :
    Calls Tryd.prog 19 #[.pointer (some ⟨d, 0, none⟩), .int .u16 x1, .int .u32 x2] w fun e' w' => e' = .returned (.tuple #[.agg #[.int .u16 0, .int .u32 0, .int .u32 0, .int .u32 0], .bool false]) ∧ Ext Non w w' := by
  subst h1 h2
  exact find_calls H a e _ hq
theorem valid_i (e : Nat) (T : List Rc) (hT : S.filter (fun r => r.has e) = T) (n : Nat) (hn : T.length = n) {x1 : Int} (h1 : x1 = e) :
    Calls Tryd.prog 22 #[.pointer (some ⟨d, 0, none⟩), .int .u32 x1] w fun e' w' => ∃ A c, e' = .returned (.slice A n c) ∧ OwR w' w.heap.size A c T ∧ Ext Non w w' := by
  subst h1
  exact valid_calls H e T hT n hn
end
theorem load_ok {w : World} (G : Glob w) (hw2 : 2 ≤ w.heap.size) {Db : Nat → Prop} {A : Option Addr} {b : List UInt8} (c n : Nat) (hr : Rd w Db A (bvs b)) (hn : b.length = n) (hnc : n ≤ c) (hl : b.length ≤ 1000000) (hDb : ∀ k, Db k → k < w.heap.size) (T : List Rc) (hT : lode b = (0, T)) :
    Calls Tryd.prog 25 #[.slice A n c] w fun e w' => ∃ d, e = .returned (.tuple #[.pointer (some ⟨d, 0, none⟩), .int .i64 0]) ∧ Di w' (fun k => w.heap.size ≤ k ∧ k < w'.heap.size) d T ∧ Ext Non w w' := by
  refine (load_calls G hw2 c n hr hn hnc hl hDb).mono ?_
  rintro e w' ⟨X, h⟩
  rw [hT] at h
  rcases h with ⟨h, _⟩ | ⟨_, d, h1, h2⟩
  · exact absurd rfl h
  · exact ⟨d, h1, h2, X⟩
theorem load_no {w : World} (G : Glob w) (hw2 : 2 ≤ w.heap.size) {Db : Nat → Prop} {A : Option Addr} {b : List UInt8} (c n : Nat) (hr : Rd w Db A (bvs b)) (hn : b.length = n) (hnc : n ≤ c) (hl : b.length ≤ 1000000) (hDb : ∀ k, Db k → k < w.heap.size) (z : Nat) (hz : (lode b).1 = z) (h0 : z ≠ 0) :
    Calls Tryd.prog 25 #[.slice A n c] w fun e w' => e = .returned (.tuple #[.pointer none, .int .i64 (z : Int)]) ∧ Ext Non w w' := by
  refine (load_calls G hw2 c n hr hn hnc hl hDb).mono ?_
  rintro e w' ⟨X, h⟩
  rw [hz] at h
  rcases h with ⟨_, h⟩ | ⟨h, _⟩
  · exact ⟨h, X⟩
  · exact absurd h h0
end Go.Proofs.YtnmpfbffacljfaaDoor
