/- The document's joiner of pieces, as plain lists, and that it answers as the program's. No program. -/
import Derived.Test.YtcdpmedmhindaaaJnP
namespace Go.Proofs.Ytcdpmedmhindaaa
open Go.RowKit

theorem snoc_ind {α : Type} {P : List α → Prop} (h0 : P []) (h1 : ∀ L q, P L → P (L ++ [q])) (L : List α) : P L := by
  have h : ∀ M : List α, P M.reverse := by
    intro M
    induction M with
    | nil => exact h0
    | cons a M ih => rw [List.reverse_cons]; exact h1 _ _ ih
  rw [← List.reverse_reverse L]
  exact h _
section
variable {κ β : Type} [DecidableEq κ]
theorem mers_put_self (k : κ) (v : β) : ∀ L : List (κ × β), mers k (mput k v L) = mers k L
  | [] => by simp [mput, mers]
  | x :: L => by
    unfold mput
    by_cases e : k = x.1
    · rw [if_pos e]
      simp [mers, e]
    · rw [if_neg e]
      simp only [mers, if_neg e]
      rw [mers_put_self k v L]
theorem mers_put_ne {k k' : κ} (h : k' ≠ k) (v : β) : ∀ L : List (κ × β), mers k (mput k' v L) = mput k' v (mers k L)
  | [] => by simp [mput, mers, h.symm]
  | x :: L => by
    by_cases e : k' = x.1
    · have e2 : ¬ k = x.1 := fun e2 => h (e.trans e2.symm)
      simp only [mput, if_pos e, mers, if_neg e2]
    · have e3 : mput k' v (x :: L) = x :: mput k' v L := by simp only [mput, if_neg e]
      rw [e3]
      by_cases e2 : k = x.1
      · simp only [mers, if_pos e2]
      · simp only [mers, if_neg e2]
        rw [mers_put_ne h v L]
        simp only [mput, if_neg e]
end

structure RJ where
  room : Int
  L : List Pc
  dn : List Pc
def own (L : List Pc) (k : Ky) : List Pc := L.filter fun q => decide (q.key = k)
def oth (L : List Pc) (k : Ky) : List Pc := L.filter fun q => !decide (q.key = k)
def pls (o : Option Opn) : List (Int × List UInt8) := (o.map (·.2)).getD []
def put1 (o : List (Ky × Opn)) (p : Pc) : List (Ky × Opn) := mput p.key (p.count, pls (lkp p.key o) ++ [(p.place, p.b)]) o
def opnOf (L : List Pc) : List (Ky × Opn) := L.foldl put1 []
theorem opn_snoc (L : List Pc) (q : Pc) : opnOf (L ++ [q]) = put1 (opnOf L) q := by simp [opnOf]
theorem own_snoc (L : List Pc) (q : Pc) (k : Ky) : own (L ++ [q]) k = if q.key = k then own L k ++ [q] else own L k := by
  unfold own
  rw [List.filter_append]
  by_cases h : q.key = k
  · simp [h]
  · simp [h]
theorem oth_snoc (L : List Pc) (q : Pc) (k : Ky) : oth (L ++ [q]) k = if q.key = k then oth L k else oth L k ++ [q] := by
  unfold oth
  rw [List.filter_append]
  by_cases h : q.key = k
  · simp [h]
  · simp [h]
def plc (q : Pc) : Int × List UInt8 := (q.place, q.b)
/-- What is known of a key's message. -/
theorem lkp_opn (k : Ky) (L : List Pc) : (own L k = [] ∧ lkp k (opnOf L) = none) ∨ (∃ c, own L k ≠ [] ∧ lkp k (opnOf L) = some (c, (own L k).map plc) ∧ ∃ q ∈ own L k, q.count = c) := by
  induction L using snoc_ind with
  | h0 => exact .inl ⟨rfl, rfl⟩
  | h1 L q ih =>
    rw [opn_snoc, own_snoc]
    unfold put1
    by_cases h : q.key = k
    · subst h
      rw [if_pos rfl, lkp_put_self]
      refine .inr ⟨q.count, by simp, ?_, q, by simp, rfl⟩
      congr 2
      rw [List.map_append]
      congr 1
      rcases ih with ⟨h1, h2⟩ | ⟨c, _, h2, _⟩
      · rw [h1, h2]; rfl
      · rw [h2]; rfl
    · rw [if_neg h, lkp_put_ne (fun e => h e.symm)]
      exact ih
theorem put_len (k : Ky) (v : Opn) (o : List (Ky × Opn)) : (mput k v o).length = o.length + if lkp k o = none then 1 else 0 := by
  cases e : lkp k o with
  | none => rw [mput_new v e]; simp
  | some u => rw [put_len_old v e]; simp
theorem opn_len (L : List Pc) (q : Pc) : (opnOf (L ++ [q])).length = (opnOf L).length + if own L q.key = [] then 1 else 0 := by
  rw [opn_snoc]
  unfold put1
  rw [put_len]
  rcases lkp_opn q.key L with ⟨h1, h2⟩ | ⟨c, h1, h2, _⟩
  · rw [if_pos h1, if_pos h2]
  · rw [if_neg h1, if_neg (by rw [h2]; simp)]
theorem opn_oth (k : Ky) (L : List Pc) : opnOf (oth L k) = mers k (opnOf L) := by
  induction L using snoc_ind with
  | h0 => rfl
  | h1 L q ih =>
    rw [oth_snoc, opn_snoc]
    unfold put1
    by_cases h : q.key = k
    · subst h
      rw [if_pos rfl, mers_put_self, ih]
    · rw [if_neg h, opn_snoc, mers_put_ne h, ih]
      unfold put1
      rw [lkp_ers_ne h]

def bad (o : List Pc) (p : Pc) : Prop := ∃ q ∈ o, q.count ≠ p.count ∨ (q.place = p.place ∧ q.b ≠ p.b)
def thr (o : List Pc) (p : Pc) : Prop := ∃ q ∈ o, q.place = p.place
def ball (o : List Pc) (c : Nat) : List UInt8 := (List.range c).flatMap fun (i : Nat) => o.flatMap fun q => if q.place = (i : Int) then q.b else []
def dn64 (l : List Pc) : List Pc := if 64 < l.length then l.drop 1 else l
instance (o : List Pc) (p : Pc) : Decidable (bad o p) := by unfold bad; infer_instance
instance (o : List Pc) (p : Pc) : Decidable (thr o p) := by unfold thr; infer_instance
/-- The document's Take. -/
def rtake (R : RJ) (p : Pc) : RJ × Nat × Option (List UInt8) :=
  if prt p = true ∧ p.kind = 1 then
    if ∃ q ∈ R.dn, q.key = p.key then (R, 7, none)
    else if own R.L p.key = [] ∧ 1 < p.count ∧ max R.room 1 ≤ ((opnOf R.L).length : Int) then (R, 8, none)
    else if bad (own R.L p.key) p then (R, 3, none)
    else if thr (own R.L p.key) p then (R, 7, none)
    else if ((own R.L p.key).length : Int) + 1 < p.count then (⟨R.room, R.L ++ [p], R.dn⟩, 0, none)
    else (⟨R.room, oth R.L p.key, dn64 (R.dn ++ [p])⟩, 0, some (ball (own R.L p.key ++ [p]) p.count.toNat))
  else (R, 1, none)
def Far (a b : Pc) : Prop := a.key = b.key → a.count = b.count ∧ a.place ≠ b.place
structure Sim (J : Jn) (R : RJ) : Prop where
  room : J.room = max R.room 1
  opn : J.opn = opnOf R.L
  dn : J.done = R.dn.map Pc.key
  far : R.L.Pairwise Far
  few : R.dn.length ≤ 64
theorem sim_new (room : Int) : Sim (jn0 room) ⟨room, [], []⟩ := by
  refine ⟨?_, rfl, rfl, List.Pairwise.nil, by simp⟩
  show (if room < 1 then 1 else room) = max room 1
  split <;> omega
theorem pw_count {k : Ky} : ∀ {M : List Pc}, M.Pairwise Far → (∀ q ∈ M, q.key = k) → ∀ a ∈ M, ∀ b ∈ M, a.count = b.count
  | [], _, _, a, ha, _, _ => by cases ha
  | x :: M, h, hk, a, ha, b, hb => by
    obtain ⟨h1, h2⟩ := List.pairwise_cons.1 h
    have hx : ∀ y ∈ M, x.count = y.count := fun y hy => (h1 y hy ((hk x (by simp)).trans (hk y (by simp [hy])).symm)).1
    rcases List.mem_cons.1 ha with e | ha'
    · rcases List.mem_cons.1 hb with e' | hb'
      · rw [e, e']
      · rw [e]; exact hx b hb'
    · rcases List.mem_cons.1 hb with e' | hb'
      · rw [e']; exact (hx a ha').symm
      · exact pw_count h2 (fun q hq => hk q (by simp [hq])) a ha' b hb'
theorem own_key {L : List Pc} {k : Ky} {q : Pc} (h : q ∈ own L k) : q.key = k ∧ q ∈ L := by
  obtain ⟨h1, h2⟩ := List.mem_filter.1 h
  exact ⟨of_decide_eq_true h2, h1⟩
theorem mem_own {L : List Pc} {k : Ky} {q : Pc} (h : q ∈ L) (hk : q.key = k) : q ∈ own L k := List.mem_filter.2 ⟨h, decide_eq_true hk⟩
def Apl (a b : Pc) : Prop := a.place ≠ b.place
theorem own_far {L : List Pc} (h : L.Pairwise Far) (k : Ky) : (own L k).Pairwise Far := h.sublist List.filter_sublist
theorem far_apl {k : Ky} : ∀ {M : List Pc}, M.Pairwise Far → (∀ q ∈ M, q.key = k) → M.Pairwise Apl
  | [], _, _ => List.Pairwise.nil
  | x :: M, h, hk => by
    obtain ⟨h1, h2⟩ := List.pairwise_cons.1 h
    exact List.pairwise_cons.2 ⟨fun y hy => (h1 y hy ((hk x (by simp)).trans (hk y (by simp [hy])).symm)).2, far_apl h2 (fun q hq => hk q (by simp [hq]))⟩
theorem lkp_plc : ∀ {M : List Pc}, M.Pairwise Apl → ∀ {q : Pc}, q ∈ M → lkp q.place (M.map plc) = some q.b
  | [], _, q, h => by cases h
  | x :: M, h, q, hq => by
    obtain ⟨h1, h2⟩ := List.pairwise_cons.1 h
    rw [List.map_cons]
    show (if q.place = x.place then some x.b else lkp q.place (M.map plc)) = _
    rcases List.mem_cons.1 hq with rfl | hq
    · rw [if_pos rfl]
    · rw [if_neg (fun e => h1 q hq e.symm)]
      exact lkp_plc h2 hq
theorem lkp_plc_some {M : List Pc} {i : Int} {v : List UInt8} (h : lkp i (M.map plc) = some v) : ∃ q ∈ M, q.place = i ∧ q.b = v := by
  have := lkp_mem h
  obtain ⟨q, hq, e⟩ := List.mem_map.1 this
  injection e with e1 e2
  exact ⟨q, hq, e1, e2⟩
theorem lkp_plc_none {M : List Pc} {i : Int} : lkp i (M.map plc) = none ↔ ∀ q ∈ M, q.place ≠ i := by
  rw [lkp_none, List.map_map]
  constructor
  · intro h q hq e
    exact h (List.mem_map.2 ⟨q, hq, e⟩)
  · intro h hm
    obtain ⟨q, hq, e⟩ := List.mem_map.1 hm
    exact h q hq e
theorem flat_none {i : Int} : ∀ {M : List Pc}, (∀ q ∈ M, q.place ≠ i) → (M.flatMap fun q => if q.place = i then q.b else []) = []
  | [], _ => rfl
  | x :: M, h => by
    rw [List.flatMap_cons, if_neg (h x (by simp)), flat_none (fun q hq => h q (by simp [hq]))]
    rfl
theorem lkp_flat {i : Int} : ∀ {M : List Pc}, M.Pairwise Apl → (lkp i (M.map plc)).getD [] = M.flatMap fun q => if q.place = i then q.b else []
  | [], _ => rfl
  | x :: M, h => by
    obtain ⟨h1, h2⟩ := List.pairwise_cons.1 h
    rw [List.map_cons, List.flatMap_cons]
    show (if i = x.place then some x.b else lkp i (M.map plc)).getD [] = _
    by_cases e : i = x.place
    · subst e
      rw [if_pos rfl, if_pos rfl, flat_none (fun q hq e => h1 q hq e.symm), List.append_nil]
      rfl
    · rw [if_neg e, if_neg (fun e2 => e e2.symm), lkp_flat h2, List.nil_append]
theorem whole_ball {M : List Pc} (h : M.Pairwise Apl) (c : Int) : whole c (M.map plc) = ball M c.toNat := by
  unfold whole ball
  congr 1
  funext i
  exact lkp_flat h
theorem dn64_len {l : List Pc} (h : l.length ≤ 65) : (dn64 l).length ≤ 64 := by
  unfold dn64
  split
  · rw [List.length_drop]; omega
  · omega
theorem dn64_map {l : List Pc} (h : l.length ≤ 65) : last64 (l.map Pc.key) = (dn64 l).map Pc.key := by
  unfold last64 dn64
  rw [List.length_map]
  split
  · rw [List.map_drop, show l.length - 64 = 1 from by omega]
  · rw [show l.length - 64 = 0 from by omega, List.drop_zero]
theorem sim_put {J : Jn} {R : RJ} (S : Sim J R) {p : Pc} (hb : ¬ bad (own R.L p.key) p) (ht : ¬ thr (own R.L p.key) p) :
    (jput J p p.count ((own R.L p.key).map plc)).2 = (if ((own R.L p.key).length : Int) + 1 < p.count then ((⟨R.room, R.L ++ [p], R.dn⟩, 0, none) : RJ × Nat × Option (List UInt8)) else (⟨R.room, oth R.L p.key, dn64 (R.dn ++ [p])⟩, 0, some (ball (own R.L p.key ++ [p]) p.count.toNat))).2 ∧
    Sim (jput J p p.count ((own R.L p.key).map plc)).1 (if ((own R.L p.key).length : Int) + 1 < p.count then ((⟨R.room, R.L ++ [p], R.dn⟩, 0, none) : RJ × Nat × Option (List UInt8)) else (⟨R.room, oth R.L p.key, dn64 (R.dn ++ [p])⟩, 0, some (ball (own R.L p.key ++ [p]) p.count.toNat))).1 := by
  have hl : mput p.place p.b ((own R.L p.key).map plc) = (own R.L p.key ++ [p]).map plc := by
    rw [mput_new _ (lkp_plc_none.2 fun q hq e => ht ⟨q, hq, e⟩), List.map_append]
    rfl
  have hfar : ∀ a ∈ R.L, Far a p := fun a ha e => by
    have hm := mem_own ha e
    refine ⟨Classical.byContradiction fun h => hb ⟨a, hm, .inl h⟩, fun h => ht ⟨a, hm, h⟩⟩
  have hapl : (own R.L p.key ++ [p]).Pairwise Apl := by
    refine List.pairwise_append.2 ⟨far_apl (own_far S.far p.key) (fun q hq => (own_key hq).1), List.pairwise_singleton _ _, fun a ha b hb' => ?_⟩
    rw [List.mem_singleton.1 hb']
    exact fun e => ht ⟨a, ha, e⟩
  unfold jput
  simp only [hl]
  have hlen : ((own R.L p.key ++ [p]).map plc).length = (own R.L p.key).length + 1 := by simp
  rw [hlen]
  by_cases hc : ((own R.L p.key).length : Int) + 1 < p.count
  · rw [if_pos (by omega), if_pos hc]
    refine ⟨rfl, ⟨S.room, ?_, S.dn, List.pairwise_append.2 ⟨S.far, List.pairwise_singleton _ _, fun a ha b hb' => ?_⟩, S.few⟩⟩
    · show mput p.key (p.count, (own R.L p.key ++ [p]).map plc) J.opn = opnOf (R.L ++ [p])
      rw [opn_snoc, S.opn]
      unfold put1
      congr 2
      rw [List.map_append]
      congr 1
      rcases lkp_opn p.key R.L with ⟨h1, h2⟩ | ⟨c, _, h2, _⟩
      · rw [h1, h2]; rfl
      · rw [h2]; rfl
    · rw [List.mem_singleton.1 hb']
      exact hfar a ha
  · rw [if_neg (by omega), if_neg hc]
    have hfew := S.few
    refine ⟨?_, ⟨S.room, ?_, ?_, S.far.sublist List.filter_sublist, dn64_len (by rw [List.length_append]; simp; omega)⟩⟩
    · show (0, some (whole p.count _)) = _
      rw [whole_ball hapl]
    · show mers p.key J.opn = opnOf (oth R.L p.key)
      rw [opn_oth, S.opn]
    · show last64 (J.done ++ [p.key]) = (dn64 (R.dn ++ [p])).map Pc.key
      rw [← dn64_map (by rw [List.length_append]; simp; omega), S.dn, List.map_append]
      rfl
theorem jtake_of {J : Jn} {p : Pc} {e : Nat} {o : Opn} (h : jchk J p = (e, o)) (he : e ≠ 0) : jtake J p = (J, e, none) := by
  unfold jtake
  rw [h]
  exact if_neg he
theorem jtake_ok {J : Jn} {p : Pc} {o : Opn} (h : jchk J p = (0, o)) : jtake J p = jput J p o.1 o.2 := by
  unfold jtake
  rw [h]
  exact if_pos rfl
theorem sim_take {J : Jn} {R : RJ} (S : Sim J R) (p : Pc) : (jtake J p).2 = (rtake R p).2 ∧ Sim (jtake J p).1 (rtake R p).1 := by
  have fin : ∀ {e : Nat}, jtake J p = (J, e, none) → rtake R p = (R, e, none) → (jtake J p).2 = (rtake R p).2 ∧ Sim (jtake J p).1 (rtake R p).1 := fun h1 h2 => by
    rw [h1, h2]
    exact ⟨rfl, S⟩
  by_cases hr : prt p = true ∧ p.kind = 1
  · by_cases hd : ∃ q ∈ R.dn, q.key = p.key
    · have hd' : p.key ∈ J.done := by
        obtain ⟨q, hq, e⟩ := hd
        rw [S.dn]
        exact List.mem_map.2 ⟨q, hq, e⟩
      refine fin (e := 7) (jtake_of (o := (0, [])) (by unfold jchk; rw [if_pos hr, if_pos hd']) (by decide)) ?_
      unfold rtake
      rw [if_pos hr, if_pos hd]
    · have hd' : ¬ p.key ∈ J.done := fun h => by
        rw [S.dn] at h
        obtain ⟨q, hq, e⟩ := List.mem_map.1 h
        exact hd ⟨q, hq, e⟩
      rcases lkp_opn p.key R.L with ⟨h1, h2⟩ | ⟨c, h1, h2, q0, hq0, hc0⟩
      · have h2' : lkp p.key J.opn = none := by rw [S.opn]; exact h2
        by_cases h8 : 1 < p.count ∧ max R.room 1 ≤ ((opnOf R.L).length : Int)
        · refine fin (e := 8) (jtake_of (o := (0, [])) ?_ (by decide)) ?_
          · unfold jchk
            rw [if_pos hr, if_neg hd', h2', S.opn, S.room]
            exact if_pos h8
          · unfold rtake
            rw [if_pos hr, if_neg hd, if_pos ⟨h1, h8⟩]
        · have hb : ¬ bad (own R.L p.key) p := by rw [h1]; rintro ⟨q, hq, _⟩; cases hq
          have ht : ¬ thr (own R.L p.key) p := by rw [h1]; rintro ⟨q, hq, _⟩; cases hq
          have e1 : jtake J p = jput J p p.count [] := jtake_ok (o := (p.count, [])) (by
            unfold jchk
            rw [if_pos hr, if_neg hd', h2', S.opn, S.room]
            exact if_neg h8)
          have := sim_put S hb ht
          have e2 : (own R.L p.key).map plc = [] := by rw [h1]; rfl
          rw [e2] at this
          rw [e1]
          unfold rtake
          rw [if_pos hr, if_neg hd, if_neg (fun h => h8 h.2), if_neg hb, if_neg ht]
          exact this
      · have h2' : lkp p.key J.opn = some (c, (own R.L p.key).map plc) := by rw [S.opn]; exact h2
        have hcnt : ∀ q ∈ own R.L p.key, q.count = c := fun q hq => (pw_count (own_far S.far p.key) (fun q hq => (own_key hq).1) q hq q0 hq0).trans hc0
        have hapl := far_apl (own_far S.far p.key) (fun q hq => (own_key hq).1)
        by_cases hb : bad (own R.L p.key) p
        · refine fin (e := 3) (jtake_of (o := (0, [])) ?_ (by decide)) ?_
          · unfold jchk
            rw [if_pos hr, if_neg hd', h2']
            refine if_pos ?_
            obtain ⟨q, hq, h | ⟨h, h'⟩⟩ := hb
            · left
              rw [← hcnt q hq]
              exact h
            · right
              show lkp p.place ((own R.L p.key).map plc) ≠ none ∧ lkp p.place ((own R.L p.key).map plc) ≠ some p.b
              rw [← h, lkp_plc hapl hq]
              simp [h']
          · unfold rtake
            rw [if_pos hr, if_neg hd, if_neg (fun h => h1 h.1), if_pos hb]
        · have hcc : c = p.count := by
            refine Classical.byContradiction fun h => hb ⟨q0, hq0, .inl ?_⟩
            rw [hc0]
            exact h
          have hn3 : ¬ ((c, (own R.L p.key).map plc).1 ≠ p.count ∨ (lkp p.place (c, (own R.L p.key).map plc).2 ≠ none ∧ lkp p.place (c, (own R.L p.key).map plc).2 ≠ some p.b)) := by
            rintro (h | ⟨h, h'⟩)
            · exact h hcc
            · cases e : lkp p.place ((own R.L p.key).map plc) with
              | none => exact h e
              | some v =>
                obtain ⟨q, hq, e1, e2⟩ := lkp_plc_some e
                refine hb ⟨q, hq, .inr ⟨e1, fun e3 => h' ?_⟩⟩
                show lkp p.place ((own R.L p.key).map plc) = _
                rw [e, ← e2, e3]
          by_cases ht : thr (own R.L p.key) p
          · refine fin (e := 7) (jtake_of (o := (0, [])) ?_ (by decide)) ?_
            · unfold jchk
              rw [if_pos hr, if_neg hd', h2']
              simp only
              rw [if_neg hn3]
              refine if_pos ?_
              obtain ⟨q, hq, h⟩ := ht
              rw [← h, lkp_plc hapl hq]
              simp
            · unfold rtake
              rw [if_pos hr, if_neg hd, if_neg (fun h => h1 h.1), if_neg hb, if_pos ht]
          · have e1 : jtake J p = jput J p c ((own R.L p.key).map plc) := jtake_ok (o := (c, (own R.L p.key).map plc)) (by
              unfold jchk
              rw [if_pos hr, if_neg hd', h2']
              simp only
              rw [if_neg hn3]
              refine if_neg fun h => h ?_
              exact lkp_plc_none.2 fun q hq e => ht ⟨q, hq, e⟩)
            rw [e1, hcc]
            unfold rtake
            rw [if_pos hr, if_neg hd, if_neg (fun h => h1 h.1), if_neg hb, if_neg ht]
            exact sim_put S hb ht
  · refine fin (e := 1) (jtake_of (o := (0, [])) (by unfold jchk; rw [if_neg hr]) (by decide)) ?_
    unfold rtake
    rw [if_neg hr]
end Go.Proofs.Ytcdpmedmhindaaa
