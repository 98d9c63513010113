/- Words of layer 9's laws: records added one behind the other. -/
import Derived.Test.YtnmpfbffacljfaaDoorDir09
import Derived.Test.YtnmpfbffacljfaaDoorDirDec
namespace Go.Proofs.YtnmpfbffacljfaaDoor
open Go.RowKit

/-- Records added one behind the other. -/
def addall (S l : List Rc) : List Rc := l.foldl dirl S
theorem addall_take (S l : List Rc) (i : Nat) (h : i < l.length) : addall S (l.take (i + 1)) = dirl (addall S (l.take i)) l[i] := by
  unfold addall
  rw [List.take_succ_eq_append_getElem h, List.foldl_append]
  rfl
theorem addall_snoc (S l : List Rc) (x : Rc) : addall S (l ++ [x]) = dirl (addall S l) x := by
  unfold addall
  rw [List.foldl_append]
  rfl
theorem addall_sound {S : List Rc} (h : Sound S) : ∀ {l : List Rc}, (∀ r ∈ l, r.ok) → Sound (addall S l) := by
  intro l
  unfold addall
  induction l generalizing S with
  | nil => intro _; exact h
  | cons x l ih => intro hk; exact ih (h.dirl (hk x List.mem_cons_self)) (fun r hr => hk r (List.mem_cons_of_mem _ hr))
/-- One of records that came in, in a world that has grown: its cells. -/
theorem InR.cells {w : World} {A : Option Addr} {n : Nat} {l : List Rc} (h : InR w A n l) (i : Nat) (hi : i < l.length) (a f u k : Nat) (he : l[i] = ⟨a, f, u, k⟩) : A.isSome = true ∧ ∀ W, Ext Non w W → W.cell? ((A.getD default).add (i * 4)) = some (.int .u16 a) ∧
    W.cell? ⟨((A.getD default).add (i * 4)).block, ((A.getD default).add (i * 4)).off + 1, none⟩ = some (.int .u32 f) ∧ W.cell? ⟨((A.getD default).add (i * 4)).block, ((A.getD default).add (i * 4)).off + 2, none⟩ = some (.int .u32 u) ∧
    W.cell? ⟨((A.getD default).add (i * 4)).block, ((A.getD default).add (i * 4)).off + 3, none⟩ = some (.int .u32 k) := by
  have := h.facts i hi
  rw [he] at this
  exact this

/-! ### who is there at an epoch -/
theorem Sound.rise {S : List Rc} (h : Sound S) (e : Nat) : (S.filter fun r => r.has e).Pairwise fun x y => x.ad < y.ad := by
  have h2 := (h.filter fun r => r.has e)
  refine h2.srt.imp_of_mem ?_
  intro a b ha hb hk
  simp only [klt, decide_eq_true_eq] at hk
  rcases hk with hk | hk
  · exact hk
  · exfalso
    have := h2.one ha hb hk.1 (List.mem_filter.1 ha).2 (List.mem_filter.1 hb).2
    subst this
    omega
theorem once_step : ∀ (v : List Rc), v.Pairwise (fun x y => x.ad < y.ad) → ∀ a : Nat,
    ((v.filter fun r => decide (r.ad = a)) = [] ∧ v.countP (fun r => decide (r.ad < a + 1)) = v.countP (fun r => decide (r.ad < a))) ∨
    ∃ r, v[v.countP (fun r => decide (r.ad < a))]? = some r ∧ r.ad = a ∧ (v.filter fun r => decide (r.ad = a)) = [r] ∧ v.countP (fun r => decide (r.ad < a + 1)) = v.countP (fun r => decide (r.ad < a)) + 1
  | [], _, _ => .inl ⟨rfl, rfl⟩
  | x :: t, h, a => by
    rw [List.pairwise_cons] at h
    rcases Nat.lt_trichotomy x.ad a with hx | hx | hx
    · rcases once_step t h.2 a with ⟨h1, h2⟩ | ⟨r, h1, h2, h3, h4⟩
      · refine .inl ⟨by rw [List.filter_cons, if_neg (by simp; omega), h1], ?_⟩
        rw [List.countP_cons, List.countP_cons, h2, if_pos (by simp; omega), if_pos (by simpa using hx)]
      · refine .inr ⟨r, ?_, h2, by rw [List.filter_cons, if_neg (by simp; omega), h3], ?_⟩
        · rw [List.countP_cons, if_pos (by simpa using hx), List.getElem?_cons_succ, h1]
        · rw [List.countP_cons, List.countP_cons, h4, if_pos (by simp; omega), if_pos (by simpa using hx)]
    · have h0 : ∀ b, b ≤ a + 1 → t.countP (fun r => decide (r.ad < b)) = 0 := fun b hb => List.countP_eq_zero.2 fun y hy hyb => by
        have := h.1 y hy
        simp at hyb
        omega
      have hf : t.filter (fun r => decide (r.ad = a)) = [] := List.filter_eq_nil_iff.2 fun y hy hya => by
        have := h.1 y hy
        simp at hya
        omega
      refine .inr ⟨x, ?_, hx, by rw [List.filter_cons, if_pos (by simpa using hx), hf], ?_⟩
      · rw [List.countP_cons, h0 a (by omega), if_neg (by simp; omega)]; rfl
      · rw [List.countP_cons, List.countP_cons, h0 a (by omega), h0 (a + 1) (by omega), if_pos (by simp; omega), if_neg (by simp; omega)]
    · have h0 : ∀ b, b ≤ a + 1 → t.countP (fun r => decide (r.ad < b)) = 0 := fun b hb => List.countP_eq_zero.2 fun y hy hyb => by
        have := h.1 y hy
        simp at hyb
        omega
      have hf : t.filter (fun r => decide (r.ad = a)) = [] := List.filter_eq_nil_iff.2 fun y hy hya => by
        have := h.1 y hy
        simp at hya
        omega
      refine .inl ⟨by rw [List.filter_cons, if_neg (by simp; omega), hf], ?_⟩
      rw [List.countP_cons, List.countP_cons, h0 a (by omega), h0 (a + 1) (by omega), if_neg (by simp; omega), if_neg (by simp; omega)]
theorem dfnd_valid (S : List Rc) (a e : Nat) : dfnd S a e = ((S.filter fun r => r.has e).filter fun r => decide (r.ad = a)).head? := by
  unfold dfnd
  rw [List.filter_filter]
/-- What is found, in terms of those that are there. -/
theorem found_at {S : List Rc} (h : Sound S) (e a : Nat) (v : List Rc) (hv : (S.filter fun r => r.has e) = v) :
    (dfnd S a e = none ∧ v.countP (fun r => decide (r.ad < a + 1)) = v.countP (fun r => decide (r.ad < a))) ∨
    ∃ r, dfnd S a e = some r ∧ v[v.countP (fun r => decide (r.ad < a))]? = some r ∧ r.ad = a ∧ r.fr ≤ e ∧ e ≤ r.up ∧ v.countP (fun r => decide (r.ad < a + 1)) = v.countP (fun r => decide (r.ad < a)) + 1 := by
  have hr := h.rise e
  rw [hv] at hr
  rw [dfnd_valid, hv]
  rcases once_step v hr a with ⟨h1, h2⟩ | ⟨r, h1, h2, h3, h4⟩
  · exact .inl ⟨by rw [h1]; rfl, h2⟩
  · have hm : r ∈ v := List.mem_of_getElem? h1
    rw [← hv] at hm
    have hh := (List.mem_filter.1 hm).2
    simp only [Rc.has, decide_eq_true_eq] at hh
    exact .inr ⟨r, by rw [h3]; rfl, h1, h2, hh.1, hh.2, h4⟩
theorem count_le {S : List Rc} (h : Sound S) (e : Nat) (v : List Rc) (hv : (S.filter fun r => r.has e) = v) : ∀ a, v.countP (fun r => decide (r.ad < a)) ≤ a
  | 0 => by
    rw [Nat.le_zero, List.countP_eq_zero]
    intro y _ hy
    simp at hy
  | a + 1 => by
    have := count_le h e v hv a
    rcases found_at h e a v hv with ⟨_, h2⟩ | ⟨_, _, _, _, _, _, h2⟩ <;> omega
theorem count_all {S : List Rc} (h : Sound S) (e : Nat) (v : List Rc) (hv : (S.filter fun r => r.has e) = v) (a : Nat) (ha : 16 ≤ a) : v.countP (fun r => decide (r.ad < a)) = v.length := by
  rw [List.countP_eq_length]
  intro r hr
  rw [← hv] at hr
  have := h.fine r (List.mem_filter.1 hr).1
  simp only [Rc.fine, decide_eq_true_eq] at this
  simp
  omega

/-! ### slices of records: copies, writing over -/
theorem conv_str {w : World} {D : Nat → Prop} {A : Option Addr} {l : List UInt8} (hr : Rd w D A (bvs l)) (n c : Nat) (hn : l.length = n) : (convert 50 9 (.slice A n c)).run Tryd.prog w = .ok (.string (str l)) w :=
  run_convert_rd w 50 9 5 Tryd.underlying50 Tryd.underlying9 Tryd.underlying5 hr n c hn
theorem eql_str (w : World) (l m : List UInt8) (v : Bool) (h : (l == m) = v) : (binOp .eql 9 (.string (str l)) (.string (str m))).run Tryd.prog w = .ok (.bool v) w := by rw [string_eql, h]; rfl
theorem neq_str (w : World) (l m : List UInt8) (v : Bool) (h : (l == m) = v) : (binOp .neq 9 (.string (str l)) (.string (str m))).run Tryd.prog w = .ok (.bool (!v)) w := by rw [string_neq, h]; rfl
theorem run_apRQ (ty : TypeId) {w : World} {base base' : Nat} {A B : Option Addr} {c cB : Nat} {ps qs : List Rc} (hown : OwR w base A c ps) (hsrc : OwR w base' B cB qs) (n m : Nat) (hn : ps.length = n) (hm : qs.length = m) (d : Nat) (hlen : n + m ≤ 900000) (hbase : base ≤ w.heap.size) :
    ∃ A' c' w', (Builtin.append_ #[22, 22] ty #[.slice A n c, .slice B m d]).run Tryd.prog w = .ok (.slice A' (n + m) c') w' ∧ OwR w' base A' c' (ps ++ qs) ∧ Ext (fun k => ob A = some k) w w' ∧ (ob A' = ob A ∨ ob A' = some w.heap.size) := by
  cases B with
  | some a =>
    refine run_apR ty hown (fun j u hu => ?_) d n m hn hm hlen hbase
    exact (hsrc.rd.ix hu).2
  | none =>
    have hle := hsrc.le
    rcases hsrc.ex with ⟨_, h0⟩ | ⟨g, off, cur, h, _⟩
    · have hq : qs = [] := List.eq_nil_of_length_eq_zero (by omega)
      subst hq
      obtain rfl : m = 0 := hm.symm
      subst hn
      have hlc := hown.le
      obtain ⟨i, hi, hz0, hz1, hz2⟩ := info_parts rcinfo
      refine ⟨A, c, w, ?_, by rw [List.append_nil]; exact hown, Ext.refl _ _, .inl rfl⟩
      have hfc := run_firstCells_none (P := Tryd.prog) w i.size 0 0 d
      cases A with
      | none => simp [Builtin.append_, run_underlying Tryd.underlying22, sizeOf, typeInfo, hi, Builtin.lenOf, hlc, hfc]
      | some a => simp [storeCells, Builtin.append_, run_underlying Tryd.underlying22, sizeOf, typeInfo, hi, Builtin.lenOf, hlc, hfc]
    · cases h
theorem wp_apRQ {w : World} {ops : Array Oper} {rest : List Oper} {o : Oper} {a : Act} {Q : Exit → Act → World → Prop} (hgd : o.guard = none) (s x : Operand) (ho : o.op = .call { callee := .builtin .append, args := #[s, x], argTypes := #[22, 22] })
    {base base' : Nat} {A B : Option Addr} {c cB : Nat} {ps qs : List Rc} (n m d : Nat) (hs : a.eval s = .slice A n c) (hx : a.eval x = .slice B m d) (hown : OwR w base A c ps) (hsrc : OwR w base' B cB qs) (hn : ps.length = n) (hm : qs.length = m) (hlen : n + m ≤ 900000) (hbase : base ≤ w.heap.size)
    (h : ∀ A' c' w', OwR w' base A' c' (ps ++ qs) → Ext (fun k => ob A = some k) w w' → (ob A' = ob A ∨ ob A' = some w.heap.size) → wpList Tryd.prog ops Q rest (a.put o.dst (.slice A' (n + m) c')) w') : wpList Tryd.prog ops Q (o :: rest) a w := by
  obtain ⟨A', c', w', hrun, h2, h3, h4⟩ := run_apRQ o.type hown hsrc n m hn hm d hlen hbase
  refine wpList_plain hgd fun K hK => ?_
  unfold Oper.wp execOp
  simp only [ho, resolve, invoke, builtin, Sem.run_bind, Sem.run_pure, Result.andThen_ok, List.map_toArray, List.map_cons, List.map_nil, hs, hx, hrun]
  exact hK _ _ (h A' c' w' h2 h3 h4)
theorem OwR.made (w : World) (base : Nat) (hb : base ≤ w.heap.size) : OwR (w.alloc (.cells #[] 37)) base (some ⟨w.heap.size, 0, none⟩) 0 [] :=
  ⟨rfl, Nat.le_refl _, Nat.zero_le _, .inr ⟨w.heap.size, 0, #[], rfl, hb, Blk.new w _ _, Nat.le_refl _, rfl⟩⟩
theorem run_apRQD (ty : TypeId) {w : World} {base base' : Nat} {A B : Option Addr} {c cB : Nat} {ps qs : List Rc} (hown : OwRD w base A c ps) (hsrc : OwRD w base' B cB qs) (n m : Nat) (hn : ps.length = n) (hm : qs.length = m) (d : Nat) (hlen : n + m ≤ 900000) (hbase : base ≤ w.heap.size) :
    ∃ A' c' w', (Builtin.append_ #[30, 30] ty #[.slice A n c, .slice B m d]).run Tryd.prog w = .ok (.slice A' (n + m) c') w' ∧ OwRD w' base A' c' (ps ++ qs) ∧ Ext (fun k => ob A = some k) w w' ∧ (ob A' = ob A ∨ ob A' = some w.heap.size) := by
  cases B with
  | some a =>
    refine run_apRD ty hown (fun j u hu => ?_) d n m hn hm hlen hbase
    exact (hsrc.rd.ix hu).2
  | none =>
    have hle := hsrc.le
    rcases hsrc.ex with ⟨_, h0⟩ | ⟨g, off, cur, h, _⟩
    · have hq : qs = [] := List.eq_nil_of_length_eq_zero (by omega)
      subst hq
      obtain rfl : m = 0 := hm.symm
      subst hn
      have hlc := hown.le
      obtain ⟨i, hi, hz0, hz1, hz2⟩ := info_parts rcinfoD
      refine ⟨A, c, w, ?_, by rw [List.append_nil]; exact hown, Ext.refl _ _, .inl rfl⟩
      have hfc := run_firstCells_none (P := Tryd.prog) w i.size 0 0 d
      cases A with
      | none => simp [Builtin.append_, run_underlying Tryd.underlying30, sizeOf, typeInfo, hi, Builtin.lenOf, hlc, hfc]
      | some a => simp [storeCells, Builtin.append_, run_underlying Tryd.underlying30, sizeOf, typeInfo, hi, Builtin.lenOf, hlc, hfc]
    · cases h
theorem wp_apRQD {w : World} {ops : Array Oper} {rest : List Oper} {o : Oper} {a : Act} {Q : Exit → Act → World → Prop} (hgd : o.guard = none) (s x : Operand) (ho : o.op = .call { callee := .builtin .append, args := #[s, x], argTypes := #[30, 30] })
    {base base' : Nat} {A B : Option Addr} {c cB : Nat} {ps qs : List Rc} (n m d : Nat) (hs : a.eval s = .slice A n c) (hx : a.eval x = .slice B m d) (hown : OwRD w base A c ps) (hsrc : OwRD w base' B cB qs) (hn : ps.length = n) (hm : qs.length = m) (hlen : n + m ≤ 900000) (hbase : base ≤ w.heap.size)
    (h : ∀ A' c' w', OwRD w' base A' c' (ps ++ qs) → Ext (fun k => ob A = some k) w w' → (ob A' = ob A ∨ ob A' = some w.heap.size) → wpList Tryd.prog ops Q rest (a.put o.dst (.slice A' (n + m) c')) w') : wpList Tryd.prog ops Q (o :: rest) a w := by
  obtain ⟨A', c', w', hrun, h2, h3, h4⟩ := run_apRQD o.type hown hsrc n m hn hm d hlen hbase
  refine wpList_plain hgd fun K hK => ?_
  unfold Oper.wp execOp
  simp only [ho, resolve, invoke, builtin, Sem.run_bind, Sem.run_pure, Result.andThen_ok, List.map_toArray, List.map_cons, List.map_nil, hs, hx, hrun]
  exact hK _ _ (h A' c' w' h2 h3 h4)
theorem OwRD.made (w : World) (base : Nat) (hb : base ≤ w.heap.size) : OwRD (w.alloc (.cells #[] 40)) base (some ⟨w.heap.size, 0, none⟩) 0 [] :=
  ⟨rfl, Nat.le_refl _, Nat.zero_le _, .inr ⟨w.heap.size, 0, #[], rfl, hb, Blk.new w _ _, Nat.le_refl _, rfl⟩⟩
theorem rcs_set : ∀ (l : List Rc) (i : Nat) (x : Rc), i < l.length → rcs (l.set i x) = splice (rcs l) (i * 4) (rcL x)
  | r :: l, 0, x, _ => by
    unfold rcs splice
    rw [List.set_cons_zero, List.flatMap_cons, List.flatMap_cons]
    simp [rcL]
  | r :: l, i + 1, x, h => by
    have := rcs_set l i x (by simpa using h)
    unfold rcs splice at *
    rw [List.set_cons_succ, List.flatMap_cons, List.flatMap_cons, this, show (i + 1) * 4 = (rcL r).length + i * 4 by rw [rcL_len]; omega]
    simp only [List.take_length_add_append, Nat.add_assoc, List.drop_length_add_append, List.append_assoc]
theorem splice_size {α : Type} (L : List α) (o : Nat) (vs : List α) (h : o + vs.length ≤ L.length) : (splice L o vs).length = L.length := by
  unfold splice
  simp only [List.length_append, List.length_take, List.length_drop]
  omega
theorem splice_mid {α : Type} (L : List α) (off p n : Nat) (vs : List α) (h : p + vs.length ≤ n) (hn : off + n ≤ L.length) : ((splice L (off + p) vs).drop off).take n = splice ((L.drop off).take n) p vs := by
  unfold splice
  have e1 : (L.take (off + p) ++ vs ++ L.drop (off + p + vs.length)).drop off = (L.drop off).take p ++ vs ++ L.drop (off + p + vs.length) := by
    rw [List.append_assoc, List.drop_append_of_le_length (by rw [List.length_take]; omega), List.drop_take, Nat.add_sub_cancel_left, ← List.append_assoc]
  have hl : ((L.drop off).take p ++ vs).length = p + vs.length := by
    simp only [List.length_append, List.length_take, List.length_drop]
    omega
  rw [← List.append_assoc, ← List.append_assoc, e1, List.take_append, hl, List.take_of_length_le (by rw [hl]; exact h), List.take_take, Nat.min_eq_left (by omega), List.drop_take, List.drop_drop, Nat.add_assoc]
/-- An element is written over. -/
theorem OwR.put {w : World} {base : Nat} {A : Option Addr} {c : Nat} {l : List Rc} (h : OwR w base A c l) (i : Nat) (hi : i < l.length) (a f u n : Nat) :
    A.isSome = true ∧ ∃ g o, (A.getD default).add (i * 4) = ⟨g, o, none⟩ ∧ ob A = some g ∧ (w.frozen? ⟨g, o, none⟩ = false ∧ w.frozen? ⟨g, o + 1, none⟩ = false ∧ w.frozen? ⟨g, o + 2, none⟩ = false ∧ w.frozen? ⟨g, o + 3, none⟩ = false) ∧
      (w.cell? ⟨g, o, none⟩ = some (.int .u16 l[i].ad) ∧ w.cell? ⟨g, o + 1, none⟩ = some (.int .u32 l[i].fr) ∧ w.cell? ⟨g, o + 2, none⟩ = some (.int .u32 l[i].up) ∧ w.cell? ⟨g, o + 3, none⟩ = some (.int .u32 l[i].ln)) ∧
      OwR ((((w.setCell ⟨g, o, none⟩ (.int .u16 a)).setCell ⟨g, o + 1, none⟩ (.int .u32 f)).setCell ⟨g, o + 2, none⟩ (.int .u32 u)).setCell ⟨g, o + 3, none⟩ (.int .u32 n)) base A c (l.set i ⟨a, f, u, n⟩) ∧
      Ext (One g) w ((((w.setCell ⟨g, o, none⟩ (.int .u16 a)).setCell ⟨g, o + 1, none⟩ (.int .u32 f)).setCell ⟨g, o + 2, none⟩ (.int .u32 u)).setCell ⟨g, o + 3, none⟩ (.int .u32 n)) := by
  obtain ⟨hA, g, o, ha, hog, e0, e1, e2, e3⟩ := h.at_ i hi
  refine ⟨hA, g, o, ha, hog, ?_, ⟨e0, e1, e2, e3⟩, ?_, ?_⟩
  · rcases h.ex with ⟨_, h0⟩ | ⟨g', off, cur, rfl, hb, hg, h1, h2⟩
    · have := h.le; omega
    · have hgg : g' = g := by simpa [ob] using hog
      subst hgg
      exact ⟨hg.frozen _, hg.frozen _, hg.frozen _, hg.frozen _⟩
  · rcases h.ex with ⟨_, h0⟩ | ⟨g', off, cur, rfl, hb, hg, h1, h2⟩
    · have := h.le; omega
    · have hgg : g' = g := by simpa [ob] using hog
      subst hgg
      have ho : o = off + i * 4 := by
        have : (⟨g', off, none⟩ : Addr).add (i * 4) = ⟨g', o, none⟩ := ha
        rw [addr_add] at this
        injection this with _ h3
        exact h3.symm
      subst ho
      have hle := h.le
      obtain ⟨L, rfl⟩ : ∃ L : List Value, cur = L.toArray := ⟨cur.toList, by simp⟩
      simp only [List.size_toArray] at h1 h2
      have hB := Blk.setCells (rcL ⟨a, f, u, n⟩) (off + i * 4) hg (by rw [rcL_len]; omega)
      refine ⟨by rw [rcs_len, List.length_set], by rw [List.length_set]; exact h.le, h.max, .inr ⟨g', off, _, rfl, hb, hB, ?_, ?_⟩⟩
      · show off + c * 4 ≤ (splice L (off + i * 4) (rcL ⟨a, f, u, n⟩)).length
        rw [splice_size _ _ _ (by rw [rcL_len]; omega)]
        exact h1
      · show ((splice L (off + i * 4) (rcL ⟨a, f, u, n⟩)).drop off).take _ = _
        rw [List.length_set, rcs_set l i _ hi, ← h2]
        exact splice_mid L off (i * 4) (l.length * 4) _ (by rw [rcL_len]; omega) (by omega)
  · exact (((Ext.refl (One g) w).setCell (p := ⟨g, o, none⟩) (.inr rfl) _ |>.setCell (p := ⟨g, o + 1, none⟩) (.inr rfl) _).setCell (p := ⟨g, o + 2, none⟩) (.inr rfl) _).setCell (p := ⟨g, o + 3, none⟩) (.inr rfl) _
end Go.Proofs.YtnmpfbffacljfaaDoor
