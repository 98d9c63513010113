/- Bytes of the program's own making; numbers as bytes. -/
import Derived.Test.YtnmpfbffacljfaaDoorMem
import Derived.Test.YtnmpfbffacljfaaDoorBit
import Derived.Test.YtnmpfbffacljfaaDoorProg
namespace Go.Proofs.YtnmpfbffacljfaaDoor
open Go.RowKit

def ob (A : Option Addr) : Option Nat := A.map (·.block)
theorem ownBlock_ob (A : Option Addr) (n c : Nat) : (Value.slice A n c).ownBlock = ob A := by cases A <;> rfl

/-- Bytes that the call owns, from block 'base' on. -/
def OwB (w : World) (base : Nat) (A : Option Addr) (c : Nat) (l : List UInt8) : Prop := w.ownsRow base 5 1 (.slice A l.length c) l.length (bvs l)

section
variable {S : Nat → Prop} {w w' : World} {base : Nat} {A : Option Addr} {c : Nat} {l : List UInt8}
theorem OwB.rd (h : OwB w base A c l) : Rd w (fun k => ob A = some k) A (bvs l) := by
  have := own_block_of h
  rwa [ownBlock_ob] at this
theorem OwB.len (h : OwB w base A c l) : l.length ≤ c ∧ c ≤ maxLen := own_len h
theorem OwB.ext (h : OwB w base A c l) (hx : Ext S w w') (hS : ∀ k, ob A = some k → ¬ S k) : OwB w' base A c l := own_ext h hx (by rw [ownBlock_ob]; exact hS)
theorem OwB.extN (h : OwB w base A c l) (hx : Ext Non w w') : OwB w' base A c l := h.ext hx (fun _ _ h => h)
theorem OwB.lt (h : OwB w base A c l) {k : Nat} (hk : ob A = some k) : base ≤ k ∧ k < w.heap.size := World.ownsRow.lt h k (by rw [ownBlock_ob]; exact hk)
theorem OwB.lower (h : OwB w base A c l) {base' : Nat} (hb : ∀ k, ob A = some k → base' ≤ k) : OwB w base' A c l := own_lower h (by rw [ownBlock_ob]; exact hb)
theorem OwB.nil (w : World) (base : Nat) : OwB w base none 0 [] := World.ownsRow_nil w base 5 1
theorem OwB.alloc (h : OwB w base A c l) (o : Obj) : OwB (w.alloc o) base A c l := World.ownsRow.alloc h o
theorem OwB.drew (h : OwB w base A c l) : OwB w.drew base A c l := h
theorem OwB.blk (h : OwB w base A c l) {k : Nat} (hk : ob A = some k) : ∃ cs, Blk w k 5 cs ∧ A = some ⟨k, 0, none⟩ ∧ cs.size = c ∧ cs.toList.take l.length = bvs l := by
  rcases h.2 with ⟨hv, h0⟩ | ⟨g, cap, cur, hv, hb, hg, hnc, hcm, hsz, ht⟩
  · injection hv with hA
    subst hA
    cases hk
  · injection hv with hA _ hc
    subst hA hc
    have : g = k := by simpa [ob] using hk
    subst this
    exact ⟨cur, hg, rfl, by simpa using hsz, by simpa using ht⟩
end

theorem u8info : (Tryd.prog.info? 5).map (fun i => (i.zero, i.size, i.bytes)) = some (some (.int .u8 0), 1, 1) := by kernel_rfl

section
variable {w : World} {ops : Array Oper} {rest : List Oper} {o : Oper} {a : Act} {Q : Exit → Act → World → Prop}

theorem run_ap8 (ty : TypeId) {base : Nat} {A : Option Addr} {c : Nat} {l : List UInt8} (hown : OwB w base A c l) {D : Nat → Prop} {B : Option Addr} {m : List UInt8} (hr : Rd w D B (bvs m)) (d n k : Nat) (hn : l.length = n) (hk : m.length = k)
    (hlen : l.length + m.length ≤ 70368744177664) (hbase : base ≤ w.heap.size) :
    ∃ A' c' w', (Builtin.append_ #[50, 50] ty #[.slice A n c, .slice B k d]).run Tryd.prog w = .ok (.slice A' (n + k) c') w' ∧ OwB w' base A' c' (l ++ m) ∧
      Ext (fun k => ob A = some k) w w' ∧ (ob A' = ob A ∨ ob A' = some w.heap.size) := by
  subst hn hk
  obtain ⟨i0, hi0, hz0, hz1, hz2⟩ := info_parts u8info
  obtain ⟨v', w', hrun, h2, h3, h4⟩ := run_append_any (P := Tryd.prog) w base 50 ty 5 i0 _ 1 1 Tryd.underlying50 hi0 hz0 hz1 hz2 rfl (by omega) _ _ _ hown D B m.length d (bvs m) (by rw [bvs_length]; omega) hr (bvs_one m)
    (by simp only [maxLen]; omega) (by omega) hbase
  rw [ownBlock_ob] at h3 h4
  have hv : ∃ A' c', v' = .slice A' (l.length + m.length) c' := by
    rcases h2.2 with ⟨hv, h0⟩ | ⟨g, cap, cur, hv, _⟩
    · exact ⟨none, 0, by rw [hv, h0]⟩
    · exact ⟨_, _, hv⟩
  obtain ⟨A', c', rfl⟩ := hv
  rw [ownBlock_ob] at h4
  refine ⟨A', c', w', hrun, ?_, ?_, h4⟩
  · unfold OwB
    rw [bvs_append, List.length_append]
    exact h2
  · exact (Ext.of_grown h3).imp (fun k _ hk => hk)

theorem wp_ap8 (hgd : o.guard = none) (s x : Operand) (ho : o.op = .call { callee := .builtin .append, args := #[s, x], argTypes := #[50, 50] })
    {base : Nat} {A : Option Addr} {c : Nat} {l : List UInt8} (n : Nat) (hs : a.eval s = .slice A n c) (hown : OwB w base A c l) (hn : l.length = n)
    {D : Nat → Prop} {B : Option Addr} {m : List UInt8} (k d : Nat) (hx : a.eval x = .slice B k d) (hr : Rd w D B (bvs m)) (hk : m.length = k)
    (hlen : l.length + m.length ≤ 70368744177664) (hbase : base ≤ w.heap.size)
    (h : ∀ A' c' w', OwB w' base A' c' (l ++ m) → Ext (fun k => ob A = some k) w w' → (ob A' = ob A ∨ ob A' = some w.heap.size) →
      wpList Tryd.prog ops Q rest (a.put o.dst (.slice A' (n + k) c')) w') : wpList Tryd.prog ops Q (o :: rest) a w := by
  obtain ⟨A', c', w', hrun, h2, h3, h4⟩ := run_ap8 o.type hown hr d n k hn hk hlen hbase
  refine wpList_plain hgd fun K hK => ?_
  unfold Oper.wp execOp
  simp only [ho, resolve, invoke, builtin, Sem.run_bind, Sem.run_pure, Result.andThen_ok, List.map_toArray, List.map_cons, List.map_nil, hs, hx, hrun]
  exact hK _ _ (h A' c' w' h2 h3 h4)

theorem step_ap8 {K : Act → World → Prop} {E : Prop} (hgd : o.guard = none) (s x : Operand) (ho : o.op = .call { callee := .builtin .append, args := #[s, x], argTypes := #[50, 50] })
    {base : Nat} {A : Option Addr} {c : Nat} {l : List UInt8} (n : Nat) (hs : a.eval s = .slice A n c) (hown : OwB w base A c l) (hn : l.length = n)
    {D : Nat → Prop} {B : Option Addr} {m : List UInt8} (k d : Nat) (hx : a.eval x = .slice B k d) (hr : Rd w D B (bvs m)) (hk : m.length = k)
    (hlen : l.length + m.length ≤ 70368744177664) (hbase : base ≤ w.heap.size)
    (h : ∀ A' c' w', OwB w' base A' c' (l ++ m) → Ext (fun k => ob A = some k) w w' → (ob A' = ob A ∨ ob A' = some w.heap.size) →
      K (a.put o.dst (.slice A' (n + k) c')) w') : if Region.wanted o (yielded ops a.tmps) = true then Oper.wp Tryd.prog o a w K Q else E := by
  obtain ⟨A', c', w', hrun, h2, h3, h4⟩ := run_ap8 o.type hown hr d n k hn hk hlen hbase
  have hw : Region.wanted o (yielded ops a.tmps) = true := by simp [Region.wanted, hgd]
  rw [if_pos hw]
  unfold Oper.wp execOp
  simp only [ho, resolve, invoke, builtin, Sem.run_bind, Sem.run_pure, Result.andThen_ok, List.map_toArray, List.map_cons, List.map_nil, hs, hx, hrun]
  exact h A' c' w' h2 h3 h4
end

/-! ### make([]byte, n), make([]byte, n, c) -/
/-- Noughts. -/
def zeros (n : Nat) : List UInt8 := List.replicate n 0
theorem zeros_length (n : Nat) : (zeros n).length = n := by simp [zeros]
theorem bvs_zeros (n : Nat) : bvs (zeros n) = List.replicate n (.int .u8 0) := by simp [bvs, zeros, bv]
def zrow (n : Nat) : Array Value := (bvs (zeros n)).toArray
theorem zrow_size (n : Nat) : (zrow n).size = n := by simp [zrow, bvs, zeros]
theorem zrow_eq (n : Nat) : madeCells #[.int .u8 0] n = zrow n := by
  apply Array.toList_inj.1
  rw [toList_madeCells_one, zrow, bvs_zeros]
@[go_sem] theorem run_mk8 (w : World) (kl kc : IntKind) (n c : Int) (h0 : 0 ≤ n) (h1 : n ≤ c) (h : c ≤ 70368744177664) :
    (Instr.makeSlice 50 (.int kl n) (.int kc c)).run Tryd.prog w = .ok (.slice (some ⟨w.heap.size, 0, none⟩) n.toNat c.toNat) (w.alloc (.cells (zrow c.toNat) 5)) := by
  obtain ⟨i0, hi0, hz0, hz1, hz2⟩ := info_parts u8info
  have := run_make (P := Tryd.prog) w 50 5 i0 _ Tryd.underlying50 hi0 hz0 kl kc n c h0 h1 (by rw [hz2]; omega) (by omega)
  rw [this, hz1, Nat.mul_one]
  show Result.ok _ (w.alloc (.cells (madeCells #[.int .u8 0] c.toNat) _)) = _
  rw [zrow_eq]
theorem own_zeros (w : World) (base : Nat) (hb : base ≤ w.heap.size) (k : Nat) (hk : k ≤ 70368744177664) : OwB (w.alloc (.cells (zrow k) 5)) base (some ⟨w.heap.size, 0, none⟩) k (zeros k) := by
  refine ⟨by simp [bvs], .inr ⟨w.heap.size, k, zrow k, by rw [zeros_length], hb, heap_alloc_new w _, by rw [zeros_length]; exact Nat.le_refl _, by simp only [maxLen]; omega, by rw [zrow_size]; omega, ?_⟩⟩
  rw [zeros_length, Nat.mul_one]
  show (bvs (zeros k)).take k = _
  exact List.take_of_length_le (by simp [bvs, zeros])

/-! ### numbers -/
/-- The number of bytes, the highest first. -/
def num (l : List UInt8) : Nat := l.foldl (fun n c => n * 256 + c.toNat) 0
theorem num_snoc (l : List UInt8) (c : UInt8) : num (l ++ [c]) = num l * 256 + c.toNat := by simp [num]
theorem num_lt : ∀ (k : Nat) (l : List UInt8), l.length = k → num l < 256 ^ k
  | 0, l, h => by
    have : l = [] := List.eq_nil_of_length_eq_zero h
    subst this
    simp [num]
  | k + 1, l, h => by
    have hne : l ≠ [] := by intro e; subst e; simp at h
    have e := List.dropLast_concat_getLast hne
    rw [← e, num_snoc, Nat.pow_succ]
    have := num_lt k l.dropLast (by simp [h])
    have := (l.getLast hne).toNat_lt
    omega

theorem num_take (l : List UInt8) (j : Nat) (h : j < l.length) : num (l.take (j + 1)) = num (l.take j) * 256 + l[j].toNat := by
  rw [List.take_succ_eq_append_getElem h, num_snoc]

/-- A number as so many bytes, the highest first. -/
def be : Nat → Nat → List UInt8
  | 0, _ => []
  | k + 1, n => UInt8.ofNat (n / 256 ^ k) :: be k n
theorem be_length : ∀ k n, (be k n).length = k
  | 0, _ => rfl
  | k + 1, n => by simp [be, be_length k n]

theorem rd_new1 (w : World) (t : TypeId) (c : UInt8) : Rd (w.alloc (.cells #[.int .u8 (c.toNat : Int)] t)) (fun _ => True) (some ⟨w.heap.size, 0, none⟩) (bvs [c]) :=
  Rd.of_blk (Blk.new w t _) trivial 0 1
/-- What 'byte(n >> (8 * k))' comes to, as a rule that the walk takes. -/
theorem be_byte (x k : Nat) : ∃ b : UInt8, IntKind.u8.wrap ((x : Int) / 2 ^ (8 * (k : Int)).toNat) = (b.toNat : Int) ∧ Hid (UInt8.ofNat (x / 256 ^ k) = b) := by
  refine ⟨UInt8.ofNat (x / 256 ^ k), ?_, rfl⟩
  have h2 : (2 : Int) ^ (8 * k) = ((256 ^ k : Nat) : Int) := by
    rw [Int.pow_mul]
    simp
  have e : (8 * (k : Int)).toNat = 8 * k := by omega
  rw [e, h2, IntKind.wrap_u8, UInt8.toNat_ofNat', ← Int.natCast_ediv]
  omega

section
variable {S : Nat → Prop} {w w' : World} {base : Nat} {A : Option Addr} {c : Nat} {l : List UInt8}
/-- One byte of bytes that the call owns is written. -/
theorem OwB.set_ (h : OwB w base A c l) {j : Nat} (hj : j < l.length) (b : UInt8) (n : Int) (hn : (b.toNat : Int) = n) :
    A.isSome = true ∧ (∃ u, w.cell? ((A.getD default).add j) = some u) ∧ w.frozen? ((A.getD default).add j) = false ∧
    OwB (w.setCell ((A.getD default).add j) (.int .u8 n)) base A c (l.set j b) ∧ Ext (fun k => ob A = some k) w (w.setCell ((A.getD default).add j) (.int .u8 n)) := by
  subst hn
  rcases h.2 with ⟨hv, h0⟩ | ⟨g, cap, cur, hv, hb, hg, hnc, hcm, hsz, ht⟩
  · exfalso; omega
  · injection hv with hA hn hcap
    subst hA
    subst hcap
    have ha : ((some (⟨g, 0, none⟩ : Addr)).getD default).add j = ⟨g, j, none⟩ := by
      show (⟨g, 0, none⟩ : Addr).add j = _
      unfold Addr.add; split <;> simp_all
    have hcs : j < cur.size := by
      have := congrArg List.length ht
      simp [bvs_length] at this
      omega
    have hB : Blk w g 5 cur := hg
    rw [ha]
    refine ⟨rfl, ⟨cur[j], by rw [hB.cell]; simp [hcs]⟩, hB.frozen j, ⟨by simp [bvs], .inr ⟨g, c, cur.setIfInBounds j (.int .u8 (b.toNat : Int)), by simp, hb, hB.set_ j _, by simpa using hnc, hcm, by simpa using hsz, ?_⟩⟩, Ext.setCell (S := fun k => ob (some (⟨g, 0, none⟩ : Addr)) = some k) (Ext.refl _ _) (p := ⟨g, j, none⟩) (.inr rfl) _⟩
    simp only [List.length_set, Nat.mul_one] at ht ⊢
    have : bvs (l.set j b) = (bvs l).set j (.int .u8 (b.toNat : Int)) := by simp [bvs, bv, List.map_set]
    rw [this, ← ht]
    simp [List.take_set]
end

theorem own_zeros2 (w : World) (base : Nat) (hb : base ≤ w.heap.size) (n k : Nat) (hn : n ≤ k) (hk : k ≤ 70368744177664) : OwB (w.alloc (.cells (zrow k) 5)) base (some ⟨w.heap.size, 0, none⟩) k (zeros n) := by
  refine ⟨by simp [bvs], .inr ⟨w.heap.size, k, zrow k, by rw [zeros_length], hb, heap_alloc_new w _, by rw [zeros_length]; exact hn, by simp only [maxLen]; omega, by rw [zrow_size]; omega, ?_⟩⟩
  rw [zeros_length, Nat.mul_one]
  show (bvs (zeros k)).take n = _
  simp [bvs, zeros, List.take_replicate, Nat.min_eq_left hn]

/-- Bytes as an array's cells. -/
def ba (l : List UInt8) : Array Value := (bvs l).toArray
theorem ba_size (l : List UInt8) : (ba l).size = l.length := by simp [ba, bvs]
theorem ba_get (l : List UInt8) (i : Nat) (h : i < l.length) : (ba l)[i]? = some (.int .u8 ((l.getD i 0).toNat : Int)) := by simp [ba, bvs, bv, h, List.getD]
theorem ba_set (l : List UInt8) (i : Nat) (x : UInt8) : (ba l).setIfInBounds i (.int .u8 (x.toNat : Int)) = ba (l.set i x) := by
  unfold ba bvs
  rw [List.setIfInBounds_toArray, List.map_set]
  rfl
theorem ba_all (l : List UInt8) : (ba l).all (·.oneCell') = true := by
  refine Array.all_eq_true_iff_forall_mem.2 fun v hv => ?_
  simp [ba, bvs] at hv
  obtain ⟨x, _, rfl⟩ := hv
  rfl
theorem zrow_ba (n : Nat) : zrow n = ba (zeros n) := rfl

/-! ### '==' of arrays of whole numbers -/
section
variable {P : Program} (w : World)
theorem run_equalIn_arr (d : Nat) {T e : TypeId} {n : Nat} {k k' : IntKind} (hu : P.underlying T = some (.array n e)) (he : P.underlying e = some (.int k')) (hs : (P.info? e).map (·.size) = some 1) (ha : ∀ w, (isAgg e).run P w = .ok false w)
    {α : Type} [DecidableEq α] (f : α → Int) (hf : ∀ a b, f a = f b → a = b) (l m : List α) (hl : l.length = n) (hm : m.length = n) :
    (Op.equalIn (d + 2) T (.agg (l.map fun x => Value.int k (f x)).toArray) (.agg (m.map fun x => Value.int k (f x)).toArray)).run P w = .ok (l == m) w := by
  obtain ⟨x, hx, hx1⟩ := Option.map_eq_some_iff.1 hs
  have hpart : ∀ (q : List α) (i : Nat) (h : i < q.length), (part e (q.map fun x => Value.int k (f x)).toArray i).run P w = .ok (.int k (f q[i])) w := by
    intro q i h
    simp [part, Sem.run_bind, ha, h]
  have key : ∀ r s, s + r = n → (Sem.run P
          (forIn (List.range' s r) ((none, ()) : Option Bool × Unit) fun i __s => do
            let __do_lift ← part e (l.map fun x => Value.int k (f x)).toArray i
            let __do_lift_1 ← part e (m.map fun x => Value.int k (f x)).toArray i
            let __do_lift ← Op.equalIn (d + 1) e __do_lift __do_lift_1
            if __do_lift = false then pure (ForInStep.done (some false, ())) else pure (ForInStep.yield (none, ())))
          w) = .ok (if l.drop s = m.drop s then (none, ()) else (some false, ())) w := by
    intro r
    induction r with
    | zero =>
      intro s hsr
      rw [List.drop_of_length_le (by omega), List.drop_of_length_le (by omega)]
      simp
    | succ r ih =>
      intro s hsr
      have h1 : s < l.length := by omega
      have h2 : s < m.length := by omega
      rw [List.range'_succ, List.forIn_cons]
      simp only [Sem.run_bind, hpart l s h1, hpart m s h2, Result.andThen_ok, run_equalIn_int w d e k k' _ _ he]
      rw [List.drop_eq_getElem_cons h1, List.drop_eq_getElem_cons h2]
      by_cases hab : l[s] = m[s]
      · rw [hab]
        simp only [beq_self_eq_true, Bool.true_eq_false, if_false, Sem.run_pure, Result.andThen_ok]
        rw [ih (s + 1) (by omega)]
        by_cases hd : l.drop (s + 1) = m.drop (s + 1)
        · rw [if_pos hd, if_pos (by rw [hd])]
        · rw [if_neg hd, if_neg (fun h => hd (List.cons.inj h).2)]
      · have hne : (f l[s] == f m[s]) = false := beq_eq_false_iff_ne.2 (fun h => hab (hf _ _ h))
        simp only [hne, if_true, Sem.run_pure, Result.andThen_ok]
        rw [if_neg (fun h => hab (List.cons.inj h).1)]
  have h0 := key n 0 (by omega)
  unfold Op.equalIn
  simp only [Sem.run_bind, run_underlying hu, Result.andThen_ok, sizeOf, typeInfo]
  simp [hx, hx1]
  rw [h0]
  by_cases h : l = m
  · subst h; simp
  · simp [h]
theorem u8_inj (a b : UInt8) (h : ((a.toNat : Nat) : Int) = ((b.toNat : Nat) : Int)) : a = b := UInt8.toNat_inj.1 (by omega)
theorem run_eql_bytes {T e : TypeId} {n : Nat} (hu : P.underlying T = some (.array n e)) (he : P.underlying e = some (.int .u8)) (hs : (P.info? e).map (·.size) = some 1) (ha : ∀ w, (isAgg e).run P w = .ok false w)
    (l m : List UInt8) (hl : l.length = n) (hm : m.length = n) : (binOp .eql T (.agg (ba l)) (.agg (ba m))).run P w = .ok (.bool (l == m)) w := by
  rw [run_eql_struct]
  have := run_equalIn_arr (P := P) w 9998 (k := .u8) hu he hs ha (fun c : UInt8 => (c.toNat : Int)) u8_inj l m hl hm
  have e : ba l = (l.map fun x : UInt8 => Value.int .u8 (x.toNat : Int)).toArray := rfl
  have e2 : ba m = (m.map fun x : UInt8 => Value.int .u8 (x.toNat : Int)).toArray := rfl
  rw [e, e2, this]
  rfl
theorem run_neq_bytes {T e : TypeId} {n : Nat} (hu : P.underlying T = some (.array n e)) (he : P.underlying e = some (.int .u8)) (hs : (P.info? e).map (·.size) = some 1) (ha : ∀ w, (isAgg e).run P w = .ok false w)
    (l m : List UInt8) (hl : l.length = n) (hm : m.length = n) : (binOp .neq T (.agg (ba l)) (.agg (ba m))).run P w = .ok (.bool (!(l == m))) w := by
  rw [run_neq_struct]
  have := run_equalIn_arr (P := P) w 9998 (k := .u8) hu he hs ha (fun c : UInt8 => (c.toNat : Int)) u8_inj l m hl hm
  have e : ba l = (l.map fun x : UInt8 => Value.int .u8 (x.toNat : Int)).toArray := rfl
  have e2 : ba m = (m.map fun x : UInt8 => Value.int .u8 (x.toNat : Int)).toArray := rfl
  rw [e, e2, this]
  rfl
end

/-- Slices of bytes, as a slice of them holds them. -/
structure Part where
  a : Option Addr
  c : Nat
  l : List UInt8
def Part.val (x : Part) : Value := .slice x.a x.l.length x.c
/-- A slice of slices of bytes: its cells, and theirs. -/
structure Parts (w : World) (D : Nat → Prop) (A : Option Addr) (ps : List Part) : Prop where
  row : Rd w D A (ps.map Part.val)
  each : ∀ x ∈ ps, Rd w D x.a (bvs x.l) ∧ x.l.length ≤ x.c
theorem Parts.ext {S D : Nat → Prop} {w w' : World} {A : Option Addr} {ps : List Part} (h : Parts w D A ps) (hx : Ext S w w') (hS : ∀ k, D k → ¬ S k) : Parts w' D A ps :=
  ⟨h.row.ext hx hS, fun x hm => ⟨(h.each x hm).1.ext hx hS, (h.each x hm).2⟩⟩
theorem Parts.extN {D : Nat → Prop} {w w' : World} {A : Option Addr} {ps : List Part} (h : Parts w D A ps) (hx : Ext Non w w') : Parts w' D A ps := h.ext hx (fun _ _ h => h)
theorem Parts.imp {D D' : Nat → Prop} {w : World} {A : Option Addr} {ps : List Part} (h : Parts w D A ps) (hD : ∀ k, k < w.heap.size → D k → D' k) : Parts w D' A ps :=
  ⟨h.row.imp hD, fun x hm => ⟨(h.each x hm).1.imp hD, (h.each x hm).2⟩⟩
end Go.Proofs.YtnmpfbffacljfaaDoor
