/- Words for memory: frames between worlds, blocks known whole, slices that read as lists. Plain lemmas, no program. -/
import Derived.WalkKit
import Derived.WalkSpells
import Derived.WalkLawsBesides
import Derived.Maps.AppendAt
import Derived.Deep.AppendLies
import Derived.Deep.Draws
import Derived.Deep.RegionHeld3
import Derived.Deep.RegionLaw
import Derived.Deep.QuietTactic
import Derived.Deep.DeepFit
import Derived.Deep.DeepCutAuto
import Derived.StillTailTactics
import Derived.BigQuiet
import Derived.KernelRfl
import Derived.Lib.ConvBytes
import Derived.Lib.Hide
import Derived.Laws.CopyOwn
import Derived.Laws.MakeOwn
namespace Go.Proofs.YtnmpfbffacljfaaDoor
open Go.RowKit

theorem block_of_add (a : Addr) (n : Nat) : (a.add n).block = a.block := by unfold Addr.add; split <;> rfl
theorem add_of_add (a : Addr) (i j : Nat) : (a.add i).add j = a.add (i + j) := by
  unfold Addr.add
  by_cases hi : i = 0 <;> by_cases hj : j = 0 <;> simp [hi, hj, Nat.add_assoc]

/-- Only blocks of S, and new ones, have turned. -/
structure Ext (S : Nat → Prop) (w w' : World) : Prop where
  os : w'.os = w.os
  tape : w'.tape = w.tape
  output : w'.output = w.output
  size : w.heap.size ≤ w'.heap.size
  block : ∀ k, k < w.heap.size → ¬ S k → w'.heap[k]? = w.heap[k]?

def Non : Nat → Prop := fun _ => False
def One (p : Nat) : Nat → Prop := fun k => k = p
theorem One.self (p : Nat) : One p p := rfl

section
variable {S T : Nat → Prop} {w w' a b c : World}
theorem Ext.refl (S : Nat → Prop) (w : World) : Ext S w w := ⟨rfl, rfl, rfl, Nat.le_refl _, fun _ _ _ => rfl⟩
theorem Ext.imp (h : Ext S w w') (hT : ∀ k, k < w.heap.size → S k → T k) : Ext T w w' := ⟨h.os, h.tape, h.output, h.size, fun k hk hn => h.block k hk (fun hs => hn (hT k hk hs))⟩
theorem Ext.trans (h : Ext S a b) (k : Ext T b c) (hT : ∀ i, i < a.heap.size → T i → S i) : Ext S a c :=
  ⟨k.os.trans h.os, k.tape.trans h.tape, k.output.trans h.output, Nat.le_trans h.size k.size, fun i hi hn =>
    (k.block i (Nat.lt_of_lt_of_le hi h.size) (fun ht => hn (hT i hi ht))).trans (h.block i hi hn)⟩
theorem Ext.trans' (h : Ext S a b) (k : Ext S b c) : Ext S a c := h.trans k (fun _ _ h => h)
theorem Ext.transN (h : Ext S a b) (k : Ext Non b c) : Ext S a c := h.trans k (fun _ _ h => h.elim)
theorem Ext.drew (h : Ext S a w) : Ext S a w.drew := ⟨h.os, h.tape, h.output, h.size, h.block⟩
theorem Ext.drewN (h : Ext S a w) (n : Nat) : Ext S a (w.drewN n) := ⟨h.os, h.tape, h.output, h.size, h.block⟩
theorem Ext.alloc (h : Ext S a w) (o : Obj) : Ext S a (w.alloc o) :=
  ⟨h.os, h.tape, h.output, Nat.le_trans h.size (by simp), fun i hi hne => (Below.heap_alloc w o i (Nat.lt_of_lt_of_le hi h.size)).trans (h.block i hi hne)⟩
theorem Ext.setCell (h : Ext S a w) {p : Addr} (hp : a.heap.size ≤ p.block ∨ S p.block) (u : Value) : Ext S a (w.setCell p u) :=
  ⟨h.os, h.tape, h.output, by simpa [World.setCell] using h.size, fun i hi hne => (Below.heap_setCell w p u i (by
    rintro rfl
    rcases hp with hp | hp
    · omega
    · exact hne hp)).trans (h.block i hi hne)⟩
theorem Ext.set1 {g : Nat} (h : Ext (One g) a w) (i : Nat) (u : Value) : Ext (One g) a (w.setCell ⟨g, i, none⟩ u) := h.setCell (p := ⟨g, i, none⟩) (.inr rfl) u
theorem Ext.setN {g : Nat} (h : Ext Non a w) (i : Nat) (u : Value) : Ext (One g) a (w.setCell ⟨g, i, none⟩ u) := (h.imp (fun _ _ h => h.elim)).set1 i u
theorem Ext.setRow (h : Ext S a w) {g : Nat} (hp : a.heap.size ≤ g ∨ S g) (cs : Array Value) : Ext S a (w.setRow g cs) :=
  ⟨h.os, h.tape, h.output, by simpa using h.size, fun i hi hne => (setRow_other w g i cs (by
    rintro rfl
    rcases hp with hp | hp
    · omega
    · exact hne hp)).trans (h.block i hi hne)⟩
theorem Ext.of_grown {row : Option Nat} (h : w.grownBy w' row) : Ext (fun k => row = some k) w w' := ⟨h.os, h.tape, h.output, h.size, fun k hk hn => h.block k hk (fun e => hn e.symm)⟩
theorem Ext.grown (h : Ext S a w) {row : Option Nat} (hg : w.grownBy w' row) (hr : ∀ k, row = some k → a.heap.size ≤ k ∨ S k) : Ext S a w' :=
  h.trans (Ext.of_grown hg) (fun i hi ht => (hr i ht).resolve_left (by omega))
theorem Ext.of_below {B : Nat} (h : Below B w w') : Ext (fun k => B ≤ k) w w' := ⟨h.os, h.tape, h.output, h.size, fun k _ hn => h.block k (by omega)⟩
theorem Ext.below (h : Ext S w w') {B : Nat} (hB : B ≤ w.heap.size) (hS : ∀ k, k < B → ¬ S k) : Below B w w' := ⟨h.os, h.tape, h.output, h.size, fun k hk => h.block k (by omega) (hS k hk)⟩
theorem Ext.belowN (h : Ext Non w w') : Below w.heap.size w w' := h.below (Nat.le_refl _) (fun _ _ h => h)
theorem Ext.cell (h : Ext S w w') {p : Addr} {v : Value} (hv : w.cell? p = some v) (hn : ¬ S p.block) : w'.cell? p = some v :=
  (World.cell?_of_block (h.block p.block (World.block_lt_of_cell? w p hv) hn)).trans hv
end

/-- A block that is known whole, none of it frozen. -/
def Blk (w : World) (g : Nat) (t : TypeId) (cs : Array Value) : Prop := w.heap[g]? = some (.cells cs t (0, 0))

section
variable {S : Nat → Prop} {w w' : World} {g : Nat} {t : TypeId} {cs : Array Value}
theorem Blk.lt (h : Blk w g t cs) : g < w.heap.size := by
  rcases Nat.lt_or_ge g w.heap.size with hlt | hge
  · exact hlt
  · unfold Blk at h; rw [Array.getElem?_eq_none hge] at h; cases h
theorem Blk.cell (h : Blk w g t cs) (i : Nat) : w.cell? ⟨g, i, none⟩ = cs[i]? := cell_of_row w g i cs t (0, 0) h
theorem Blk.frozen (h : Blk w g t cs) (i : Nat) : w.frozen? ⟨g, i, none⟩ = false := by
  unfold Blk at h
  simp [World.frozen?, h]
theorem Blk.new (w : World) (t : TypeId) (cs : Array Value) : Blk (w.alloc (.cells cs t)) w.heap.size t cs := heap_alloc_new w _
theorem Blk.drew (h : Blk w g t cs) : Blk w.drew g t cs := h
theorem Blk.drewN (h : Blk w g t cs) (n : Nat) : Blk (w.drewN n) g t cs := h
theorem Blk.alloc (h : Blk w g t cs) (o : Obj) : Blk (w.alloc o) g t cs := (Below.heap_alloc w o g h.lt).trans h
theorem Blk.set_ (h : Blk w g t cs) (i : Nat) (u : Value) : Blk (w.setCell ⟨g, i, none⟩ u) g t (cs.setIfInBounds i u) := by
  unfold Blk at h ⊢
  simp [World.setCell, Array.getElem?_modify, h]
theorem Blk.far (h : Blk w g t cs) {p : Addr} (hp : g ≠ p.block) (u : Value) : Blk (w.setCell p u) g t cs := (Below.heap_setCell w p u g hp).trans h
theorem Blk.ext (h : Blk w g t cs) (hx : Ext S w w') (hg : ¬ S g) : Blk w' g t cs := (hx.block g h.lt hg).trans h
theorem Blk.extN_ (h : Blk w g t cs) (hx : Ext Non w w') : Blk w' g t cs := h.ext hx (fun h => h)
theorem Blk.ne_ {g' : Nat} {t' : TypeId} {cs' : Array Value} (h : Blk w g t cs) (h' : Blk w g' t' cs') (hne : t ≠ t') : g ≠ g' := by
  rintro rfl
  unfold Blk at h h'
  rw [h] at h'
  injection h' with h'
  injection h' with _ ht
  exact hne ht
theorem Blk.unique {t' : TypeId} {cs' : Array Value} (h : Blk w g t cs) (h' : Blk w g t' cs') : cs = cs' := by
  unfold Blk at h h'
  rw [h] at h'
  injection h' with h'
  injection h'
end

/-- A byte, and bytes, as values. -/
def bv (c : UInt8) : Value := .int .u8 (c.toNat : Int)
def bvs (l : List UInt8) : List Value := l.map bv
theorem bvs_length (l : List UInt8) : (bvs l).length = l.length := by simp [bvs]
theorem bvs_append (l m : List UInt8) : bvs (l ++ m) = bvs l ++ bvs m := by simp [bvs]
theorem bvs_get (l : List UInt8) (i : Nat) (h : i < l.length) : (bvs l)[i]? = some (.int .u8 (l[i].toNat : Int)) := by simp [bvs, bv, h]
theorem bvs_one (l : List UInt8) : ∀ u ∈ bvs l, u.oneCell' = true := by
  intro u hu
  simp only [bvs, List.mem_map] at hu
  obtain ⟨c, _, rfl⟩ := hu
  rfl

/-- A slice's address, nil let in: from it on the cells xs lie; its block is one of D. -/
def Rd (w : World) (D : Nat → Prop) (A : Option Addr) (xs : List Value) : Prop :=
  xs = [] ∨ ∃ a, A = some a ∧ D a.block ∧ ∀ j u, xs[j]? = some u → w.cell? (a.add j) = some u

section
variable {S D D' : Nat → Prop} {w w' : World} {A : Option Addr} {xs : List Value}
theorem Rd.nil : Rd w D A [] := .inl rfl
theorem Rd.imp (h : Rd w D A xs) (hD : ∀ k, k < w.heap.size → D k → D' k) : Rd w D' A xs := by
  rcases h with h | ⟨a, e, hd, hc⟩
  · exact .inl h
  · cases xs with
    | nil => exact .inl rfl
    | cons x xs => exact .inr ⟨a, e, hD _ (by have := World.block_lt_of_cell? w _ (hc 0 x rfl); rwa [block_of_add] at this) hd, hc⟩
theorem Rd.ext (h : Rd w D A xs) (hx : Ext S w w') (hS : ∀ k, D k → ¬ S k) : Rd w' D A xs := by
  rcases h with h | ⟨a, e, hd, hc⟩
  · exact .inl h
  · exact .inr ⟨a, e, hd, fun j u hu => hx.cell (hc j u hu) (by rw [block_of_add]; exact hS _ hd)⟩
theorem Rd.extN (h : Rd w D A xs) (hx : Ext Non w w') : Rd w' D A xs := h.ext hx (fun _ _ h => h)
theorem Rd.at_ {k : Nat} {u : Value} (h : Rd w D A xs) (hk : xs[k]? = some u) : ∃ a, A = some a ∧ w.cell? (a.add k) = some u := by
  rcases h with rfl | ⟨a, e, _, hc⟩
  · simp at hk
  · exact ⟨a, e, hc k u hk⟩
theorem Rd.ix {k : Nat} {u : Value} (h : Rd w D A xs) (hk : xs[k]? = some u) : A.isSome = true ∧ w.cell? ((A.getD default).add k) = some u := by
  obtain ⟨a, rfl, hc⟩ := h.at_ hk
  exact ⟨rfl, hc⟩
theorem Rd.take (h : Rd w D A xs) (n : Nat) : Rd w D A (xs.take n) := by
  rcases h with rfl | ⟨a, e, hd, hc⟩
  · simp [Rd]
  · refine .inr ⟨a, e, hd, fun j u hu => hc j u ?_⟩
    rw [List.getElem?_take] at hu
    split at hu
    · exact hu
    · cases hu
/-- What a cut leaves: the address behind s[k:] (elements of one cell). -/
def cut (A : Option Addr) (k cap : Nat) : Option Addr := if cap = k then A else A.map (·.add k)
@[go_sem] theorem fold_cut (A : Option Addr) (k cap : Nat) : (if cap = k then A else Option.map (fun x => x.add k) A) = cut A k cap := rfl
@[go_sem] theorem cut_zero (A : Option Addr) (cap : Nat) : cut A 0 cap = A := by
  unfold YtnmpfbffacljfaaDoor.cut
  cases A <;> simp [Addr.add]
theorem Rd.cut (h : Rd w D A xs) {k cap : Nat} (hc : xs.length ≤ cap) : Rd w D (cut A k cap) (xs.drop k) := by
  rcases h with rfl | ⟨a, rfl, hd, hcell⟩
  · simp [Rd]
  · unfold YtnmpfbffacljfaaDoor.cut
    by_cases e : cap = k
    · rw [if_pos e, List.drop_of_length_le (by omega)]; exact .inl rfl
    · rw [if_neg e]
      refine .inr ⟨a.add k, rfl, by rw [block_of_add]; exact hd, fun j u hu => ?_⟩
      rw [add_of_add]
      exact hcell _ u (by rw [← hu, List.getElem?_drop])
theorem Rd.of_blk {g : Nat} {t : TypeId} {cs : Array Value} (h : Blk w g t cs) (hD : D g) (off n : Nat) : Rd w D (some ⟨g, off, none⟩) ((cs.toList.drop off).take n) := by
  refine .inr ⟨_, rfl, hD, fun j u hu => ?_⟩
  rw [List.getElem?_take] at hu
  split at hu
  · rw [List.getElem?_drop] at hu
    have e : (⟨g, off, none⟩ : Addr).add j = ⟨g, off + j, none⟩ := by unfold Addr.add; split <;> simp_all
    rw [e, h.cell]
    simpa using hu
  · cases hu
end

@[go_sem] theorem run_indexAt_any {P : Program} (w : World) (t : TypeId) (A : Option Addr) (len cap : Nat) (k : IntKind) (i : Int) (h : P.underlying t = some (.slice (P.elem t))) (hA : A.isSome = true) (h0 : 0 ≤ i) (h1 : i < len) :
    (Instr.indexAt t (.slice A len cap) (.int k i)).run P w = ((sizeOf (P.elem t)).run P w).andThen fun s w => .ok (.pointer (some ((A.getD default).add (i.toNat * s)))) w := by
  cases A with
  | none => cases hA
  | some a => rw [run_indexAt_slice w t a len cap k i h, if_pos ⟨h0, h1⟩]; rfl

/-- What slices hold that the call owns: the block. -/
theorem own_block_of {w : World} {base : Nat} {e : TypeId} {A : Option Addr} {n c : Nat} {xs : List Value} (h : w.ownsRow base e 1 (.slice A n c) n xs) :
    Rd w (fun k => (Value.slice A n c).ownBlock = some k) A xs := by
  rcases h.2 with ⟨hv, h0⟩ | ⟨g, cap, cur, hv, hb, hg, r⟩
  · left
    exact List.eq_nil_of_length_eq_zero (by have := h.1; omega)
  · right
    injection hv with hA hn hcap
    subst hA
    exact ⟨_, rfl, rfl, h.cells (g := g) rfl⟩

theorem own_len {w : World} {base : Nat} {e : TypeId} {A : Option Addr} {n c : Nat} {xs : List Value} (h : w.ownsRow base e 1 (.slice A n c) n xs) : n ≤ c ∧ c ≤ maxLen := by
  rcases h.2 with ⟨hv, h0⟩ | ⟨g, cap, cur, hv, hb, hg, hnc, hcm, r⟩
  · injection hv with hA hn hcap; subst hcap; subst hn; exact ⟨Nat.le_refl _, by simp [maxLen]⟩
  · injection hv with hA hn hcap; subst hcap; exact ⟨hnc, hcm⟩

theorem own_ext {S : Nat → Prop} {w w' : World} {base : Nat} {e : TypeId} {v : Value} {n : Nat} {xs : List Value} (h : w.ownsRow base e 1 v n xs) (hx : Ext S w w')
    (hS : ∀ k, v.ownBlock = some k → ¬ S k) : w'.ownsRow base e 1 v n xs := by
  refine ⟨h.1, ?_⟩
  rcases h.2 with hn | ⟨g, cap, cur, rfl, hb, hgg, rest⟩
  · exact .inl hn
  · refine .inr ⟨g, cap, cur, rfl, hb, ?_, rest⟩
    rw [hx.block g (Array.getElem?_eq_some_iff.1 hgg).1 (hS g rfl)]
    exact hgg
theorem own_lower {w : World} {base base' : Nat} {e : TypeId} {v : Value} {n : Nat} {xs : List Value} (h : w.ownsRow base e 1 v n xs) (hb : ∀ k, v.ownBlock = some k → base' ≤ k) : w.ownsRow base' e 1 v n xs := by
  refine ⟨h.1, ?_⟩
  rcases h.2 with hn | ⟨g, cap, cur, rfl, hb', rest⟩
  · exact .inl hn
  · exact .inr ⟨g, cap, cur, rfl, hb g rfl, rest⟩

/-! ### append, the source nil, empty or not -/
section
variable {P : Program} (w : World)

theorem run_append_of_nil (base : Nat) (t ty e : TypeId) (i : TypeInfo) (size : Nat) (ht : P.underlying t = some (.slice e)) (hi : P.info? e = some i)
    (v : Value) (n : Nat) (xs : List Value) (hown : w.ownsRow base e size v n xs) (c : Nat) : (Builtin.append_ #[t, t] ty #[v, .slice none 0 c]).run P w = .ok v w := by
  rcases hown.2 with ⟨rfl, rfl⟩ | ⟨g, cap, cur, rfl, _, _, hnc, _⟩
  · simp [Builtin.append_, run_underlying ht, sizeOf, typeInfo, hi, Builtin.lenOf, Builtin.firstCells]
  · simp [Builtin.append_, run_underlying ht, sizeOf, typeInfo, hi, Builtin.lenOf, Builtin.firstCells, hnc, storeCells]

theorem run_append_any (base : Nat) (t ty e : TypeId) (i : TypeInfo) (z : Value) (size bytes : Nat) (ht : P.underlying t = some (.slice e)) (hi : P.info? e = some i) (hz : i.zero = some z)
    (hsize : i.size = size) (hby : i.bytes = bytes) (hzs : z.cells.size = size) (hsz : 0 < size)
    (v : Value) (n : Nat) (xs : List Value) (hown : w.ownsRow base e size v n xs)
    (D : Nat → Prop) (A : Option Addr) (m c : Nat) (news : List Value) (hl : news.length = m * size) (hr : Rd w D A news) (h1 : ∀ u ∈ news, u.oneCell' = true)
    (h63 : n + m ≤ maxLen) (hbytes : (n + m) * bytes ≤ 140737488355328) (hbase : base ≤ w.heap.size) :
    ∃ v' w', (Builtin.append_ #[t, t] ty #[v, .slice A m c]).run P w = .ok v' w' ∧ w'.ownsRow base e size v' (n + m) (xs ++ news) ∧ w.grownBy w' v.ownBlock ∧
      (v'.ownBlock = v.ownBlock ∨ v'.ownBlock = some w.heap.size) := by
  rcases A with _ | ad
  · have hn : news = [] := by
      rcases hr with h | ⟨a, h, _⟩
      · exact h
      · cases h
    subst hn
    have hm : m = 0 := by
      rcases Nat.eq_zero_or_pos m with h0 | h0
      · exact h0
      · have : 0 < m * size := Nat.mul_pos h0 hsz
        simp at hl; omega
    subst hm
    exact ⟨v, w, run_append_of_nil w base t ty e i size ht hi v n xs hown c, by simpa using hown, World.grownBy.refl w _, .inl rfl⟩
  · have hcells : ∀ j u, news[j]? = some u → w.cell? (ad.add j) = some u := by
      intro j u hu
      obtain ⟨ad', h, hc⟩ := hr.at_ hu
      injection h with h
      subst h
      exact hc
    obtain ⟨v', w', hrun, h2, h3, _, h5⟩ := run_append_own_at (P := P) w base t ty e i z size bytes ht hi hz hsize hby hzs hsz v n xs hown ad m c news hl hcells h1 h63 hbytes hbase
    exact ⟨v', w', hrun, h2, h3, h5⟩
end

/-! ### strings, as lists of bytes -/
def str (l : List UInt8) : ByteArray := ⟨l.toArray⟩
theorem str_def (l : List UInt8) : str l = ⟨l.toArray⟩ := rfl
theorem str_size (l : List UInt8) : (str l).size = l.length := by simp [str, ByteArray.size]
theorem str_data (l : List UInt8) : (str l).data = l.toArray := rfl
@[go_sem] theorem str_toList (l : List UInt8) : (str l).toList = l := by rw [ByteArray.toList_eq]; simp [str]
@[go_sem] theorem toList_lit (l : List UInt8) : ByteArray.toList ⟨l.toArray⟩ = l := str_toList l
theorem str_append (l m : List UInt8) : str l ++ str m = str (l ++ m) := by
  apply ByteArray.ext
  simp [str, ByteArray.data_append]
theorem str_extract (l : List UInt8) (i j : Nat) : (str l).extract i j = str ((l.take j).drop i) := by
  apply ByteArray.ext
  simp [str, ByteArray.data_extract, List.drop_take]
theorem str_of (s : ByteArray) : s = str s.data.toList := by
  apply ByteArray.ext
  simp [str]
theorem str_inj {l m : List UInt8} (h : str l = str m) : l = m := by
  have := congrArg ByteArray.toList h
  rwa [str_toList, str_toList] at this

section
variable {P : Program} (w : World)
theorem run_string_add (t : TypeId) (l m : List UInt8) (h : l.length + m.length ≤ 9223372036854775807) : (binOp .add t (.string (str l)) (.string (str m))).run P w = .ok (.string (str (l ++ m))) w := by
  have h' : ¬ (((str l).size + (str m).size : Nat) : Int) > IntKind.i64.max := by rw [str_size, str_size, IntKind.max_i64]; omega
  rw [binOp_string_add]
  simp only [Op.stringOp]
  rw [if_neg h', str_append]
  rfl
theorem string_eql (t : TypeId) (l m : List UInt8) : binOp .eql t (.string (str l)) (.string (str m)) = pure (.bool (l == m)) := by rw [binOp_string_eql, str_toList, str_toList]
theorem string_neq (t : TypeId) (l m : List UInt8) : binOp .neq t (.string (str l)) (.string (str m)) = pure (.bool (!(l == m))) := by rw [binOp_string_neq, str_toList, str_toList]
end

/-! ### bytes to a string -/
theorem foldl_push (l : List UInt8) : ∀ s : ByteArray, (l.map (fun c => (c.toNat : Int))).foldl (fun r n => r.push (UInt8.ofNat n.toNat)) s = ⟨s.data ++ l.toArray⟩ := by
  induction l with
  | nil => intro s; apply ByteArray.ext; simp
  | cons c l ih =>
    intro s
    simp only [List.map_cons, List.foldl_cons]
    rw [ih]
    apply ByteArray.ext
    simp [ByteArray.push]
theorem run_convert_rd {P : Program} (w : World) {D : Nat → Prop} {A : Option Addr} {l : List UInt8} (src dst e : TypeId) (hs : P.underlying src = some (.slice e)) (hd : P.underlying dst = some .string) (he : P.underlying e = some (.int .u8))
    (hr : Rd w D A (bvs l)) (n c : Nat) (hn : l.length = n) : (convert src dst (.slice A n c)).run P w = .ok (.string (str l)) w := by
  subst hn
  rw [run_convert_bytes_string w src dst e A _ c hs he hd]
  cases A with
  | none =>
    have : l = [] := by
      rcases hr with h | ⟨a, h, _⟩
      · simpa [bvs] using h
      · cases h
    subst this
    simp [Conv.bytesToString]
    rfl
  | some a =>
    have hl : (loadCells a l.length).run P w = .ok ((l.map (fun c => (c.toNat : Int))).map (Value.int .u8)).toArray w := by
      have := run_loadCells_list (P := P) w a (bvs l) (fun j v hj => by
        obtain ⟨a', e, hc⟩ := hr.at_ hj
        injection e with e
        subst e
        exact hc)
      rw [bvs_length] at this
      rw [this]
      simp [bvs, bv, Function.comp_def]
    rw [run_bytesToString w a _ c _ hl, foldl_push]
    have he0 : ByteArray.empty.data = #[] := rfl
    rw [he0, Array.empty_append]
    rfl

/-! ### min and max, as rules of the walk -/
theorem min_at (n : Nat) (m : Int) (h : 0 ≤ m) : ∃ k : Nat, (if m < (n : Int) then m else (n : Int)) = (k : Int) ∧ k ≤ n ∧ (k : Int) ≤ m ∧ ((n : Int) ≤ m → k = n) := by
  by_cases hm : m < (n : Int)
  · exact ⟨m.toNat, by rw [if_pos hm]; omega, by omega, by omega, by omega⟩
  · exact ⟨n, by rw [if_neg hm], by omega, by omega, fun _ => rfl⟩
theorem min_atI (n m : Int) : ∃ k : Int, (if m < n then m else n) = k ∧ k ≤ n ∧ k ≤ m ∧ (k = n ∨ k = m) := by
  by_cases hm : m < n
  · exact ⟨m, by rw [if_pos hm], by omega, by omega, .inr rfl⟩
  · exact ⟨n, by rw [if_neg hm], by omega, by omega, .inl rfl⟩
theorem max0_at (n : Int) : (if n < 0 then (0 : Int) else n) = (n.toNat : Int) := by
  by_cases h : n < 0
  · rw [if_pos h]; omega
  · rw [if_neg h]; omega

/-- A slice of bytes that came in, as the row's shell hands it over. -/
theorem rowB {w : World} {a : Option Addr} {len cap : Nat} {zs : List Int} (h : (a = none ∧ len = 0 ∧ cap = 0 ∧ zs = []) ∨
    ∃ x, a = some x ∧ len ≤ cap ∧ cap ≤ maxLen ∧ zs.length = cap ∧ (∀ i, i < zs.length → w.cell? (x.add i) = some (.int .u8 (zs.getD i 0))) ∧ ∀ n ∈ zs, (Lit.int .u8 n).wf = true) :
    ∃ l : List UInt8, l.length = len ∧ len ≤ cap ∧ Rd w (· < w.heap.size) a (bvs l) := by
  rcases h with ⟨rfl, rfl, rfl, rfl⟩ | ⟨x, rfl, hl, hc, hz, hcell, hwf⟩
  · exact ⟨[], rfl, Nat.le_refl _, Rd.nil⟩
  · refine ⟨(zs.take len).map fun n => UInt8.ofNat n.toNat, by simp; omega, hl, ?_⟩
    have key : ∀ j u, (bvs ((zs.take len).map fun n => UInt8.ofNat n.toNat))[j]? = some u → w.cell? (x.add j) = some u := by
      intro j u hu
      have hj : j < len := by
        rcases Nat.lt_or_ge j len with h | h
        · exact h
        · rw [List.getElem?_eq_none (by simp [bvs]; omega)] at hu
          cases hu
      rw [hcell j (by omega)]
      have hjz : j < zs.length := by omega
      simp [bvs, bv, hj, List.getElem?_eq_getElem hjz] at hu
      subst hu
      have hm := hwf _ (List.getElem_mem hjz)
      have hb : 0 ≤ zs[j] ∧ zs[j] ≤ 255 := by
        simp [Lit.wf, IntKind.min, IntKind.max, IntKind.signed, IntKind.bits] at hm
        omega
      simp [List.getD, List.getElem?_eq_getElem hjz]
      omega
    by_cases h0 : len = 0
    · subst h0; exact .inl (by simp [bvs])
    · refine .inr ⟨x, rfl, ?_, key⟩
      have h0' : 0 < len := by omega
      have := World.block_lt_of_cell? w _ (hcell 0 (by omega))
      simpa [block_of_add] using this

end Go.Proofs.YtnmpfbffacljfaaDoor
