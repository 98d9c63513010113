/- Slices of the call's own of any element of one cell: append, and what they read as; slices of slices of bytes. -/
import Derived.Test.YtnmpfbffacljfaaDoorByte
namespace Go.Proofs.YtnmpfbffacljfaaDoor
open Go.RowKit

/-- A slice of the call's own, of elements of one cell. -/
def OwV (E : TypeId) (w : World) (base : Nat) (A : Option Addr) (c : Nat) (xs : List Value) : Prop := w.ownsRow base E 1 (.slice A xs.length c) xs.length xs
section
variable {E : TypeId} {S : Nat → Prop} {w w' : World} {base : Nat} {A : Option Addr} {c : Nat} {xs : List Value}
theorem OwV.rd (h : OwV E w base A c xs) : Rd w (fun k => ob A = some k) A xs := by
  have := own_block_of h
  rwa [ownBlock_ob] at this
theorem OwV.len (h : OwV E w base A c xs) : xs.length ≤ c ∧ c ≤ maxLen := own_len h
theorem OwV.ext (h : OwV E w base A c xs) (hx : Ext S w w') (hS : ∀ k, ob A = some k → ¬ S k) : OwV E w' base A c xs := own_ext h hx (by rw [ownBlock_ob]; exact hS)
theorem OwV.extN (h : OwV E w base A c xs) (hx : Ext Non w w') : OwV E w' base A c xs := h.ext hx (fun _ _ h => h)
theorem OwV.lt (h : OwV E w base A c xs) {k : Nat} (hk : ob A = some k) : base ≤ k ∧ k < w.heap.size := World.ownsRow.lt h k (by rw [ownBlock_ob]; exact hk)
theorem OwV.nil (w : World) (base : Nat) : OwV E w base none 0 [] := World.ownsRow_nil w base E 1
theorem OwV.alloc (h : OwV E w base A c xs) (o : Obj) : OwV E (w.alloc o) base A c xs := World.ownsRow.alloc h o
theorem OwV.made (w : World) {base : Nat} (hb : base ≤ w.heap.size) : OwV E (w.alloc (.cells #[] E)) base (some ⟨w.heap.size, 0, none⟩) 0 [] := World.ownsRow_made w #[] 0 hb (by simp [maxLen]) rfl
theorem OwV.drew (h : OwV E w base A c xs) : OwV E w.drew base A c xs := h
end

section
variable {w : World} {ops : Array Oper} {rest : List Oper} {o : Oper} {a : Act} {Q : Exit → Act → World → Prop}
theorem run_apV {T E : TypeId} {z : Value} {bytes : Nat} (hT : Tryd.prog.underlying T = some (.slice E)) (hE : (Tryd.prog.info? E).map (fun i => (i.zero, i.size, i.bytes)) = some (some z, 1, bytes)) (hz : z.cells.size = 1)
    (ty : TypeId) {base : Nat} {A : Option Addr} {c : Nat} {l : List Value} (hown : OwV E w base A c l) {D : Nat → Prop} {B : Option Addr} {m : List Value} (hr : Rd w D B m) (h1 : ∀ u ∈ m, u.oneCell' = true) (d n k : Nat) (hn : l.length = n) (hk : m.length = k)
    (hlen : l.length + m.length ≤ 1000000) (hb : bytes ≤ 1000000) (hbase : base ≤ w.heap.size) :
    ∃ A' c' w', (Builtin.append_ #[T, T] ty #[.slice A n c, .slice B k d]).run Tryd.prog w = .ok (.slice A' (n + k) c') w' ∧ OwV E w' base A' c' (l ++ m) ∧
      Ext (fun k => ob A = some k) w w' ∧ (ob A' = ob A ∨ ob A' = some w.heap.size) := by
  subst hn hk
  obtain ⟨i0, hi0, hz0, hz1, hz2⟩ := info_parts hE
  have hmul : (l.length + m.length) * bytes ≤ 1000000 * 1000000 := Nat.mul_le_mul hlen hb
  obtain ⟨v', w', hrun, h2, h3, h4⟩ := run_append_any (P := Tryd.prog) w base T ty E i0 _ 1 bytes hT hi0 hz0 hz1 hz2 hz (by omega) _ _ _ hown D B m.length d m (by omega) hr h1
    (by simp only [maxLen]; omega) (by omega) hbase
  rw [ownBlock_ob] at h3 h4
  have hv : ∃ A' c', v' = .slice A' (l.length + m.length) c' := by
    rcases h2.2 with ⟨hv, h0⟩ | ⟨g, cap, cur, hv, _⟩
    · exact ⟨none, 0, by rw [hv, h0]⟩
    · exact ⟨_, _, hv⟩
  obtain ⟨A', c', rfl⟩ := hv
  rw [ownBlock_ob] at h4
  refine ⟨A', c', w', hrun, ?_, ?_, h4⟩
  · unfold OwV
    rw [List.length_append]
    exact h2
  · exact (Ext.of_grown h3).imp (fun k _ hk => hk)

theorem wp_apV {T E : TypeId} {z : Value} {bytes : Nat} (hT : Tryd.prog.underlying T = some (.slice E)) (hE : (Tryd.prog.info? E).map (fun i => (i.zero, i.size, i.bytes)) = some (some z, 1, bytes)) (hz : z.cells.size = 1) (hb : bytes ≤ 1000000)
    (hgd : o.guard = none) (s x : Operand) (ho : o.op = .call { callee := .builtin .append, args := #[s, x], argTypes := #[T, T] })
    {base : Nat} {A : Option Addr} {c : Nat} {l : List Value} (n : Nat) (hs : a.eval s = .slice A n c) (hown : OwV E w base A c l) (hn : l.length = n)
    {D : Nat → Prop} {B : Option Addr} {m : List Value} (k d : Nat) (hx : a.eval x = .slice B k d) (hr : Rd w D B m) (h1 : ∀ u ∈ m, u.oneCell' = true) (hk : m.length = k)
    (hlen : l.length + m.length ≤ 1000000) (hbase : base ≤ w.heap.size)
    (h : ∀ A' c' w', OwV E w' base A' c' (l ++ m) → Ext (fun k => ob A = some k) w w' → (ob A' = ob A ∨ ob A' = some w.heap.size) →
      wpList Tryd.prog ops Q rest (a.put o.dst (.slice A' (n + k) c')) w') : wpList Tryd.prog ops Q (o :: rest) a w := by
  obtain ⟨A', c', w', hrun, h2, h3, h4⟩ := run_apV hT hE hz o.type hown hr h1 d n k hn hk hlen hb hbase
  refine wpList_plain hgd fun K hK => ?_
  unfold Oper.wp execOp
  simp only [ho, resolve, invoke, builtin, Sem.run_bind, Sem.run_pure, Result.andThen_ok, List.map_toArray, List.map_cons, List.map_nil, hs, hx, hrun]
  exact hK _ _ (h A' c' w' h2 h3 h4)
/-- append alone, whose run is known. -/
theorem op_app {T : TypeId} {K : Act → World → Prop} {w' : World} {v1 v2 r : Value} (s x : Operand) (ho : o.op = .call { callee := .builtin .append, args := #[s, x], argTypes := #[T, T] }) (hs : a.eval s = v1) (hx : a.eval x = v2)
    (hrun : (Builtin.append_ #[T, T] o.type #[v1, v2]).run Tryd.prog w = .ok r w') (h : K (a.put o.dst r) w') : o.wp Tryd.prog a w K Q := by
  unfold Oper.wp execOp
  simp only [ho, resolve, invoke, builtin, Sem.run_bind, Sem.run_pure, Result.andThen_ok, List.map_toArray, List.map_cons, List.map_nil, hs, hx, hrun]
  exact h
set_option maxRecDepth 100000 in
/-- append leaves what was there, where it was. -/
theorem run_apK {T E : TypeId} {z : Value} {bytes : Nat} (hT : Tryd.prog.underlying T = some (.slice E)) (hE : (Tryd.prog.info? E).map (fun i => (i.zero, i.size, i.bytes)) = some (some z, 1, bytes))
    (ty : TypeId) {base : Nat} {A : Option Addr} {c : Nat} {l : List Value} (hown : OwV E w base A c l) {D : Nat → Prop} {B : Option Addr} {m : List Value} (hr : Rd w D B m) (h1 : ∀ u ∈ m, u.oneCell' = true) (d n k : Nat) (hn : l.length = n) (hk : m.length = k)
    (hlen : l.length + m.length ≤ 1000000) (hb : bytes ≤ 1000000) {v' : Value} {w' : World} (hrun : (Builtin.append_ #[T, T] ty #[.slice A n c, .slice B k d]).run Tryd.prog w = .ok v' w') :
    ∀ j u, l[j]? = some u → w'.cell? ((A.getD default).add j) = some u := by
  subst hn hk
  intro j u hu
  obtain ⟨hA, hc⟩ := (OwV.rd hown).ix hu
  obtain ⟨i0, hi0, hz0, hz1, hz2⟩ := info_parts hE
  rcases B with _ | ad
  · have hm : m = [] := by
      rcases hr with h | ⟨a, h, _⟩
      · exact h
      · cases h
    subst hm
    have := run_append_of_nil (P := Tryd.prog) w base T ty E i0 1 hT hi0 (.slice A l.length c) l.length l hown d
    rw [show (.slice none [].length d : Value) = .slice none 0 d from rfl, this] at hrun
    injection hrun with _ e
    rw [← e]
    exact hc
  · have hcells : ∀ j u, m[j]? = some u → w.cell? (ad.add j) = some u := by
      intro j u hu
      obtain ⟨ad', h, hc⟩ := hr.at_ hu
      injection h with h
      subst h
      exact hc
    rcases hown.2 with ⟨hv, h0⟩ | ⟨g, cap, cur, hv, hbg, hg, hnc, hcm, hcs, htake⟩
    · injection hv with hv
      subst hv
      cases hA
    · injection hv with hA' _ hcap
      subst hA' hcap
      by_cases hroom : l.length + m.length ≤ c
      · have h2 := run_append_room (P := Tryd.prog) w T ty E i0 hT hi0 g l.length c cur hg ad m.length d m (by rw [hz1]; omega) hcells h1 hroom (by rw [hz1]; omega)
        rw [h2] at hrun
        injection hrun with _ e
        rw [← e]
        have hb' : Blk (w.setRow g (cur.toList.take (l.length * i0.size) ++ m ++ cur.toList.drop (l.length * i0.size + m.length)).toArray) g E (cur.toList.take (l.length * i0.size) ++ m ++ cur.toList.drop (l.length * i0.size + m.length)).toArray := setRow_heap w g cur _ E (0, 0) hg
        have e2 : (⟨g, 0, none⟩ : Addr).add j = ⟨g, j, none⟩ := by unfold Addr.add; split <;> simp_all
        show World.cell? _ ((⟨g, 0, none⟩ : Addr).add j) = some u
        rw [e2, hb'.cell]
        have hj : j < l.length := by
          rcases Nat.lt_or_ge j l.length with h | h
          · exact h
          · rw [List.getElem?_eq_none h] at hu; cases hu
        rw [hz1, htake, List.getElem?_toArray, List.append_assoc, List.getElem?_append_left hj]
        exact hu
      · have holds : ∀ j u, l[j]? = some u → w.cell? ((⟨g, 0, none⟩ : Addr).add j) = some u := hown.cells (g := g) rfl
        have hmul : (l.length + m.length) * bytes ≤ 1000000 * 1000000 := Nat.mul_le_mul hlen hb
        have h2 := run_append_grow (P := Tryd.prog) w T ty E i0 _ hT hi0 hz0 ⟨g, 0, none⟩ l.length c l (by rw [hz1]; omega) holds ad m.length d m (by rw [hz1]; omega) hcells (by omega) (by omega) (growslice_fits (by omega) (by rw [hz2]; omega))
        rw [h2] at hrun
        injection hrun with _ e
        rw [← e]
        exact (((Ext.refl Non w).drew).alloc _).cell hc (fun h => h)
end
/-- What stays on the way to an append: what the slice holds, and all else but its block. -/
def Keep (A : Option Addr) (l : List Value) (w W : World) : Prop := Ext (fun k => ob A = some k) w W ∧ ∀ j u, l[j]? = some u → W.cell? ((A.getD default).add j) = some u
theorem Keep.start {E : TypeId} {w : World} {base : Nat} {A : Option Addr} {c : Nat} {l : List Value} (h : OwV E w base A c l) : Keep A l w w.drew := ⟨(Ext.refl _ w).drew, fun _ _ hu => ((OwV.rd h).ix hu).2⟩
theorem Keep.ext {A : Option Addr} {l : List Value} {w W W' : World} (h : Keep A l w W) (x : Ext Non W W') : Keep A l w W' := ⟨h.1.transN x, fun j u hu => x.cell (h.2 j u hu) (fun h => h)⟩
theorem Keep.app {A : Option Addr} {l : List Value} {w W W' : World} (h : Keep A l w W) (x : Ext (fun k => ob A = some k) W W') (hk : ∀ j u, l[j]? = some u → W'.cell? ((A.getD default).add j) = some u) : Keep A l w W' := ⟨h.1.trans' x, hk⟩
/-- Elements []byte. -/
theorem plinfo : (Tryd.prog.info? 50).map (fun i => (i.zero, i.size, i.bytes)) = some (some (.slice none 0 0), 1, 24) := by kernel_rfl
end Go.Proofs.YtnmpfbffacljfaaDoor
