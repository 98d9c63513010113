/- Slices of slots: the call's own, and those that came in. -/
import Derived.Test.YtgfjpoopghdilaaSlotS
import Derived.Test.YtgfjpoopghdilaaSlotDec
namespace Go.Proofs.Ytgfjpoopghdilaa
open Go.RowKit

theorem slL_len {s : Sl} (h : s.ok) : (slL s).length = 40 := by simp [slL, bvs_length, h.nonce, h.mac]
theorem slL_one (s : Sl) : ∀ u ∈ slL s, u.oneCell' = true := fun u hu => by
  have := Array.all_eq_true_iff_forall_mem.1 (sl_all s) u (by simpa [sl] using hu)
  exact this
set_option maxRecDepth 100000 in
/-- A whole slot, from any address. -/
theorem load_any {w : World} {s : Sl} (h : s.ok) (a : Addr) (hc : ∀ j u, (slL s)[j]? = some u → w.cell? (a.add j) = some u) : (bigLoad 32 (.pointer (some a))).run Try.prog w = .ok (.agg (sl s)) w := by
  have hl := run_loadCells_list (P := Try.prog) w a (slL s) hc
  rw [slL_len h] at hl
  obtain ⟨i, hi, hi1⟩ := Option.map_eq_some_iff.1 (show (Try.prog.info? 32).map (·.size) = some 40 by kernel_rfl)
  have ha : ∀ w, (isAgg 32).run Try.prog w = .ok true w := fun _ => rfl
  simp [bigLoad, Instr.loadAt, Instr.sureAddr, loadVar, ha, sizeOf, typeInfo, hi, hi1, hl, sl]
/-- Slots that the call owns. -/
def OwS (w : World) (base : Nat) (A : Option Addr) (c : Nat) (ls : List Sl) : Prop := (∀ s ∈ ls, s.ok) ∧ w.ownsRow base 32 40 (.slice A ls.length c) ls.length (ls.flatMap slL)
section
variable {S : Nat → Prop} {w w' : World} {base : Nat} {A : Option Addr} {c : Nat} {ls : List Sl}
theorem flat_len (h : ∀ s ∈ ls, s.ok) : (ls.flatMap slL).length = ls.length * 40 := by
  induction ls with
  | nil => rfl
  | cons s t ih => rw [List.flatMap_cons, List.length_append, slL_len (h s (by simp)), ih (fun x hx => h x (by simp [hx])), List.length_cons]; omega
theorem flat_get (h : ∀ s ∈ ls, s.ok) (i : Nat) (hi : i < ls.length) (j : Nat) (hj : j < 40) : (ls.flatMap slL)[i * 40 + j]? = (slL ls[i])[j]? := by
  induction ls generalizing i with
  | nil => simp at hi
  | cons s t ih =>
    rw [List.flatMap_cons]
    cases i with
    | zero => rw [List.getElem?_append_left (by rw [slL_len (h s (by simp))]; omega)]; simp
    | succ i =>
      rw [List.getElem?_append_right (by rw [slL_len (h s (by simp))]; omega), slL_len (h s (by simp)), show (i + 1) * 40 + j - 40 = i * 40 + j from by omega]
      exact ih (fun x hx => h x (by simp [hx])) i (by simpa using hi)
theorem OwS.nil (w : World) (base : Nat) : OwS w base none 0 [] := ⟨fun _ h => (by cases h), World.ownsRow_nil w base 32 40⟩
theorem OwS.ext (h : OwS w base A c ls) (hx : Ext S w w') (hS : ∀ k, ob A = some k → ¬ S k) : OwS w' base A c ls := by
  refine ⟨h.1, h.2.1, ?_⟩
  rcases h.2.2 with hn | ⟨g, cap, cur, hv, hb, hgg, rest⟩
  · exact .inl hn
  · refine .inr ⟨g, cap, cur, hv, hb, ?_, rest⟩
    injection hv with hv _ _
    rw [hx.block g (Array.getElem?_eq_some_iff.1 hgg).1 (hS g (by rw [hv]; rfl))]
    exact hgg
theorem OwS.extN (h : OwS w base A c ls) (hx : Ext Non w w') : OwS w' base A c ls := h.ext hx (fun _ _ h => h)
theorem OwS.lt (h : OwS w base A c ls) {k : Nat} (hk : ob A = some k) : base ≤ k ∧ k < w.heap.size := World.ownsRow.lt h.2 k (by rw [ownBlock_ob]; exact hk)
theorem OwS.load (h : OwS w base A c ls) (i : Nat) (hi : i < ls.length) : A.isSome = true ∧ (bigLoad 32 (.pointer (some ((A.getD default).add (i * 40))))).run Try.prog w = .ok (.agg (sl ls[i])) w := by
  have hcell : ∀ g, (Value.slice A ls.length c).ownBlock = some g → ∀ j u, (ls.flatMap slL)[j]? = some u → w.cell? ((⟨g, 0, none⟩ : Addr).add j) = some u := fun g hg => World.ownsRow.cells h.2 hg
  rcases h.2.2 with ⟨hv, h0⟩ | ⟨g, cap, cur, hv, _⟩
  · omega
  · injection hv with hv _ _
    subst hv
    refine ⟨rfl, load_any (h.1 _ (List.getElem_mem hi)) _ (fun j u hu => ?_)⟩
    have hj : j < 40 := by
      have := (List.getElem?_eq_some_iff.1 hu).1
      rwa [slL_len (h.1 _ (List.getElem_mem hi))] at this
    have := hcell g rfl (i * 40 + j) u (by rw [flat_get h.1 i hi j hj]; exact hu)
    rw [← add_of_add] at this
    exact this
end
theorem slinfo : (Try.prog.info? 32).map (fun i => (i.zero, i.size, i.bytes)) = some (some (.agg (sl sl0)), 40, 72) := by kernel_rfl
section
variable {w : World} {ops : Array Oper} {rest : List Oper} {o : Oper} {a : Act} {Q : Exit → Act → World → Prop}
theorem run_apS (ty : TypeId) {base : Nat} {A : Option Addr} {c : Nat} {ls : List Sl} (hown : OwS w base A c ls) {D : Nat → Prop} {B : Option Addr} {t : Sl} (ht : t.ok) (hr : Rd w D B (slL t)) (d n : Nat) (hn : ls.length = n) (hlen : n ≤ 1000000) (hbase : base ≤ w.heap.size) :
    ∃ A' c' w', (Builtin.append_ #[59, 59] ty #[.slice A n c, .slice B 1 d]).run Try.prog w = .ok (.slice A' (n + 1) c') w' ∧ OwS w' base A' c' (ls ++ [t]) ∧ Ext (fun k => ob A = some k) w w' ∧ (ob A' = ob A ∨ ob A' = some w.heap.size) := by
  subst hn
  obtain ⟨i0, hi0, hz0, hz1, hz2⟩ := info_parts slinfo
  obtain ⟨v', w', hrun, h2, h3, h4⟩ := run_append_any (P := Try.prog) w base 59 ty 32 i0 _ 40 72 Try.underlying59 hi0 hz0 hz1 hz2 (sl_size sl0_ok) (by omega) _ _ _ hown.2 D B 1 d (slL t) (by rw [slL_len ht]) hr (slL_one t)
    (by simp only [maxLen]; omega) (by omega) hbase
  rw [ownBlock_ob] at h3 h4
  have hv : ∃ A' c', v' = .slice A' (ls.length + 1) c' := by
    rcases h2.2 with ⟨hv, h0⟩ | ⟨g, cap, cur, hv, _⟩
    · exact ⟨none, 0, by rw [hv, h0]⟩
    · exact ⟨_, _, hv⟩
  obtain ⟨A', c', rfl⟩ := hv
  rw [ownBlock_ob] at h4
  refine ⟨A', c', w', hrun, ⟨fun s hs => ?_, ?_⟩, (Ext.of_grown h3).imp (fun k _ hk => hk), h4⟩
  · rcases List.mem_append.1 hs with h | h
    · exact hown.1 s h
    · rw [List.mem_singleton.1 h]; exact ht
  · rw [List.flatMap_append, List.length_append]
    simpa using h2
theorem wp_apS (hgd : o.guard = none) (s x : Operand) (ho : o.op = .call { callee := .builtin .append, args := #[s, x], argTypes := #[59, 59] })
    {base : Nat} {A : Option Addr} {c : Nat} {ls : List Sl} (n : Nat) (hs : a.eval s = .slice A n c) (hown : OwS w base A c ls) (hn : ls.length = n)
    {D : Nat → Prop} {B : Option Addr} {t : Sl} (d : Nat) (hx : a.eval x = .slice B 1 d) (ht : t.ok) (hr : Rd w D B (slL t)) (hlen : n ≤ 1000000) (hbase : base ≤ w.heap.size)
    (h : ∀ A' c' w', OwS w' base A' c' (ls ++ [t]) → Ext (fun k => ob A = some k) w w' → (ob A' = ob A ∨ ob A' = some w.heap.size) →
      wpList Try.prog ops Q rest (a.put o.dst (.slice A' (n + 1) c')) w') : wpList Try.prog ops Q (o :: rest) a w := by
  obtain ⟨A', c', w', hrun, h2, h3, h4⟩ := run_apS o.type hown ht hr d n hn hlen hbase
  refine wpList_plain hgd fun K hK => ?_
  unfold Oper.wp execOp
  simp only [ho, resolve, invoke, builtin, Sem.run_bind, Sem.run_pure, Result.andThen_ok, List.map_toArray, List.map_cons, List.map_nil, hs, hx, hrun]
  exact hK _ _ (h A' c' w' h2 h3 h4)
end
/-- A slice of slots that came in. -/
theorem Dec.slots_len {w : World} {A : Option Addr} {n c : Nat} (h : Dec Try.prog w 59 [.slice A n c]) : n ≤ maxLen := by
  obtain ⟨A', n', c', e, h1, h2, _⟩ := h.cells (s := 40) Try.underlying59 (by kernel_rfl)
  injection e with e _
  injection e with e1 e2 e3
  subst e1 e2 e3
  exact Nat.le_trans h1 h2
theorem Dec.slots {w : World} {A : Option Addr} {n c : Nat} (h : Dec Try.prog w 59 [.slice A n c]) : ∀ i, i < n → A.isSome = true ∧ ∃ s : Sl, s.ok ∧ (A.getD default).block < w.heap.size ∧ ∀ j u, (slL s)[j]? = some u → w.cell? (((A.getD default).add (i * 40)).add j) = some u := by
  obtain ⟨A', n', c', e, _, _, hx⟩ := h.cells (s := 40) Try.underlying59 (by kernel_rfl)
  injection e with e _
  injection e with e1 e2 e3
  subst e1 e2 e3
  intro i hi
  obtain ⟨hA, cs, hl, hc, hd⟩ := hx i hi
  have hd' : Dec Try.prog w 32 cs.toArray.toList := hd
  obtain ⟨s, hs, e⟩ := hd'.slot
  have e2 : cs = slL s := by
    have := congrArg Array.toList e
    simpa [sl] using this
  subst e2
  refine ⟨hA, s, hs, ?_, fun j u hu => ?_⟩
  · have h0 := hc 0 _ rfl
    have := World.block_lt_of_cell? w _ h0
    rwa [block_of_add] at this
  · rw [add_of_add]
    exact hc j u hu

theorem foldl_at : ∀ (L D pre : List Value) (k : Nat), pre.length = k → D.length = L.length →
    List.foldl (fun (cs : Array Value) (x : Value × Nat) => cs.setIfInBounds x.2 x.1) (pre ++ D).toArray (L.zipIdx k) = (pre ++ L).toArray
  | [], [], pre, k, _, _ => rfl
  | x :: L, d :: D, pre, k, hp, hd => by
    have hd' : D.length = L.length := by simpa using hd
    have e : (pre ++ d :: D).toArray.setIfInBounds k x = ((pre ++ [x]) ++ D).toArray := by
      rw [List.setIfInBounds_toArray, List.set_append_right _ _ (by omega), hp, Nat.sub_self]
      simp
    rw [List.zipIdx_cons, List.foldl_cons, e, foldl_at L D (pre ++ [x]) (k + 1) (by simp; omega) hd']
    simp
  | [], _ :: _, _, _, _, hd => by simp at hd
  | _ :: _, [], _, _, _, hd => by simp at hd
theorem foldl_all (L D : List Value) (n : Nat) (hn : L.length = n) (hd : D.length = n) : Array.foldl (fun (cs : Array Value) (x : Value × Nat) => cs.setIfInBounds x.snd x.fst) D.toArray L.toArray.zipIdx 0 n = L.toArray := by
  have h := foldl_at L D [] 0 rfl (by omega)
  have hs : n = L.toArray.zipIdx.size := by simp [hn]
  rw [hs, ← Array.foldl_toList]
  rw [show L.toArray.zipIdx.toList = L.zipIdx 0 from by simp]
  exact h
/-- A slice literal of one slot, kept whole in a walk. -/
def bigBuild (x : Array (Nat × Value)) : Sem Value := Instr.buildSlice 59 1 x
@[go_sem ↓] theorem big_build (x : Array (Nat × Value)) : Instr.buildSlice 59 1 x = bigBuild x := rfl
set_option maxRecDepth 100000 in
theorem build_slots0 (w : World) {t : Sl} (ht : t.ok) (X : Array (Nat × Value) → Sem Value) (hX : X = fun x => Instr.buildSlice 59 1 x) : (X #[(0, .agg (sl t))]).run Try.prog w = .ok (.slice (some ⟨w.heap.size, 0, none⟩) 1 1) (w.alloc (.cells (sl t) 32)) := by
  have hsz := sl_size ht
  have h0 := sl_size sl0_ok
  subst hX
  unfold Instr.buildSlice
  go_simp
  exact congrArg (fun cs => w.alloc (.cells cs 32)) (foldl_all (slL t) _ 40 (slL_len ht) rfl)
@[go_sem] theorem build_slots (w : World) {t : Sl} (ht : t.ok) : (bigBuild #[(0, .agg (sl t))]).run Try.prog w = .ok (.slice (some ⟨w.heap.size, 0, none⟩) 1 1) (w.alloc (.cells (sl t) 32)) := build_slots0 w ht bigBuild rfl
end Go.Proofs.Ytgfjpoopghdilaa
