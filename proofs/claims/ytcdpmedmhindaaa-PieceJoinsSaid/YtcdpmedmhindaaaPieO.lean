/- Slices of arrays of 256 bytes, the call's own. -/
import Derived.Test.YtcdpmedmhindaaaPieC
import Derived.Test.YtcdpmedmhindaaaOwO
import Derived.Deep.MidRow
import Derived.Great.BuildSlice
namespace Go.Proofs.Ytcdpmedmhindaaa
open Go.RowKit

set_option maxRecDepth 100000 in
/-- A whole array, from any address. -/
theorem load_any {w : World} {l : List UInt8} (h : l.length = 256) (a : Addr) (hc : ∀ j u, (bvs l)[j]? = some u → w.cell? (a.add j) = some u) : (bigLoad 35 (.pointer (some a))).run Try.prog w = .ok (.agg (ba l)) w := by
  have hl := run_loadCells_list (P := Try.prog) w a (bvs l) hc
  rw [bvs_length, h] at hl
  obtain ⟨i, hi, hi1⟩ := Option.map_eq_some_iff.1 (show (Try.prog.info? 35).map (·.size) = some 256 by kernel_rfl)
  have ha : ∀ w, (isAgg 35).run Try.prog w = .ok true w := fun _ => rfl
  simp [bigLoad, Instr.loadAt, Instr.sureAddr, loadVar, ha, sizeOf, typeInfo, hi, hi1, hl, ba]
/-- Arrays of 256 bytes that the call owns. -/
structure OwA (w : World) (base : Nat) (A : Option Addr) (c : Nat) (ls : List (List UInt8)) : Prop where
  each : ∀ l ∈ ls, l.length = 256
  own : OwO 35 256 w base A ls.length c (bvs ls.flatten)
section
variable {S : Nat → Prop} {w w' : World} {base : Nat} {A : Option Addr} {c : Nat} {ls : List (List UInt8)}
theorem flat_get (h : ∀ s ∈ ls, s.length = 256) (i : Nat) (hi : i < ls.length) (j : Nat) (hj : j < 256) : ls.flatten[i * 256 + j]? = ls[i][j]? := by
  induction ls generalizing i with
  | nil => simp at hi
  | cons s t ih =>
    rw [List.flatten_cons]
    cases i with
    | zero => rw [List.getElem?_append_left (by rw [h s (by simp)]; omega)]; simp
    | succ i =>
      rw [List.getElem?_append_right (by rw [h s (by simp)]; omega), h s (by simp), show (i + 1) * 256 + j - 256 = i * 256 + j from by omega]
      exact ih (fun x hx => h x (by simp [hx])) i (by simpa using hi)
theorem OwA.nil (w : World) (base : Nat) : OwA w base none 0 [] := ⟨fun _ h => (by cases h), OwO.nil w base⟩
theorem OwA.ext (h : OwA w base A c ls) (hx : Ext S w w') (hS : ∀ k, ob A = some k → ¬ S k) : OwA w' base A c ls := ⟨h.each, h.own.ext hx hS⟩
theorem OwA.extN (h : OwA w base A c ls) (hx : Ext Non w w') : OwA w' base A c ls := h.ext hx (fun _ _ h => h)
theorem OwA.lt (h : OwA w base A c ls) {k : Nat} (hk : ob A = some k) : base ≤ k ∧ k < w.heap.size := h.own.lt hk
theorem OwA.lower (h : OwA w base A c ls) {base' : Nat} (hb : ∀ k, ob A = some k → base' ≤ k) : OwA w base' A c ls := ⟨h.each, h.own.lower hb⟩
theorem OwA.load (h : OwA w base A c ls) (i : Nat) (hi : i < ls.length) : A.isSome = true ∧ (bigLoad 35 (.pointer (some ((A.getD default).add (i * 256))))).run Try.prog w = .ok (.agg (ba ls[i])) w := by
  have hl := h.each _ (List.getElem_mem hi)
  have key : ∀ j u, (bvs ls[i])[j]? = some u → (bvs ls.flatten)[i * 256 + j]? = some u := by
    intro j u hu
    have hj : j < 256 := by
      have := (List.getElem?_eq_some_iff.1 hu).1
      rwa [bvs_length, hl] at this
    rw [bvs, List.getElem?_map, flat_get h.each i hi j hj]
    rwa [bvs, List.getElem?_map] at hu
  rcases h.own.rd with h0 | ⟨a, rfl, _, hc⟩
  · have h1 := key 0 _ (bvs_get ls[i] 0 (by omega))
    rw [h0] at h1
    simp at h1
  · exact ⟨rfl, load_any hl _ (fun j u hu => by
      have := hc _ _ (key j u hu)
      rw [← add_of_add] at this
      exact this)⟩
/-- l[k:], behind something that is there. -/
theorem OwA.drop1 (h : OwA w base A c ls) (k : Nat) (hk : k < ls.length) (hc : k < c) : OwA w base (A.map (·.add (k * 256))) (c - k) (ls.drop k) := by
  have hA := (h.load k hk).1
  refine ⟨fun l hl => h.each l (List.mem_of_mem_drop hl), ?_⟩
  have := h.own.drop k (by omega) hA hc
  have e : (bvs ls.flatten).drop (k * 256) = bvs (ls.drop k).flatten := by
    have : ∀ (k : Nat) (ls : List (List UInt8)), (∀ l ∈ ls, l.length = 256) → k ≤ ls.length → ls.flatten.drop (k * 256) = (ls.drop k).flatten := by
      intro k
      induction k with
      | zero => intro ls _ _; simp
      | succ k ih =>
        intro ls hls hkl
        cases ls with
        | nil => simp at hkl
        | cons s t =>
          rw [List.flatten_cons, List.drop_append, List.drop_of_length_le (by rw [hls s (by simp)]; omega), hls s (by simp), List.nil_append, show (k + 1) * 256 - 256 = k * 256 from by omega]
          exact ih t (fun x hx => hls x (by simp [hx])) (by simpa using hkl)
    unfold bvs
    rw [← List.map_drop, this k ls h.each (by omega)]
  rw [e] at this
  rw [List.length_drop]
  exact this
end
theorem binfo : (Try.prog.info? 35).map (fun i => (i.zero, i.size, i.bytes)) = some (some (.agg (zrow 256)), 256, 256) := by kernel_rfl
section
variable {w : World} {ops : Array Oper} {rest : List Oper} {o : Oper} {a : Act} {Q : Exit → Act → World → Prop}
theorem run_apA (ty : TypeId) {base : Nat} {A : Option Addr} {c : Nat} {ls : List (List UInt8)} (hown : OwA w base A c ls) {g : Nat} {t : List UInt8} (ht : t.length = 256) (hb : Blk w g 35 (ba t)) (d n : Nat) (hn : ls.length = n) (hlen : n ≤ 900000) (hbase : base ≤ w.heap.size) :
    ∃ A' c' w', (Builtin.append_ #[26, 26] ty #[.slice A n c, .slice (some ⟨g, 0, none⟩) 1 d]).run Try.prog w = .ok (.slice A' (n + 1) c') w' ∧ OwA w' base A' c' (ls ++ [t]) ∧ Ext (fun k => ob A = some k) w w' ∧ (ob A' = ob A ∨ ob A' = some w.heap.size) := by
  subst hn
  have hr : ∀ j u, (bvs t)[j]? = some u → w.cell? ((⟨g, 0, none⟩ : Addr).add j) = some u := by
    intro j u hu
    have e : (⟨g, 0, none⟩ : Addr).add j = ⟨g, j, none⟩ := by unfold Addr.add; split <;> simp_all
    rw [e, hb.cell]
    simpa [ba] using hu
  obtain ⟨A', c', w', hrun, h2, h3, h4⟩ := run_apO (P := Try.prog) Try.underlying26 binfo (by rw [show (Value.agg (zrow 256)).cells = zrow 256 from rfl, zrow_size]) ty hown.own hr (m := 1) (by rw [bvs_length, ht]) (bvs_one t) d (by omega) (by decide) hbase
  refine ⟨A', c', w', hrun, ⟨fun s hs => ?_, ?_⟩, h3, h4⟩
  · rcases List.mem_append.1 hs with h | h
    · exact hown.each s h
    · rw [List.mem_singleton.1 h]; exact ht
  · rw [List.length_append, List.flatten_append, bvs_append]
    simpa using h2
theorem wp_apA (hgd : o.guard = none) (s x : Operand) (ho : o.op = .call { callee := .builtin .append, args := #[s, x], argTypes := #[26, 26] })
    {base : Nat} {A : Option Addr} {c : Nat} {ls : List (List UInt8)} (n : Nat) (hs : a.eval s = .slice A n c) (hown : OwA w base A c ls) (hn : ls.length = n)
    {g : Nat} {t : List UInt8} (d : Nat) (hx : a.eval x = .slice (some ⟨g, 0, none⟩) 1 d) (ht : t.length = 256) (hr : Blk w g 35 (ba t)) (hlen : n ≤ 900000) (hbase : base ≤ w.heap.size)
    (h : ∀ A' c' w', OwA w' base A' c' (ls ++ [t]) → Ext (fun k => ob A = some k) w w' → (ob A' = ob A ∨ ob A' = some w.heap.size) →
      wpList Try.prog ops Q rest (a.put o.dst (.slice A' (n + 1) c')) w') : wpList Try.prog ops Q (o :: rest) a w := by
  obtain ⟨A', c', w', hrun, h2, h3, h4⟩ := run_apA o.type hown ht hr d n hn hlen hbase
  refine wpList_plain hgd fun K hK => ?_
  unfold Oper.wp execOp
  simp only [ho, resolve, invoke, builtin, Sem.run_bind, Sem.run_pure, Result.andThen_ok, List.map_toArray, List.map_cons, List.map_nil, hs, hx, hrun]
  exact hK _ _ (h A' c' w' h2 h3 h4)
end
/-- A slice literal of one array, kept whole in a walk. -/
def bigBuild (x : Array (Nat × Value)) : Sem Value := Instr.buildSlice 26 1 x
@[go_sem ↓] theorem big_build (x : Array (Nat × Value)) : Instr.buildSlice 26 1 x = bigBuild x := rfl
theorem build_b (w : World) {t : List UInt8} (ht : t.length = 256) : (bigBuild #[(0, .agg (ba t))]).run Try.prog w = .ok (.slice (some ⟨w.heap.size, 0, none⟩) 1 1) (w.alloc (.cells (ba t) 35)) := by
  obtain ⟨ie, hie, hz, hs, _⟩ := info_parts binfo
  have hc : (Value.agg (ba t)).cells.size = 256 := by
    show (ba t).size = 256
    rw [ba_size, ht]
  refine run_buildSlice w 26 35 1 _ (ba t) ie _ Try.underlying26 hie hz (by rw [hs]; decide) (by rw [hs]; decide) ?_
  rw [hs]
  have hf := Great.fill_whole (s := 256) (by decide) [.agg (ba t)] ((Array.range (1 * 256)).map ((Value.agg (zrow 256)).cells[· % (Value.agg (zrow 256)).cells.size]!)) (fun v hv => by rw [List.mem_singleton.1 hv]; exact hc) (by simp)
  refine hf.trans ?_
  have e : (List.flatMap (fun v : Value => v.cells.toList) [Value.agg (ba t)]) = bvs t := by
    rw [List.flatMap_cons, List.flatMap_nil, List.append_nil]
    rfl
  rw [e]
  rfl
end Go.Proofs.Ytcdpmedmhindaaa
