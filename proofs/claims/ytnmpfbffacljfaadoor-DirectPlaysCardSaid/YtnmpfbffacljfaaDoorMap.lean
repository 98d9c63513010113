/- Maps that the call owns: their entries as a plain list; look-up, store, delete, len. Plain lemmas, no program. -/
import Derived.Test.YtnmpfbffacljfaaDoorMem
import Derived.MapKept
import Derived.Carry
namespace Go.Proofs.YtnmpfbffacljfaaDoor
open Go.RowKit Go.MapKept

/-- What a map's key type owes: its keys are told apart, and nothing is drawn. -/
structure KE (P : Program) (kt : TypeId) {κ : Type} [DecidableEq κ] (enc : κ → Value) : Prop where
  chk : ∀ b k w, (Instr.checkKey b 10000 kt (enc k)).run P w = .ok () w
  eq : ∀ a b w, (Op.equal kt (enc a) (enc b)).run P w = .ok (decide (a = b)) w
  und : ∃ d, P.underlying kt = some d ∧ ∀ a b, Instr.sameNow d (enc a) (enc b) = none ∨ Instr.sameNow d (enc a) (enc b) = some (decide (a = b))
  same : ∀ a, Instr.sameBits 10000 (enc a) (enc a) = true

section
variable {κ : Type} [DecidableEq κ]
variable {β : Type}
/-- The entry of a key, and its place. -/
def fnd (k : κ) : List (κ × β) → Nat → Option (Nat × β)
  | [], _ => none
  | x :: L, i => if k = x.1 then some (i, x.2) else fnd k L (i + 1)
def lkp (k : κ) : List (κ × β) → Option β
  | [] => none
  | x :: L => if k = x.1 then some x.2 else lkp k L
def mput (k : κ) (v : β) : List (κ × β) → List (κ × β)
  | [] => [(k, v)]
  | x :: L => if k = x.1 then (x.1, v) :: L else x :: mput k v L
def mers (k : κ) : List (κ × β) → List (κ × β)
  | [] => []
  | x :: L => if k = x.1 then L else x :: mers k L
theorem fnd_lkp (k : κ) : ∀ (L : List (κ × β)) (i : Nat), (fnd k L i).map (·.2) = lkp k L
  | [], _ => rfl
  | x :: L, i => by
    unfold fnd lkp
    split
    · rfl
    · exact fnd_lkp k L (i + 1)

end
section
variable {κ : Type}
/-- Block b is a map; its entries are L, in their order. -/
structure Mp (enc : κ → Value) (w : World) (b : Nat) (L : List (κ × Value)) : Prop where
  ex : ∃ es clock, w.heap[b]? = some (.map es clock) ∧ es.toList.map (fun e => (e.key, e.val)) = L.map (fun x => (enc x.1, x.2)) ∧
    es.toList.Pairwise (fun a b => a.born ≠ b.born) ∧ ∀ e ∈ es.toList, e.born < clock

variable {enc : κ → Value} {S : Nat → Prop} {w w' : World} {b : Nat} {L : List (κ × Value)}
theorem Mp.lt (h : Mp enc w b L) : b < w.heap.size := by
  obtain ⟨es, clock, hb, _⟩ := h.ex
  exact (Array.getElem?_eq_some_iff.1 hb).1
theorem Mp.ext (h : Mp enc w b L) (hx : Ext S w w') (hS : ¬ S b) : Mp enc w' b L := by
  obtain ⟨es, clock, hb, hL⟩ := h.ex
  exact ⟨es, clock, (hx.block b h.lt hS).trans hb, hL⟩
theorem Mp.extN (h : Mp enc w b L) (hx : Ext Non w w') : Mp enc w' b L := h.ext hx (fun h => h)
theorem Mp.drew (h : Mp enc w b L) : Mp enc w.drew b L := ⟨h.ex⟩
theorem Mp.new (w : World) : Mp enc (w.alloc (.map #[] 0)) w.heap.size ([] : List (κ × Value)) :=
  ⟨#[], 0, heap_alloc_new w _, rfl, by simp, by simp⟩
theorem Mp.alloc (h : Mp enc w b L) (o : Obj) : Mp enc (w.alloc o) b L := h.extN ((Ext.refl Non w).alloc o)
/-- A map's block is no row of cells. -/
theorem Mp.ne_blk (h : Mp enc w b L) {g : Nat} {t : TypeId} {cs : Array Value} (hb : Blk w g t cs) : b ≠ g := by
  rintro rfl
  obtain ⟨es, clock, hb', _⟩ := h.ex
  unfold Blk at hb
  rw [hb'] at hb
  cases hb
theorem Mp.ne_rd (h : Mp enc w b L) {D : Nat → Prop} {A : Option Addr} {x : Value} {xs : List Value} (hr : Rd w D A (x :: xs)) : ∀ a, A = some a → a.block ≠ b := by
  rintro a rfl rfl
  obtain ⟨a', e, hc⟩ := hr.at_ (k := 0) rfl
  injection e with e
  subst e
  obtain ⟨es, clock, hb', _⟩ := h.ex
  simp [Addr.add, World.cell?, hb'] at hc

/-- len(m). -/
theorem Mp.len {P : Program} (h : Mp enc w b L) {t kt et : TypeId} (ht : P.underlying t = some (.map kt et)) (ty : TypeId) :
    (Builtin.len_ #[t] ty #[.map (some b)]).run P w = .ok (.int .i64 (L.length : Int)) w := by
  obtain ⟨es, clock, hb, hL, _⟩ := h.ex
  have hl : es.size = L.length := by
    have := congrArg List.length hL
    simpa using this
  unfold Builtin.len_
  simp only [List.getElem?_toArray, List.getElem?_cons_zero, Sem.run_bind, run_underlying ht, Result.andThen_ok, MapKept.run_getObj_map hb]
  rw [hl]
  rfl
end
section
variable {κ : Type} [DecidableEq κ] {β : Type} {enc : κ → Value} {S : Nat → Prop} {w w' : World} {b : Nat} {L : List (κ × Value)} {P : Program}
theorem findAsking_at {kt : TypeId} (K : KE P kt enc) (k : κ) : ∀ (es : List MapEntry) (L : List (κ × Value)) (i : Nat), es.map (fun e => (e.key, e.val)) = L.map (fun x => (enc x.1, x.2)) →
    (Instr.findAsking kt (enc k) es i).run P w = .ok (fnd k L i) w
  | [], L, i, h => by
    obtain rfl : L = [] := by simpa using h.symm
    rfl
  | e :: es, [], i, h => by simp at h
  | e :: es, x :: L, i, h => by
    simp only [List.map_cons, List.cons.injEq, Prod.mk.injEq] at h
    obtain ⟨⟨h1, h2⟩, h3⟩ := h
    unfold Instr.findAsking fnd
    simp only [Sem.run_bind, h1, K.eq, Result.andThen_ok, decide_eq_true_eq]
    split
    · rw [h2]; rfl
    · exact findAsking_at K k es L (i + 1) h3
theorem findNow_at {kt : TypeId} (K : KE P kt enc) (k : κ) {d : TypeDesc} (hd : P.underlying kt = some d) : ∀ (es : List MapEntry) (L : List (κ × Value)) (i : Nat), es.map (fun e => (e.key, e.val)) = L.map (fun x => (enc x.1, x.2)) →
    Instr.findNow d (enc k) es i = none ∨ Instr.findNow d (enc k) es i = some (fnd k L i)
  | [], L, i, h => by
    obtain rfl : L = [] := by simpa using h.symm
    exact .inr rfl
  | e :: es, [], i, h => by simp at h
  | e :: es, x :: L, i, h => by
    simp only [List.map_cons, List.cons.injEq, Prod.mk.injEq] at h
    obtain ⟨⟨h1, h2⟩, h3⟩ := h
    obtain ⟨d', hd', hs⟩ := K.und
    rw [hd] at hd'
    injection hd' with hd'
    subst hd'
    unfold Instr.findNow fnd
    rw [h1]
    rcases hs k x.1 with hs | hs
    · left; rw [hs]
    · rw [hs]
      by_cases e : k = x.1
      · right; simp [e, h2]
      · simp only [e, decide_false, if_false]
        exact findNow_at K k hd es L (i + 1) h3
theorem findKey_at {kt : TypeId} (K : KE P kt enc) (k : κ) (es : List MapEntry) (h : es.map (fun e => (e.key, e.val)) = L.map (fun x => (enc x.1, x.2))) :
    (Instr.findKey kt (enc k) es).run P w = .ok (fnd k L 0) w := by
  obtain ⟨d, hd, _⟩ := K.und
  unfold Instr.findKey
  simp only [Sem.run_bind, run_underlying hd, Result.andThen_ok]
  rcases findNow_at K k hd es L 0 h with e | e
  · rw [e]; exact findAsking_at K k es L 0 h
  · rw [e]; rfl

/-- v, ok := m[k] and m[k]: what is found, or the zero value. -/
theorem Mp.lookup (h : Mp enc w b L) {t kt et : TypeId} (K : KE P kt enc) (ht : P.underlying t = some (.map kt et)) {z : Value} (hz : ∀ w, (zeroValue et).run P w = .ok z w) (k : κ) (ok : Bool) :
    (Instr.lookup t (.map (some b)) (enc k) ok).run P w = .ok (if ok then .tuple #[(lkp k L).getD z, .bool (lkp k L).isSome] else (lkp k L).getD z) w := by
  obtain ⟨es, clock, hb, hL, _⟩ := h.ex
  have hf := fnd_lkp k L 0
  unfold Instr.lookup
  simp only [Sem.run_bind, run_underlying ht, Result.andThen_ok, MapKept.run_getObj_map hb, Sem.run_pure, K.chk, findKey_at K k es.toList hL]
  cases hc : fnd k L 0 with
  | none =>
    rw [hc] at hf
    rw [← hf]
    simp [Sem.run_bind, hz]
  | some x =>
    rw [hc] at hf
    rw [← hf]
    simp

theorem fnd_get (k : κ) : ∀ (L : List (κ × β)) (i j : Nat) (v : β), fnd k L i = some (j, v) → ∃ n, j = i + n ∧ L[n]? = some (k, v) ∧ (∀ u, mput k u L = L.set n (k, u)) ∧ mers k L = L.eraseIdx n
  | [], _, _, _, h => by cases h
  | x :: L, i, j, v, h => by
    unfold fnd at h
    split at h
    · rename_i e
      injection h with h
      injection h with h1 h2
      subst h1 h2
      exact ⟨0, rfl, by simp [e], fun u => by simp [mput, e], by simp [mers, e]⟩
    · rename_i e
      obtain ⟨n, rfl, h1, h2, h3⟩ := fnd_get k L (i + 1) j v h
      exact ⟨n + 1, by omega, by simpa using h1, fun u => by simp [mput, e, h2 u], by simp [mers, e, h3]⟩
theorem fnd_none (k : κ) : ∀ (L : List (κ × β)) (i : Nat), fnd k L i = none → (∀ u, mput k u L = L ++ [(k, u)]) ∧ mers k L = L
  | [], _, _ => ⟨fun _ => rfl, rfl⟩
  | x :: L, i, h => by
    unfold fnd at h
    split at h
    · cases h
    · rename_i e
      obtain ⟨h1, h2⟩ := fnd_none k L (i + 1) h
      exact ⟨fun u => by simp [mput, e, h1 u], by simp [mers, e, h2]⟩

theorem map_ers {α β : Type} (f : α → β) : ∀ (l : List α) (n : Nat), (l.eraseIdx n).map f = (l.map f).eraseIdx n
  | [], _ => rfl
  | _ :: _, 0 => rfl
  | x :: l, n + 1 => by simp [map_ers f l n]
theorem Ext.putMap (w : World) (b : Nat) (o : Obj) : Ext (One b) w { w with heap := w.heap.setIfInBounds b o } :=
  ⟨rfl, rfl, rfl, by simp, fun k _ hk => by
    have : b ≠ k := fun e => hk e.symm
    simp [Array.getElem?_setIfInBounds, this]⟩

/-- m[k] = v. -/
theorem Mp.update (h : Mp enc w b L) {t kt et : TypeId} (K : KE P kt enc) (ht : P.underlying t = some (.map kt et)) (k : κ) (v : Value) :
    ∃ w', (Instr.mapUpdate t (.map (some b)) (enc k) v).run P w = .ok () w' ∧ Mp enc w' b (mput k v L) ∧ Ext (One b) w w' := by
  obtain ⟨es, clock, hb, hL, hp, hc⟩ := h.ex
  have hlt : b < w.heap.size := h.lt
  unfold Instr.mapUpdate
  simp only [Sem.run_bind, run_underlying ht, Result.andThen_ok, MapKept.run_getObj_map hb, K.chk, findKey_at K k es.toList hL]
  cases hf : fnd k L 0 with
  | none =>
    obtain ⟨hput, _⟩ := fnd_none k L 0 hf
    refine ⟨_, MapKept.run_setObj_map _ hb, ⟨es.push { key := enc k, val := v, born := clock }, clock + 1, by simp [hlt], ?_, ?_, ?_⟩, Ext.putMap _ _ _⟩
    · rw [hput, Array.toList_push, List.map_append, List.map_append, hL]
      rfl
    · rw [Array.toList_push, List.pairwise_append]
      refine ⟨hp, by simp, fun a ha c hc' => ?_⟩
      simp only [List.mem_cons, List.not_mem_nil, or_false] at hc'
      subst hc'
      have := hc a ha
      show a.born ≠ clock
      omega
    · intro e he
      rw [Array.toList_push, List.mem_append] at he
      rcases he with he | he
      · have := hc e he; omega
      · simp only [List.mem_cons, List.not_mem_nil, or_false] at he
        subst he
        show clock < clock + 1
        omega
  | some x =>
    obtain ⟨j, u⟩ := x
    obtain ⟨n, hj, hn, hput, _⟩ := fnd_get k L 0 j u hf
    obtain rfl : j = n := by omega
    have hen : (es.toList.map (fun e => (e.key, e.val)))[j]? = some (enc k, u) := by
      rw [hL, List.getElem?_map, hn]; rfl
    rw [List.getElem?_map, Option.map_eq_some_iff] at hen
    obtain ⟨e, he, hk⟩ := hen
    injection hk with hk1 hk2
    have hge : es[j]? = some e := by rw [← Array.getElem?_toList]; exact he
    have hjs : j < es.size := (Array.getElem?_eq_some_iff.1 hge).1
    have hstay : ((((es[j]?).map (·.key)).getD (enc k))) = enc k := by rw [hge]; simp [hk1]
    have hst : (Instr.keyThatStays (enc k) (enc k)).run P w = .ok (enc k) w := by
      unfold Instr.keyThatStays
      rw [K.same]
      rfl
    simp only [Sem.run_bind, hstay, hst, Result.andThen_ok]
    have hmod : (es.modify j fun e => { e with key := enc k, val := v }).toList = es.toList.set j { e with key := enc k, val := v } := by
      apply List.ext_getElem? 
      intro i
      rw [Array.getElem?_toList, Array.getElem?_modify, List.getElem?_set]
      have hej : es[j] = e := (Array.getElem?_eq_some_iff.1 hge).2
      by_cases hij : j = i
      · subst hij
        simp [hjs, hej]
      · simp [hij]
    refine ⟨_, MapKept.run_setObj_map _ hb, ⟨_, clock, by simp [hlt]; rfl, ?_, ?_, ?_⟩, Ext.putMap _ _ _⟩
    · rw [hmod, List.map_set, hL, hput, List.map_set]
    · rw [hmod]
      rw [List.pairwise_iff_getElem] at hp ⊢
      intro i1 i2 h1 h2 h12
      simp only [List.length_set, Array.length_toList] at h1 h2
      have := hp i1 i2 (by simpa using h1) (by simpa using h2) h12
      have hb2 : ∀ i (hi : i < (es.toList.set j { e with key := enc k, val := v }).length), ((es.toList.set j { e with key := enc k, val := v })[i]'hi).born = (es.toList[i]'(by simpa using hi)).born := by
        intro i hi
        rw [List.getElem_set]
        split
        · rename_i e'
          subst e'
          have : es.toList[j]'(by simpa using hjs) = e := by
            have := (List.getElem?_eq_some_iff.1 he).2
            exact this
          rw [this]
        · rfl
      rw [hb2, hb2]
      exact this
    · intro e' he'
      rw [hmod] at he'
      rcases List.mem_or_eq_of_mem_set he' with h | h
      · exact hc e' h
      · subst h
        exact hc e (List.mem_of_getElem? he)

/-- delete(m, k). -/
theorem Mp.delete (h : Mp enc w b L) {t kt et : TypeId} (K : KE P kt enc) (ht : P.underlying t = some (.map kt et)) (k : κ) (t2 ty : TypeId) :
    ∃ w', (Builtin.delete_ #[t, t2] ty #[.map (some b), enc k]).run P w = .ok (.tuple #[]) w' ∧ Mp enc w' b (mers k L) ∧ Ext (One b) w w' := by
  obtain ⟨es, clock, hb, hL, hp, hc⟩ := h.ex
  have hlt : b < w.heap.size := h.lt
  unfold Builtin.delete_
  simp only [List.getElem?_toArray, List.getElem?_cons_zero, List.getElem?_cons_succ, Sem.run_bind, run_underlying ht, Result.andThen_ok, MapKept.run_getObj_map hb, K.chk, findKey_at K k es.toList hL]
  cases hf : fnd k L 0 with
  | none =>
    obtain ⟨_, hers⟩ := fnd_none k L 0 hf
    simp only [Sem.run_bind, MapKept.run_setObj_map _ hb, Result.andThen_ok, Sem.run_pure]
    refine ⟨_, rfl, ⟨es, clock, by simp [hlt], ?_, hp, hc⟩, Ext.putMap _ _ _⟩
    rw [hers, hL]
  | some x =>
    obtain ⟨j, u⟩ := x
    obtain ⟨n, hj, hn, _, hers⟩ := fnd_get k L 0 j u hf
    obtain rfl : j = n := by omega
    have hjs : j < es.size := by
      have h1 : j < L.length := (List.getElem?_eq_some_iff.1 hn).1
      have := congrArg List.length hL
      simp at this
      omega
    have her : (es.eraseIdxIfInBounds j).toList = es.toList.eraseIdx j := by
      simp [Array.eraseIdxIfInBounds, hjs]
    simp only [Sem.run_bind, MapKept.run_setObj_map _ hb, Result.andThen_ok, Sem.run_pure]
    refine ⟨_, rfl, ⟨_, clock, by simp [hlt]; rfl, ?_, ?_, ?_⟩, Ext.putMap _ _ _⟩
    · rw [her, hers, map_ers, hL, map_ers]
    · rw [her]
      exact hp.sublist (List.eraseIdx_sublist _ _)
    · intro e he
      rw [her] at he
      exact hc e ((List.eraseIdx_sublist _ _).mem he)

end

/-! ### the lists -/
section
variable {κ : Type} [DecidableEq κ] {β γ : Type}
theorem lkp_map (f : β → γ) (k : κ) : ∀ L : List (κ × β), lkp k (L.map fun x => (x.1, f x.2)) = (lkp k L).map f
  | [] => rfl
  | x :: L => by
    simp only [List.map_cons, lkp]
    split
    · rfl
    · exact lkp_map f k L
theorem mput_map (f : β → γ) (k : κ) (v : β) : ∀ L : List (κ × β), mput k (f v) (L.map fun x => (x.1, f x.2)) = (mput k v L).map fun x => (x.1, f x.2)
  | [] => rfl
  | x :: L => by
    simp only [List.map_cons, mput]
    split
    · rfl
    · simp [mput_map f k v L]
theorem ers_map (f : β → γ) (k : κ) : ∀ L : List (κ × β), mers k (L.map fun x => (x.1, f x.2)) = (mers k L).map fun x => (x.1, f x.2)
  | [] => rfl
  | x :: L => by
    simp only [List.map_cons, mers]
    split
    · rfl
    · simp [ers_map f k L]
theorem lkp_none {k : κ} : ∀ {L : List (κ × β)}, lkp k L = none ↔ k ∉ L.map (·.1)
  | [] => by simp [lkp]
  | x :: L => by
    simp only [lkp, List.map_cons, List.mem_cons, not_or]
    split
    · rename_i e; simp [e]
    · rename_i e; simp [e, lkp_none (L := L)]
theorem lkp_mem {k : κ} {v : β} : ∀ {L : List (κ × β)}, lkp k L = some v → (k, v) ∈ L
  | [], h => by cases h
  | x :: L, h => by
    simp only [lkp] at h
    split at h
    · rename_i e
      injection h with h
      subst h
      rw [e]
      exact List.mem_cons_self
    · exact List.mem_cons_of_mem _ (lkp_mem h)
theorem mput_new {k : κ} (v : β) : ∀ {L : List (κ × β)}, lkp k L = none → mput k v L = L ++ [(k, v)]
  | [], _ => rfl
  | x :: L, h => by
    simp only [lkp] at h
    split at h
    · cases h
    · rename_i e
      simp [mput, e, mput_new v h]
theorem mers_new {k : κ} : ∀ {L : List (κ × β)}, lkp k L = none → mers k L = L
  | [], _ => rfl
  | x :: L, h => by
    simp only [lkp] at h
    split at h
    · cases h
    · rename_i e
      simp [mers, e, mers_new h]
theorem put_len_old {k : κ} (v : β) : ∀ {L : List (κ × β)} {u : β}, lkp k L = some u → (mput k v L).length = L.length
  | [], _, h => by cases h
  | x :: L, u, h => by
    simp only [lkp] at h
    split at h
    · rename_i e; simp [mput, e]
    · rename_i e; simp [mput, e, put_len_old v h]
theorem ers_len {k : κ} : ∀ {L : List (κ × β)} {u : β}, lkp k L = some u → (mers k L).length + 1 = L.length
  | [], _, h => by cases h
  | x :: L, u, h => by
    simp only [lkp] at h
    split at h
    · rename_i e; simp [mers, e]
    · rename_i e; simp [mers, e, ers_len h]
theorem lkp_put_self (k : κ) (v : β) : ∀ L : List (κ × β), lkp k (mput k v L) = some v
  | [] => by simp [mput, lkp]
  | x :: L => by
    unfold mput
    split
    · rename_i e; simp [lkp, e]
    · rename_i e; simp [lkp, e, lkp_put_self k v L]
theorem lkp_put_ne {k k' : κ} (h : k' ≠ k) (v : β) : ∀ L : List (κ × β), lkp k' (mput k v L) = lkp k' L
  | [] => by simp [mput, lkp, h]
  | x :: L => by
    unfold mput
    split
    · rename_i e; simp [lkp, ← e, h]
    · simp [lkp, lkp_put_ne h v L]
theorem lkp_ers_ne {k k' : κ} (h : k' ≠ k) : ∀ L : List (κ × β), lkp k' (mers k L) = lkp k' L
  | [] => rfl
  | x :: L => by
    unfold mers
    split
    · rename_i e; simp [lkp, ← e, h]
    · simp [lkp, lkp_ers_ne h L]
/-- The keys are told apart. -/
def Apart (L : List (κ × β)) : Prop := (L.map (·.1)).Nodup
theorem put_keys_old {k : κ} (v : β) : ∀ {L : List (κ × β)} {u : β}, lkp k L = some u → (mput k v L).map (·.1) = L.map (·.1)
  | [], _, h => by cases h
  | x :: L, u, h => by
    simp only [lkp] at h
    split at h
    · rename_i e; simp [mput, e]
    · rename_i e; simp [mput, e, put_keys_old v h]
theorem Apart.put {L : List (κ × β)} (h : Apart L) (k : κ) (v : β) : Apart (mput k v L) := by
  unfold Apart at h ⊢
  cases e : lkp k L with
  | none =>
    rw [mput_new v e, List.map_append, List.nodup_append]
    refine ⟨h, by simp, fun a ha b hb => ?_⟩
    simp only [List.map_cons, List.map_nil, List.mem_cons, List.not_mem_nil, or_false] at hb
    subst hb
    rintro rfl
    exact lkp_none.1 e ha
  | some u => rw [put_keys_old v e]; exact h
theorem mers_sub (k : κ) : ∀ L : List (κ × β), List.Sublist (mers k L) L
  | [] => List.Sublist.refl _
  | x :: L => by
    unfold mers
    split
    · exact List.sublist_cons_self x L
    · exact (mers_sub k L).cons_cons x
theorem Apart.ers {L : List (κ × β)} (h : Apart L) (k : κ) : Apart (mers k L) := by
  unfold Apart at h ⊢
  exact h.sublist ((mers_sub k L).map _)
theorem lkp_ers_self {k : κ} : ∀ {L : List (κ × β)}, Apart L → lkp k (mers k L) = none
  | [], _ => rfl
  | x :: L, h => by
    unfold Apart at h
    simp only [List.map_cons, List.nodup_cons] at h
    unfold YtnmpfbffacljfaaDoor.mers
    split
    · rename_i e; rw [lkp_none, e]; exact h.1
    · rename_i e; simp only [lkp, e, if_false]; exact lkp_ers_self h.2
end
end Go.Proofs.YtnmpfbffacljfaaDoor
