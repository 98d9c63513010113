/- A joiner in memory; its messages put together. -/
import Derived.Test.YtcdpmedmhindaaaPieJ
namespace Go.Proofs.Ytcdpmedmhindaaa
open Go.RowKit

/-- A message that is not whole, in memory. -/
structure En where
  cnt : Int
  p : Nat
  m : Nat
  pl : List (Int × Part)
def En.opn (e : En) : Opn := (e.cnt, e.pl.map fun x => (x.1, x.2.l))
structure Ent (w : World) (D : Nat → Prop) (e : En) : Prop where
  blk : Blk w e.p 102 #[.int .i64 e.cnt, .map (some e.m)]
  mp : Mp iv w e.m (e.pl.map fun x => (x.1, x.2.val))
  own : ∀ x ∈ e.pl, OwB w 0 x.2.a x.2.c x.2.l
  dp : D e.p
  dm : D e.m
  db : ∀ x ∈ e.pl, ∀ k, ob x.2.a = some k → D k
theorem Ent.ext {S D : Nat → Prop} {w w' : World} {e : En} (h : Ent w D e) (x : Ext S w w') (hS : ∀ k, D k → ¬ S k) : Ent w' D e :=
  ⟨h.blk.ext x (hS _ h.dp), h.mp.ext x (hS _ h.dm), fun y hy => (h.own y hy).ext x (fun k hk => hS k (h.db y hy k hk)), h.dp, h.dm, h.db⟩
theorem Ent.extN {D : Nat → Prop} {w w' : World} {e : En} (h : Ent w D e) (x : Ext Non w w') : Ent w' D e := h.ext x (fun _ _ h => h)
theorem Ent.imp {D D' : Nat → Prop} {w : World} {e : En} (h : Ent w D e) (hD : ∀ k, k < w.heap.size → D k → D' k) : Ent w D' e :=
  ⟨h.blk, h.mp, h.own, hD _ h.blk.lt h.dp, hD _ h.mp.lt h.dm, fun y hy k hk => hD k ((h.own y hy).lt hk).2 (h.db y hy k hk)⟩

theorem zero_bs (w : World) : (zeroValue 24).run Try.prog w = .ok (.slice none 0 0) w :=
  (zero_of_info (P := Try.prog) (t := 24) (n := 1) (by kernel_rfl)).1 w
/-- What a map of parts has at a place. -/
theorem at_place {w : World} {m : Nat} {pl : List (Int × Part)} (M : Mp iv w m (pl.map fun x => (x.1, x.2.val))) (ho : ∀ x ∈ pl, OwB w 0 x.2.a x.2.c x.2.l) (i : Int) :
    ∃ (a : Option Addr) (c : Nat) (l : List UInt8), l = (lkp i (pl.map fun x => (x.1, x.2.l))).getD [] ∧ OwB w 0 a c l ∧ (l = [] ∨ ∃ x ∈ pl, x.2.l = l) ∧
      ∀ W, Ext Non w W → (Instr.lookup 100 (.map (some m)) (.int .i64 i) false).run Try.prog W = .ok (.slice a l.length c) W := by
  have hz : (lkp i (pl.map fun x => (x.1, x.2.l))) = (lkp i pl).map Part.l := by
    rw [← lkp_map Part.l i pl]
  have hv : (lkp i (pl.map fun x => (x.1, x.2.val))) = (lkp i pl).map Part.val := by
    rw [← lkp_map Part.val i pl]
  cases h : lkp i pl with
  | none =>
    refine ⟨none, 0, [], by rw [hz, h]; rfl, OwB.nil w 0, .inl rfl, fun W x => ?_⟩
    have := (M.extN x).lookup ke_iv Try.underlying100 zero_bs i false
    rw [hv, h] at this
    exact this
  | some x =>
    have hm := lkp_mem h
    refine ⟨x.a, x.c, x.l, by rw [hz, h]; rfl, ho _ hm, .inr ⟨_, hm, rfl⟩, fun W y => ?_⟩
    have := (M.extN y).lookup ke_iv Try.underlying100 zero_bs i false
    rw [hv, h] at this
    exact this
def wh (by_ : List (Int × List UInt8)) (n : Nat) : List UInt8 := (List.range n).flatMap fun (i : Nat) => (lkp (i : Int) by_).getD []
theorem wh_succ (by_ : List (Int × List UInt8)) (n : Nat) : wh by_ (n + 1) = wh by_ n ++ (lkp (n : Int) by_).getD [] := by simp [wh, List.range_succ]
set_option maxRecDepth 100000 in
set_option maxHeartbeats 2000000 in
theorem whole_calls {w : World} {D : Nat → Prop} {e : En} (E : Ent w D e) (hs : ∀ x ∈ e.pl, x.2.l.length ≤ 244) (h0 : 0 ≤ e.cnt) (h17 : e.cnt ≤ 17) (l : List UInt8) (hl : whole e.cnt e.opn.2 = l) :
    Calls Try.prog 38 #[.pointer (some ⟨e.p, 0, none⟩)] w fun x w' => ∃ A c, x = .returned (.slice A l.length c) ∧ OwB w' w.heap.size A c l ∧ Ext Non w w' := by
  obtain ⟨n, hn⟩ : ∃ n : Nat, e.cnt = n := ⟨e.cnt.toNat, by omega⟩
  have hw : wh e.opn.2 n = l := by
    rw [← hl]
    unfold wh whole
    rw [hn, Int.toNat_natCast]
  have E0 := E
  have HW := Lib.hid hw
  clear hw hl
  have b0 := E.blk.cell 0
  have b1 := E.blk.cell 1
  have hcnt : (#[Value.int .i64 e.cnt, .map (some e.m)] : Array Value)[0]? = some (.int .i64 (n : Int)) := by rw [hn]; rfl
  rw [hcnt] at b0
  have b1' : w.cell? ⟨e.p, 1, none⟩ = some (.map (some e.m)) := b1
  have hn17 : n ≤ 17 := by omega
  clear b1 hcnt
  generalize hep : e.p = p at *
  go_enter Try.func38, Try.ntmps38
  go_wp2_with fail
  go_loopw [2, 8] (fun s i wr => ∃ (k : Nat) (A : Option Addr) (c : Nat), k ≤ n ∧ i = .int .i64 k ∧ s = .slice A (wh e.opn.2 k).length c ∧ OwB wr w.heap.size A c (wh e.opn.2 k) ∧ (wh e.opn.2 k).length ≤ 244 * k ∧ Ext Non w wr) (fun _ i _ => n - (intOf i).toNat)
  case atStart => exact ⟨0, none, 0, Nat.zero_le _, rfl, rfl, OwB.nil _ _, Nat.le_refl _, Ext.refl _ _⟩
  case round =>
    obtain ⟨k, A, c, hk, rfl, rfl, O, hlen, X⟩ := hrel
    by_cases hkn : k < n
    · have i1 : (k : Int) < (n : Int) := by omega
      have E1 := E0.extN X
      obtain ⟨a, ca, la, hla, Oa, hin, lk⟩ := at_place E1.mp E1.own (k : Int)
      have hla2 : la.length ≤ 244 := by
        rcases hin with h | ⟨x, hx, h⟩
        · rw [h]; exact Nat.zero_le _
        · rw [← h]; exact hs x hx
      have c1 := X.cell b1' (fun h => h)
      have hsc := wh_succ e.opn.2 k
      have hla3 : la = (lkp (k : Int) e.opn.2).getD [] := hla
      rw [← hla3] at hsc
      have lk0 := lk wr (Ext.refl _ _)
      have HSC := Lib.hid hsc
      obtain ⟨q, hq⟩ : ∃ q, (wh e.opn.2 k).length = q := ⟨_, rfl⟩
      rw [hq] at hlen
      rw [hq]
      have hsz := X.size
      clear hla hla3 hsc lk hin
      go_wp2_with (at_builtin; refine wp_ap8 rfl (.tmp 11) (.tmp 17) rfl q rfl O hq la.length ca rfl Oa.rd rfl (by omega) hsz ?_; intro A5 c5 w5 o5 x5 hob5)
      have hl5 : (wh e.opn.2 (k + 1)).length = q + la.length := by rw [HSC.out, List.length_append, hq]
      refine ⟨⟨k + 1, A5, c5, by omega, by go_num, by rw [hl5], by rw [HSC.out]; exact o5, by rw [hl5]; omega, X.trans x5 (fun i hi h => ?_)⟩, by simp [intOf]; omega⟩
      have := (O.lt h).1
      omega
    · obtain rfl : k = n := by omega
      rw [HW.out] at O ⊢
      go_wp2_with fail
      go_ret
      exact ⟨A, c, rfl, O, X⟩

/-- A joiner in memory: its block j, its map mo, those that were whole (from dA on), its messages. -/
structure JoE (w : World) (D : Nat → Prop) (j : Nat) (J : Jn) (mo : Nat) (dA : Option Addr) (dc : Nat) (es : List (Ky × En)) : Prop where
  ok : J.ok
  blk : Blk w j 94 #[.int .i64 J.room, .map (some mo), .slice dA J.done.length dc]
  done : OwO 104 3 w 0 dA J.done.length dc (J.done.flatMap kyL)
  mp : Mp kyv w mo (es.map fun x => (x.1, .pointer (some ⟨x.2.p, 0, none⟩)))
  opn : J.opn = es.map fun x => (x.1, x.2.opn)
  ents : ∀ x ∈ es, Ent w D x.2
  dis : ∀ x ∈ es, ∀ y ∈ es, x.1 ≠ y.1 → x.2.m ≠ y.2.m
  mos : ∀ x ∈ es, x.2.m ≠ mo
  dj : D j
  dmo : D mo
  dd : ∀ k, ob dA = some k → D k
def Jo (w : World) (D : Nat → Prop) (j : Nat) (J : Jn) : Prop := ∃ mo dA dc es, JoE w D j J mo dA dc es
section
variable {S D D' : Nat → Prop} {w w' : World} {j : Nat} {J : Jn} {mo : Nat} {dA : Option Addr} {dc : Nat} {es : List (Ky × En)}
theorem JoE.ext (h : JoE w D j J mo dA dc es) (x : Ext S w w') (hS : ∀ k, D k → ¬ S k) : JoE w' D j J mo dA dc es :=
  ⟨h.ok, h.blk.ext x (hS _ h.dj), h.done.ext x (fun k hk => hS k (h.dd k hk)), h.mp.ext x (hS _ h.dmo), h.opn, fun e he => (h.ents e he).ext x hS, h.dis, h.mos, h.dj, h.dmo, h.dd⟩
theorem JoE.extN (h : JoE w D j J mo dA dc es) (x : Ext Non w w') : JoE w' D j J mo dA dc es := h.ext x (fun _ _ h => h)
theorem Jo.ext (h : Jo w D j J) (x : Ext S w w') (hS : ∀ k, D k → ¬ S k) : Jo w' D j J := let ⟨mo, dA, dc, es, h⟩ := h; ⟨mo, dA, dc, es, h.ext x hS⟩
theorem Jo.extN (h : Jo w D j J) (x : Ext Non w w') : Jo w' D j J := h.ext x (fun _ _ h => h)
theorem Jo.ok (h : Jo w D j J) : J.ok := let ⟨_, _, _, _, h⟩ := h; h.ok
theorem JoE.imp (h : JoE w D j J mo dA dc es) (hD : ∀ k, k < w.heap.size → D k → D' k) : JoE w D' j J mo dA dc es :=
  ⟨h.ok, h.blk, h.done, h.mp, h.opn, fun e he => (h.ents e he).imp hD, h.dis, h.mos, hD _ h.blk.lt h.dj, hD _ h.mp.lt h.dmo, fun k hk => hD k (h.done.lt hk).2 (h.dd k hk)⟩
theorem Jo.imp (h : Jo w D j J) (hD : ∀ k, k < w.heap.size → D k → D' k) : Jo w D' j J := let ⟨mo, dA, dc, es, h⟩ := h; ⟨mo, dA, dc, es, h.imp hD⟩
theorem JoE.apart (h : JoE w D j J mo dA dc es) : Apart es := by
  have := h.ok.apart
  rw [h.opn] at this
  unfold Apart at this ⊢
  rw [List.map_map] at this
  exact this
theorem JoE.opn_len (h : JoE w D j J mo dA dc es) : J.opn.length = es.length := by rw [h.opn, List.length_map]
end
/-- A new one. -/
theorem jo_new (w : World) (room : Int) : Jo ((w.alloc (.map #[] 0)).alloc (.cells #[.int .i64 (jn0 room).room, .map (some w.heap.size), .slice none 0 0] 94)) (fun k => w.heap.size ≤ k) (w.heap.size + 1) (jn0 room) := by
  refine ⟨w.heap.size, none, 0, [], jn0_ok room, ?_, OwO.nil _ _, (Mp.new w).alloc _, rfl, fun x hx => (by cases hx), fun x hx => (by cases hx), fun x hx => (by cases hx), Nat.le_succ _, Nat.le_refl _, fun k hk => (by cases hk)⟩
  have := Blk.new (w.alloc (.map #[] 0)) 94 #[.int .i64 (jn0 room).room, .map (some w.heap.size), .slice none 0 0]
  rwa [World.size_alloc] at this
theorem len_calls {w : World} {D : Nat → Prop} {j : Nat} {J : Jn} (h : Jo w D j J) :
    Calls Try.prog 24 #[.pointer (some ⟨j, 0, none⟩)] w fun e w' => e = .returned (.int .i64 (J.opn.length : Int)) ∧ w = w' := by
  obtain ⟨mo, dA, dc, es, h⟩ := h
  have hl := h.mp.len (P := Try.prog) Try.underlying91 3
  rw [List.length_map, ← h.opn_len] at hl
  have b1 : w.cell? ⟨j, 1, none⟩ = some (.map (some mo)) := h.blk.cell 1
  go_enter Try.func24, Try.ntmps24
  go_wp2
  go_ret
  exact ⟨rfl, rfl⟩
end Go.Proofs.Ytcdpmedmhindaaa
