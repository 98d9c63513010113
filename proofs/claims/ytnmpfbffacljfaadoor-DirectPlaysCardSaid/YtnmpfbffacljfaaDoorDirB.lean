/- Package direct: all, Find, Valid. -/
import Derived.Test.YtnmpfbffacljfaaDoorDirT
namespace Go.Proofs.YtnmpfbffacljfaaDoor
open Go.RowKit

set_option maxRecDepth 100000 in
set_option maxHeartbeats 2000000 in
theorem all_calls {w : World} {D : Nat → Prop} {d : Nat} {S : List Rc} (H : Di w D d S) {g : Nat} {cb : Array Value} {p : Rc → Bool} (hT : Tells w g cb p) :
    Calls Tryd.prog 32 #[.pointer (some ⟨d, 0, none⟩), .func (.func g) #[] cb] w fun e w' => ∃ A c, e = .returned (.slice A (S.filter p).length c) ∧ OwR w' w.heap.size A c (S.filter p) ∧ Ext Non w w' := by
  obtain ⟨b, L, hDb, B1, M1, hp⟩ := H.ex
  have c1 : w.cell? ⟨d, 0, none⟩ = some (.map (some b)) := B1.cell 0
  obtain ⟨w2, hrg, I2, x2, hs2⟩ := M1.range (P := Tryd.prog) Tryd.underlying67
  have heg := hT.enters
  go_enter Tryd.func32, Tryd.ntmps32
  go_wp2_with fail
  go_loopw [4] (fun s wr => ∃ rl acc A c, s = .slice A acc.length c ∧ OwR wr (w.heap.size + 1) A c acc ∧ It kyK wr w.heap.size b (ent L) (ent rl) ∧ (acc ++ rl.filter p).Perm (L.filter p) ∧ acc.length + rl.length ≤ L.length ∧ Ext Non w wr ∧ w.heap.size + 1 ≤ wr.heap.size) (fun _ wr => itLeft wr w.heap.size b)
  case atStart => exact ⟨L, [], none, 0, rfl, OwO.nil _ _, I2, List.Perm.refl _, by simp, x2, by omega⟩
  case round =>
    clear c1 hrg I2 x2 hs2
    obtain ⟨rl, acc, A, c, rfl, O, I, hpm, hln, X, hz⟩ := hrel
    have hL64 : L.length ≤ 64 := by have := H.sound.len; rw [hp.length_eq]; omega
    rcases I.nextR with ⟨rfl, hrun⟩ | ⟨l1, y, l2, w4, rfl, hrun, I4, x4, hen⟩
    · rw [List.filter_nil, List.append_nil] at hpm
      obtain ⟨n, hn⟩ : ∃ n, acc.length = n := ⟨_, rfl⟩
      rw [hn]
      have ctr := sort_calls O hn (by omega)
      go_wp2_with (go_at_call 48; refine ctr.mono ?_; rintro e w5 ⟨rfl, m, hm1, hm2, O5, x5⟩)
      go_ret
      have hm : m = S.filter p := in_order (hm1.trans (hpm.trans (hp.filter p))) hm2 (H.sound.filter p).srt
      subst hm
      have hl5 : (S.filter p).length = n := by rw [← hn, hm1.length_eq]
      refine ⟨A, c, by rw [hl5]; rfl, O5.lower (fun k hk => by have := (O.lt hk).1; omega), X.trans x5 (fun k hk h => by have := (O.lt h).1; omega)⟩
    · obtain ⟨v, hv⟩ : ∃ v, p y = v := ⟨_, rfl⟩
      have hfl : (l1 ++ y :: l2).filter p = l1.filter p ++ ((if v then [y] else []) ++ l2.filter p) := by
        rw [List.filter_append, List.filter_cons, hv]
        cases v <;> rfl
      have hfr : (l1 ++ l2).filter p = l1.filter p ++ l2.filter p := List.filter_append ..
      have hpm2 : ((acc ++ (if v then [y] else [])) ++ (l1 ++ l2).filter p).Perm (L.filter p) := by
        rw [hfl] at hpm
        rw [hfr]
        refine List.Perm.trans ?_ hpm
        rw [List.append_assoc]
        refine List.Perm.append_left _ ?_
        rw [← List.append_assoc, ← List.append_assoc]
        exact (List.perm_append_comm).append_right _
      have ctr := fun W (x : Ext Non w W) => hT.calls y W x
      rw [hv] at ctr
      have HP := Lib.hid hpm2
      have hln2 : acc.length + (l1.length + l2.length) + 1 ≤ L.length := by simp at hln; omega
      have hL4 := I4.left
      have hL0 := I.left
      have hml : (ent (l1 ++ l2)).length < (ent (l1 ++ y :: l2)).length := by unfold ent; simp
      clear hfl hfr hpm2 hpm hln hv
      obtain ⟨ya, yf, yu, yn⟩ := y
      unfold rcA at ctr
      unfold kyK rcA at hrun hen
      simp only at hrun hen ctr
      have hen4 := hen w4 (Ext.refl _ _)
      have X4 : Ext Non w w4 := X.trans x4 (fun k hk h => by have h : k = w.heap.size := h; omega)
      have O4 := O.ext x4 (fun k hk h => by have := (O.lt hk).1; have h : k = w.heap.size := h; omega)
      have hsz4 := x4.size
      go_upto_region 4 with (fail)
      clear hrun hen4 hen
      have Y5 := Blk.new w4 37 #[.int .u16 ya, .int .u32 yf, .int .u32 yu, .int .u32 yn]
      have x45 := (Ext.refl Non w4).alloc (.cells #[.int .u16 ya, .int .u32 yf, .int .u32 yu, .int .u32 yn] 37)
      have I5 := I4.extN x45
      have O5 := O4.extN x45
      have X5 := X4.transN x45
      have hsz5 := x45.size
      clear x45
      generalize w4.alloc (.cells #[.int .u16 ya, .int .u32 yf, .int .u32 yu, .int .u32 yn] 37) = w5 at *
      obtain ⟨y0, y1, y2, y3⟩ := rc_cells Y5
      have ct5 := ctr w5 X5
      cases v
      · go_wp2_with (with_reducible refine Calls.mono ct5 ?_; rintro e w6 ⟨rfl, x6⟩)
        refine ⟨⟨l1 ++ l2, acc, A, c, rfl, O5.extN x6, I5.extN x6, by simpa using HP.out, by simp; omega, X5.transN x6, by have := x6.size; omega⟩, ?_⟩
        rw [(I5.extN x6).left, hL0]
        exact hml
      · obtain ⟨n, hn⟩ : ∃ n, acc.length = n := ⟨_, rfl⟩
        rw [hn]
        have hOb : ∀ k, ob A = some k → k < w5.heap.size := fun k hk => by have := (O.lt hk).2; have := O5.lt hk; omega
        go_wp2_with (first | (with_reducible refine Calls.mono ct5 ?_; rintro e w6 ⟨rfl, x6⟩; obtain ⟨y0, y1, y2, y3⟩ := rc_cells (Y5.extN_ x6); have O6 := (O5.extN x6).extN ((Ext.refl Non w6).alloc (.cells #[.int .u16 ya, .int .u32 yf, .int .u32 yu, .int .u32 yn] 37)); have B6 := Blk.new w6 37 (rcA ⟨ya, yf, yu, yn⟩); have hz6 : w.heap.size + 1 ≤ (w6.alloc (.cells #[.int .u16 ya, .int .u32 yf, .int .u32 yu, .int .u32 yn] 37)).heap.size := by (rw [World.size_alloc]; have := x6.size; omega)) | (at_builtin; refine wp_apR rfl (.tmp 19) (.tmp 21) rfl n rfl O6 hn 1 rfl B6 (by omega) hz6 ?_; intro A7 c7 w7 O7 x7 hob7))
        have x67 := ((Ext.refl Non w6).alloc (.cells #[.int .u16 ya, .int .u32 yf, .int .u32 yu, .int .u32 yn] 37))
        have hs6 := x6.size
        have I7 := ((I5.extN x6).extN x67).ext x7 (fun h => by have := (O.lt h).1; omega) (fun h => by have := (O.lt h).1; have := M1.lt; omega)
        have X7 : Ext Non w w7 := ((X5.transN x6).transN x67).trans x7 (fun k hk h => by have := (O.lt h).1; omega)
        refine ⟨⟨l1 ++ l2, _, A7, c7, by rw [List.length_append, hn]; rfl, O7, I7, HP.out, by simp; omega, X7, by have := x7.size; omega⟩, ?_⟩
        rw [I7.left, hL0]
        exact hml

theorem run_makeFunc (fn : Fn) (first cap : Array Value) (w : World) : (Instr.makeFunc fn first cap).run Tryd.prog w = .ok (.func fn first cap) w := rfl
theorem valid_calls {w : World} {D : Nat → Prop} {d : Nat} {S : List Rc} (H : Di w D d S) (e : Nat) (T : List Rc) (hT : S.filter (fun r => r.has e) = T) (n : Nat) (hn : T.length = n) :
    Calls Tryd.prog 22 #[.pointer (some ⟨d, 0, none⟩), .int .u32 e] w fun e' w' => ∃ A c, e' = .returned (.slice A n c) ∧ OwR w' w.heap.size A c T ∧ Ext Non w w' := by
  subst hT hn
  have hmf := run_makeFunc
  have X1 := (Ext.refl Non w).alloc (.cells #[.int .u32 e] 35)
  have ctr := all_calls (H.extN X1) (tells_valid (Blk.new w 35 #[.int .u32 e]))
  go_enter Tryd.func22, Tryd.ntmps22
  go_wp2_with (go_at_call 32; refine ctr.mono ?_; rintro e w5 ⟨A, c, rfl, O5, x5⟩)
  go_ret
  exact ⟨A, c, rfl, O5.lower (fun k hk => by have := (O5.lt hk).1; rw [World.size_alloc] at this; omega), X1.transN x5⟩
/-- A node's record of an epoch. -/
def dfnd (S : List Rc) (a e : Nat) : Option Rc := (S.filter fun r => decide (r.ad = a) && r.has e).head?
theorem Blk.results2 {P : Program} {w : World} {g : Nat} {t : TypeId} {cs : Array Value} (hb : Blk w g t cs) {fn : Func} {p u : Tmp} {ty : TypeId} {d : TypeDesc} (h : fn.results = #[.cell p ty, .tmp u]) (tmps : Array Value) (v : Value) (hp : tmps.getD p undef = .pointer (some ⟨g, 0, none⟩)) (hv : tmps.getD u undef = v)
    (hu : P.underlying ty = some d) (hd : d.isRow = true) (hi : (P.info? ty).map (·.size) = some cs.size) : (Go.results fn tmps).run P w = .ok (.tuple #[.agg cs, v]) w := by
  rw [results_cell_tmp h, hp, hv]
  have e := run_loadVar_row w g t ty cs (0, 0) d hb hu (by cases d <;> simp_all [TypeDesc.isRow]) hi
  simp [asAddr, e]
theorem rc_froz {w : World} {g : Nat} {t : TypeId} {cs : Array Value} (B : Blk w g t cs) : w.frozen? ⟨g, 0, none⟩ = false ∧ w.frozen? ⟨g, 1, none⟩ = false ∧ w.frozen? ⟨g, 2, none⟩ = false ∧ w.frozen? ⟨g, 3, none⟩ = false :=
  ⟨B.frozen 0, B.frozen 1, B.frozen 2, B.frozen 3⟩
/-- A record's block, written over. -/
theorem rc_set {w : World} {g : Nat} {t : TypeId} {v0 v1 v2 v3 : Value} (B : Blk w g t #[v0, v1, v2, v3]) (u0 u1 u2 u3 : Value) :
    Blk ((((w.setCell ⟨g, 0, none⟩ u0).setCell ⟨g, 1, none⟩ u1).setCell ⟨g, 2, none⟩ u2).setCell ⟨g, 3, none⟩ u3) g t #[u0, u1, u2, u3] := by
  have := (((B.set_ 0 u0).set_ 1 u1).set_ 2 u2).set_ 3 u3
  simpa using this
theorem rc_ext {v w : World} {S : Nat → Prop} (X : Ext S v w) {g : Nat} (hg : v.heap.size ≤ g ∨ S g) (u0 u1 u2 u3 : Value) : Ext S v ((((w.setCell ⟨g, 0, none⟩ u0).setCell ⟨g, 1, none⟩ u1).setCell ⟨g, 2, none⟩ u2).setCell ⟨g, 3, none⟩ u3) :=
  (((X.setCell (p := ⟨g, 0, none⟩) hg u0).setCell (p := ⟨g, 1, none⟩) hg u1).setCell (p := ⟨g, 2, none⟩) hg u2).setCell (p := ⟨g, 3, none⟩) hg u3
set_option maxRecDepth 100000 in
set_option maxHeartbeats 2000000 in
theorem find_calls {w : World} {D : Nat → Prop} {d : Nat} {S : List Rc} (H : Di w D d S) (a e : Nat) (q : Option Rc) (hq : dfnd S a e = q) :
    Calls Tryd.prog 19 #[.pointer (some ⟨d, 0, none⟩), .int .u16 a, .int .u32 e] w fun e' w' => e' = .returned (.tuple #[.agg (rcA (q.getD rc0)), .bool q.isSome]) ∧ Ext Non w w' := by
  have hmf := run_makeFunc
  have X1 := (((Ext.refl Non w).alloc (.cells #[.int .u16 a] 25)).alloc (.cells #[.int .u32 e] 35)).alloc (.cells #[.int .u16 0, .int .u32 0, .int .u32 0, .int .u32 0] 37)
  have B0 := ((Blk.new w 25 #[.int .u16 a]).alloc (.cells #[.int .u32 e] 35)).alloc (.cells #[.int .u16 0, .int .u32 0, .int .u32 0, .int .u32 0] 37)
  have B1 := (Blk.new (w.alloc (.cells #[.int .u16 a] 25)) 35 #[.int .u32 e]).alloc (.cells #[.int .u16 0, .int .u32 0, .int .u32 0, .int .u32 0] 37)
  have B2 := Blk.new ((w.alloc (.cells #[.int .u16 a] 25)).alloc (.cells #[.int .u32 e] 35)) 37 #[.int .u16 0, .int .u32 0, .int .u32 0, .int .u32 0]
  rw [World.size_alloc, World.size_alloc] at B2
  rw [World.size_alloc] at B1
  have ctr := all_calls (H.extN X1) (tells_found B0 B1)
  unfold dfnd at hq
  generalize S.filter (fun r => decide (r.ad = a) && r.has e) = l at *
  have HQ := Lib.hid hq
  clear hq B0 B1
  go_enter Tryd.func19, Tryd.ntmps19
  go_upto_region 1 with (fail)
  generalize ((w.alloc (.cells #[.int .u16 a] 25)).alloc (.cells #[.int .u32 e] 35)).alloc (.cells #[.int .u16 0, .int .u32 0, .int .u32 0, .int .u32 0] 37) = w1 at *
  rcases l with _ | ⟨y, l⟩
  · obtain rfl : q = none := HQ.out.symm
    simp only [List.length_nil] at ctr
    go_wp2_with (go_at_call 32; refine ctr.mono ?_; rintro e w5 ⟨A, c, rfl, O5, x5⟩; obtain ⟨c0, c1, c2, c3⟩ := rc_cells (B2.extN_ x5); obtain ⟨f0, f1, f2, f3⟩ := rc_froz (B2.extN_ x5))
    have B5 := rc_set (B2.extN_ x5) (.int .u16 0) (.int .u32 0) (.int .u32 0) (.int .u32 0)
    exact bodyPost_ret (B5.results2 Tryd.results19 _ _ rfl rfl Tryd.underlying37 rfl (by kernel_rfl)) rfl ⟨rfl, rc_ext (X1.transN x5) (.inl (by omega)) _ _ _ _⟩
  · obtain rfl : q = some y := HQ.out.symm
    have i1 : ¬ ((l.length : Int) + 1 = 0) := by omega
    have i2 : (0 : Int) < (l.length : Int) + 1 := by omega
    simp only [List.length_cons] at ctr
    obtain ⟨ya, yf, yu, yn⟩ := y
    go_wp2_with (go_at_call 32; refine ctr.mono ?_; rintro e w5 ⟨A, c, rfl, O5, x5⟩; obtain ⟨hA, g, o, ha, hog, e0, e1, e2, e3⟩ := O5.at_ 0 (by simp); obtain ⟨c0, c1, c2, c3⟩ := rc_cells (B2.extN_ x5); obtain ⟨f0, f1, f2, f3⟩ := rc_froz (B2.extN_ x5))
    have B5 := rc_set (B2.extN_ x5) (.int .u16 ya) (.int .u32 yf) (.int .u32 yu) (.int .u32 yn)
    exact bodyPost_ret (B5.results2 Tryd.results19 _ _ rfl rfl Tryd.underlying37 rfl (by kernel_rfl)) rfl ⟨rfl, rc_ext (X1.transN x5) (.inl (by omega)) _ _ _ _⟩
end Go.Proofs.YtnmpfbffacljfaaDoor
