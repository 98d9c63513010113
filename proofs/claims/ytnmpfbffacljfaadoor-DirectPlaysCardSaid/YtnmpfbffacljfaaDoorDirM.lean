/- Package direct: a directory in memory; New, Len, Add. -/
import Derived.Test.YtnmpfbffacljfaaDoorDirA
namespace Go.Proofs.YtnmpfbffacljfaaDoor
open Go.RowKit

/-! ### keys of records, as keys of maps -/
def kyK (k : Nat × Nat) : Value := .agg #[.int .u16 k.1, .int .u32 k.2]
set_option maxRecDepth 100000 in
theorem equalIn_kd (w : World) (a b : Nat × Nat) : (Op.equalIn 10000 71 (kyK a) (kyK b)).run Tryd.prog w = .ok (decide (a = b)) w := by
  obtain ⟨a1, a2⟩ := a
  obtain ⟨b1, b2⟩ := b
  unfold kyK
  go_simp
  simp only [Prod.mk.injEq, Int.natCast_inj]
  by_cases h1 : a1 = b1 <;> by_cases h2 : a2 = b2 <;> simp [h1, h2]
theorem chk_int (b : Bool) (n : Nat) (t : TypeId) (k : IntKind) (x : Int) (h : Tryd.prog.underlying t = some (.int k)) (w : World) : (Instr.checkKey b (n + 1) t (.int k x)).run Tryd.prog w = .ok () w := by
  simp [Instr.checkKey, run_underlying h]
set_option maxRecDepth 100000 in
theorem ke_kd : KE Tryd.prog 71 kyK where
  chk b k w := by
    obtain ⟨a1, a2⟩ := k
    have e1 := fun x w => chk_int b 9998 35 .u32 x Tryd.underlying35 w
    have e2 := fun x w => chk_int b 9998 25 .u16 x Tryd.underlying25 w
    show (Instr.checkKey b (9999 + 1) _ _).run _ _ = _
    unfold kyK Instr.checkKey
    simp only [Sem.run_bind, run_underlying Tryd.underlying71, Result.andThen_ok]
    go_simp
  eq a b w := equalIn_kd w a b
  und := ⟨_, Tryd.underlying71, fun a b => .inl rfl⟩
  same k := by
    obtain ⟨a1, a2⟩ := k
    simp [Instr.sameBits, kyK]

/-- The map's entries. -/
def ent (L : List Rc) : List ((Nat × Nat) × Value) := L.map fun r => ((r.ad, r.fr), .agg (rcA r))
/-- A directory in memory: its block, its map's. -/
structure Di (w : World) (D : Nat → Prop) (d : Nat) (S : List Rc) : Prop where
  dj : D d
  ex : ∃ b L, D b ∧ Blk w d 69 #[.map (some b)] ∧ Mp kyK w b (ent L) ∧ L.Perm S
  sound : Sound S
section
variable {S : Nat → Prop} {D D' : Nat → Prop} {w w' : World} {d : Nat} {T : List Rc}
theorem Di.ext (h : Di w D d T) (x : Ext S w w') (hS : ∀ k, D k → ¬ S k) : Di w' D d T := by
  obtain ⟨b, L, h1, h2, h3, h4⟩ := h.ex
  exact ⟨h.dj, ⟨b, L, h1, h2.ext x (hS d h.dj), h3.ext x (hS b h1), h4⟩, h.sound⟩
theorem Di.extN (h : Di w D d T) (x : Ext Non w w') : Di w' D d T := h.ext x (fun _ _ h => h)
theorem Di.imp (h : Di w D d T) (hD : ∀ k, k < w.heap.size → D k → D' k) : Di w D' d T := by
  obtain ⟨b, L, h1, h2, h3, h4⟩ := h.ex
  exact ⟨hD d h2.lt h.dj, ⟨b, L, hD b h3.lt h1, h2, h3, h4⟩, h.sound⟩
theorem Di.lt (h : Di w D d T) : d < w.heap.size := by
  obtain ⟨b, L, h1, h2, h3, h4⟩ := h.ex
  exact h2.lt
theorem Blk.keepM {κ : Type} {enc : κ → Value} {m g : Nat} {t : TypeId} {cs : Array Value} {L : List (κ × Value)} (h : Blk w g t cs) (M : Mp enc w m L) (x : Ext (One m) w w') : Blk w' g t cs := h.ext x (fun hh => M.ne_blk h hh.symm)
end
theorem rc_cells {w : World} {g a b u l : Nat} {t : TypeId} (B : Blk w g t #[.int .u16 a, .int .u32 b, .int .u32 u, .int .u32 l]) :
    w.cell? ⟨g, 0, none⟩ = some (.int .u16 a) ∧ w.cell? ⟨g, 1, none⟩ = some (.int .u32 b) ∧ w.cell? ⟨g, 2, none⟩ = some (.int .u32 u) ∧ w.cell? ⟨g, 3, none⟩ = some (.int .u32 l) :=
  ⟨B.cell 0, B.cell 1, B.cell 2, B.cell 3⟩

theorem new_calls (w : World) :
    Calls Tryd.prog 14 #[] w fun e w' => ∃ d, e = .returned (.pointer (some ⟨d, 0, none⟩)) ∧ Di w' (fun k => w.heap.size ≤ k ∧ k < w'.heap.size) d [] ∧ Ext Non w w' := by
  have hmm := @run_makeMap Tryd.prog
  have M : Mp kyK (w.alloc (.map #[] 0)) w.heap.size (ent []) := Mp.new w
  have M2 := M.alloc (.cells #[.map (some w.heap.size)] 69)
  have B := Blk.new (w.alloc (.map #[] 0)) 69 #[.map (some w.heap.size)]
  rw [World.size_alloc] at B
  go_enter Tryd.func14, Tryd.ntmps14
  go_wp2
  go_ret
  refine ⟨w.heap.size + 1, rfl, ⟨?_, ⟨w.heap.size, [], ?_, B, M2, List.Perm.refl _⟩, Sound.nil⟩, ((Ext.refl _ _).alloc _).alloc _⟩
  · simp only [World.size_alloc]; omega
  · simp only [World.size_alloc]; omega
theorem len_calls {w : World} {D : Nat → Prop} {d : Nat} {S : List Rc} (H : Di w D d S) (n : Nat) (hn : S.length = n) :
    Calls Tryd.prog 18 #[.pointer (some ⟨d, 0, none⟩)] w fun e w' => e = .returned (.int .i64 (n : Int)) ∧ w = w' := by
  subst hn
  obtain ⟨b, L, h1, B, M, hp⟩ := H.ex
  have c0 : w.cell? ⟨d, 0, none⟩ = some (.map (some b)) := B.cell 0
  have hl := M.len (P := Tryd.prog) Tryd.underlying67 3
  rw [show (ent L).length = S.length by rw [ent, List.length_map, hp.length_eq]] at hl
  clear H B M
  go_enter Tryd.func18, Tryd.ntmps18
  go_wp2
  go_ret
  exact ⟨rfl, rfl⟩

/-- The loop's step, in records. -/
theorem It.nextR {w : World} {r b : Nat} {L rl : List Rc} (h : It kyK w r b (ent L) (ent rl)) :
    (rl = [] ∧ ∀ ty, (Instr.next (.pointer (some ⟨r, 0, none⟩)) false ty).run Tryd.prog w = .ok (.tuple #[.bool false]) w) ∨
    ∃ r1 y r2 w', rl = r1 ++ y :: r2 ∧ (∀ ty, (Instr.next (.pointer (some ⟨r, 0, none⟩)) false ty).run Tryd.prog w = .ok (.tuple #[.bool true, kyK (y.ad, y.fr), .agg (rcA y)]) w') ∧ It kyK w' r b (ent L) (ent (r1 ++ r2)) ∧ Ext (One r) w w' ∧
      ∀ W, Ext Non w' W → (Instr.entry (.pointer (some ⟨r, 0, none⟩))).run Tryd.prog W = .ok (.tuple #[kyK (y.ad, y.fr), .agg (rcA y)]) W := by
  rcases h.next Tryd.prog with ⟨h0, h1⟩ | ⟨l1, x, l2, w', h0, h1, h2, h3, h4⟩
  · left
    refine ⟨?_, h1⟩
    unfold ent at h0
    simpa using h0
  · right
    have h0' : (l1 ++ x :: l2).map id = rl.map (fun r => ((r.ad, r.fr), Value.agg (rcA r))) := by rw [List.map_id, ← h0]; rfl
    obtain ⟨m1, y, m2, rfl, e1, e2, e3⟩ := map_cut id _ l1 x l2 rl h0'
    have e1 : x = ((y.ad, y.fr), Value.agg (rcA y)) := e1
    subst e1
    rw [List.map_id] at e2 e3
    refine ⟨m1, y, m2, w', rfl, h1, ?_, h3, h4⟩
    rw [show ent (m1 ++ m2) = l1 ++ l2 by rw [e2, e3]; unfold ent; rw [List.map_append]]
    exact h2
theorem any_perm {L S : List Rc} (h : L.Perm S) (p : Rc → Bool) : L.any p = S.any p := by
  rw [Bool.eq_iff_iff, List.any_eq_true, List.any_eq_true]
  exact ⟨fun ⟨x, hx, hp⟩ => ⟨x, h.mem_iff.1 hx, hp⟩, fun ⟨x, hx, hp⟩ => ⟨x, h.mem_iff.2 hx, hp⟩⟩

set_option maxRecDepth 100000 in
set_option maxHeartbeats 2000000 in
theorem add_calls {w : World} {D : Nat → Prop} {d : Nat} {S : List Rc} (H : Di w D d S) (r : Rc) (hok : r.ok) :
    Calls Tryd.prog 15 #[.pointer (some ⟨d, 0, none⟩), .agg (rcA r)] w fun e w' => e = .returned (.int .i64 (dire S r : Nat)) ∧ Di w' D d (dirl S r) ∧ Ext D w w' := by
  obtain ⟨ra, rf, ru, rn⟩ := r
  unfold rcA
  simp only
  have X1 := (Ext.refl Non w).alloc (.cells #[.int .u16 ra, .int .u32 rf, .int .u32 ru, .int .u32 rn] 37)
  have R1 := Blk.new w 37 #[.int .u16 ra, .int .u32 rf, .int .u32 ru, .int .u32 rn]
  have H1 := H.extN X1
  obtain ⟨z, hz⟩ : ∃ z, dire S ⟨ra, rf, ru, rn⟩ = z := ⟨_, rfl⟩
  obtain ⟨T, hT⟩ : ∃ T, dirl S ⟨ra, rf, ru, rn⟩ = T := ⟨_, rfl⟩
  rw [hz, hT]
  have HZ := Lib.hid hz
  have HT := Lib.hid hT
  clear hz hT
  by_cases hf : (⟨ra, rf, ru, rn⟩ : Rc).fine = true
  case neg =>
    have hde : dire S ⟨ra, rf, ru, rn⟩ = 1 := by unfold dire; rw [if_neg hf]
    have hdl : dirl S ⟨ra, rf, ru, rn⟩ = S := by unfold dirl; rw [hde]; rfl
    obtain rfl : z = 1 := by rw [← HZ.out, hde]
    obtain rfl : T = S := by rw [← HT.out, hdl]
    simp only [Rc.fine, decide_eq_true_eq, Classical.not_and_iff_not_or_not, Nat.not_lt, Nat.not_le] at hf
    by_cases h16 : 16 ≤ ra
    · have i1 : (16 : Int) ≤ (ra : Int) := by omega
      go_enter Tryd.func15, Tryd.ntmps15
      go_wp2_with fail
      go_ret
      exact ⟨rfl, H1, X1.imp (fun _ _ h => h.elim)⟩
    · have i1 : ¬ (16 : Int) ≤ (ra : Int) := by omega
      have i2 : (ru : Int) < (rf : Int) := by omega
      go_enter Tryd.func15, Tryd.ntmps15
      go_wp2_with fail
      go_ret
      exact ⟨rfl, H1, X1.imp (fun _ _ h => h.elim)⟩
  case pos =>
    obtain ⟨b, L, hDb, B1, M1, hp⟩ := H1.ex
    have hf' := hf
    simp only [Rc.fine, decide_eq_true_eq] at hf'
    have i1 : ¬ (16 : Int) ≤ (ra : Int) := by omega
    have i2 : ¬ (ru : Int) < (rf : Int) := by omega
    have c1 : (w.alloc (.cells #[.int .u16 ra, .int .u32 rf, .int .u32 ru, .int .u32 rn] 37)).cell? ⟨d, 0, none⟩ = some (.map (some b)) := B1.cell 0
    obtain ⟨w2, hrg, I2, x2, hs2⟩ := M1.range (P := Tryd.prog) Tryd.underlying67
    rw [World.size_alloc] at hrg I2 hs2
    have X2 := X1.transN x2
    have R2 := R1.extN_ x2
    have H2 := H1.extN x2
    go_enter Tryd.func15, Tryd.ntmps15
    go_wp2_with fail
    obtain ⟨d0, d1, d2, d3⟩ := rc_cells R2
    go_loopw [6] (fun _ wr => ∃ rl, It kyK wr (w.heap.size + 1) b (ent L) (ent rl) ∧ (∀ x ∈ L, clash x ⟨ra, rf, ru, rn⟩ = true → x ∈ rl) ∧ (∀ x ∈ rl, x ∈ L) ∧ Ext (One (w.heap.size + 1)) w2 wr) (fun _ wr => itLeft wr (w.heap.size + 1) b)
    case atStart => exact ⟨L, I2, fun x hx _ => hx, fun x hx => hx, Ext.refl _ _⟩
    case round =>
      obtain ⟨rl, I, hcl, hsub, x3⟩ := hrel
      have hd3 : d ≠ w.heap.size + 1 := by have := H.lt; omega
      have hb3 : b ≠ w.heap.size + 1 := by have := M1.lt; rw [World.size_alloc] at this; omega
      rcases I.nextR with ⟨rfl, hrun⟩ | ⟨l1, y, l2, w4, rfl, hrun, I4, x4, hen⟩
      · have hnc : ∀ x ∈ S, clash x ⟨ra, rf, ru, rn⟩ = false := fun x hx => by
          rw [← Bool.not_eq_true]
          exact fun h => nomatch hcl x (hp.mem_iff.2 hx) h
        have X3 : Ext Non w wr := X2.trans x3 (fun k hk h => by have h : k = w.heap.size + 1 := h; omega)
        have B3 := (B1.extN_ x2).ext x3 hd3
        have R3 := R2.ext x3 (fun h => by have h : w.heap.size = w.heap.size + 1 := h; omega)
        have c3 : wr.cell? ⟨d, 0, none⟩ = some (.map (some b)) := B3.cell 0
        have hlen := I.mp.len (P := Tryd.prog) Tryd.underlying67 3
        rw [show (ent L).length = S.length by rw [ent, List.length_map, hp.length_eq]] at hlen
        obtain ⟨e0, e1, e2, e3⟩ := rc_cells R3
        have M3 := I.mp
        clear R2 R1 B1 H1 X1 X2 x2 d0 d1 d2 d3 c1 I I2
        by_cases h64 : 64 ≤ S.length
        · have i3 : (64 : Int) ≤ (S.length : Int) := by omega
          have hde : dire S ⟨ra, rf, ru, rn⟩ = 8 := by
            unfold dire
            rw [if_pos hf, if_neg (by rw [Bool.not_eq_true, List.any_eq_false]; intro x hx; simp [hnc x hx]), if_pos h64]
          have hdl : dirl S ⟨ra, rf, ru, rn⟩ = S := by unfold dirl; rw [hde]; rfl
          obtain rfl : z = 8 := by rw [← HZ.out, hde]
          obtain rfl : T = S := by rw [← HT.out, hdl]
          go_wp2_with fail
          go_ret
          exact ⟨rfl, ⟨H.dj, ⟨b, L, hDb, B3, M3, hp⟩, H.sound⟩, X3.imp (fun _ _ h => h.elim)⟩
        · have i3 : ¬ (64 : Int) ≤ (S.length : Int) := by omega
          have hde : dire S ⟨ra, rf, ru, rn⟩ = 0 := dire_of hf hnc (by omega)
          have hdl : dirl S ⟨ra, rf, ru, rn⟩ = ins ⟨ra, rf, ru, rn⟩ S := by unfold dirl; rw [hde]; rfl
          obtain rfl : z = 0 := by rw [← HZ.out, hde]
          obtain rfl : T = ins ⟨ra, rf, ru, rn⟩ S := by rw [← HT.out, hdl]
          have hso := H.sound.ins hok hde
          go_upto_region 10 with (fail)
          clear hlen c3 e0 e1 e2 e3
          have c4 := fun W (x : Ext (One b) wr.drew W) => (B3.drew.keepM M3.drew x).cell 0
          have e4 := fun W (x : Ext (One b) wr.drew W) => rc_cells (R3.drew.keepM M3.drew x)
          refine wp_region_seq (One b) ((0, true) :: (1, true) :: (2, true) :: (3, true) :: (4, true) :: (6, true) :: (5, false) :: (7, false) :: []) (by kernel_rfl) (by kernel_rfl) (by kernel_rfl) ?_
          iterate 6 (refine wpSeq_quiet rfl rfl ?_; apply Exists.intro; refine ⟨?_, ?_⟩; (intro W hW; have c5 := c4 W hW; obtain ⟨e0, e1, e2, e3⟩ := e4 W hW; go_simp; try with_reducible rfl); (intro K hK; simp only [Act.put, List.setIfInBounds_toArray, List.set_cons_zero, List.set_cons_succ]; refine hK _ ?_; clear hK K))
          clear c4 e4
          refine wpSeq_call rfl rfl (fun K hK => ?_)
          go_simp
          have ctr := key_calls wr.drew ra rf ru rn
          with_reducible refine Calls.mono ctr ?_
          clear ctr
          rintro e w4 ⟨rfl, x4⟩
          go_simp
          refine hK _ _ x4.ext.offN ?_
          clear hK K
          have M4 := M3.drew.extN x4.ext
          obtain ⟨w5, hrun5, M5, x5⟩ := M4.update ke_kd Tryd.underlying67 (ra, rf) (.agg #[.int .u16 ra, .int .u32 rf, .int .u32 ru, .int .u32 rn])
          unfold kyK at hrun5
          simp only at hrun5
          refine wpSeq_call rfl rfl (fun K hK => ?_)
          go_simp
          refine hK _ _ x5 ?_
          clear hK K hrun5
          refine wpSeq_end ?_
          go_wp2_with fail
          go_ret
          have hnew : lkp (ra, rf) (ent L) = none := by
            rw [lkp_none]
            intro hm
            unfold ent at hm
            rw [List.map_map, List.mem_map] at hm
            obtain ⟨x, hx, he⟩ := hm
            have he : (x.ad, x.fr) = (ra, rf) := he
            simp only [Prod.mk.injEq] at he
            have := hnc x (hp.mem_iff.1 hx)
            rw [clash_key (H.sound.fine x (hp.mem_iff.1 hx)) hf he] at this
            cases this
          rw [mput_new _ hnew] at M5
          have M6 : Mp kyK w5 b (ent (L ++ [⟨ra, rf, ru, rn⟩])) := by
            unfold ent at M5 ⊢
            rw [List.map_append]
            exact M5
          refine ⟨rfl, ⟨H.dj, ⟨b, _, hDb, (B3.drew.extN_ x4.ext).keepM M4 x5, M6, ?_⟩, hso⟩, ?_⟩
          · exact (List.perm_append_comm (l₁ := L) (l₂ := [_])).trans (((hp.cons _)).trans (ins_perm _ S).symm)
          · exact (X3.drew.transN x4.ext).imp (fun _ _ h => h.elim) |>.trans x5 (fun k hk h => by have h : k = b := h; rw [h]; exact hDb)
      · obtain ⟨ya, yf, yu, yn⟩ := y
        simp only at hrun hen
        unfold kyK rcA at hrun hen
        simp only at hrun hen
        have hen4 := hen w4 (Ext.refl _ _)
        have hL4 := I4.left
        have hL0 := I.left
        have hyL : (⟨ya, yf, yu, yn⟩ : Rc) ∈ L := hsub _ (by simp)
        have hyS := hp.mem_iff.1 hyL
        have hr3 := x3.trans x4 (fun k hk h => h)
        have hsz3 := hr3.size
        go_upto_region 6 with (fail)
        clear hrun hen4 hen
        have Y5 := Blk.new w4 37 #[.int .u16 ya, .int .u32 yf, .int .u32 yu, .int .u32 yn]
        have I5 := I4.extN ((Ext.refl Non w4).alloc (.cells #[.int .u16 ya, .int .u32 yf, .int .u32 yu, .int .u32 yn] 37))
        have x5 := hr3.alloc (.cells #[.int .u16 ya, .int .u32 yf, .int .u32 yu, .int .u32 yn] 37)
        have R5 := R2.ext x5 (fun h => by have h : w.heap.size = w.heap.size + 1 := h; omega)
        generalize w4.alloc (.cells #[.int .u16 ya, .int .u32 yf, .int .u32 yu, .int .u32 yn] 37) = w5 at *
        obtain ⟨y0, y1, y2, y3⟩ := rc_cells Y5
        obtain ⟨r0, r1, r2, r3⟩ := rc_cells R5
        have X5 : Ext D w w5 := X2.trans x5 (fun k hk h => by have h : k = w.heap.size + 1 := h; omega) |>.imp (fun _ _ h => h.elim)
        have B5 := (B1.extN_ x2).ext x5 hd3
        have i12 : clash ⟨ya, yf, yu, yn⟩ ⟨ra, rf, ru, rn⟩ = true → z = 12 := fun h => by
          rw [← HZ.out]
          unfold dire
          rw [if_pos hf, if_pos (List.any_eq_true.2 ⟨_, hyS, h⟩)]
        have iT : z = 12 → T = S := fun h => by
          rw [← HT.out]
          unfold dirl
          rw [HZ.out, h]
          rfl
        have hback : clash ⟨ya, yf, yu, yn⟩ ⟨ra, rf, ru, rn⟩ = false → (∀ x ∈ L, clash x ⟨ra, rf, ru, rn⟩ = true → x ∈ l1 ++ l2) := fun h x hx hc => by
          have := hcl x hx hc
          rw [List.mem_append, List.mem_cons] at this
          rw [List.mem_append]
          rcases this with h1 | rfl | h1
          · exact .inl h1
          · rw [h] at hc; cases hc
          · exact .inr h1
        have hsub2 : ∀ x ∈ l1 ++ l2, x ∈ L := fun x hx => hsub x (by rw [List.mem_append] at hx ⊢; rw [List.mem_cons]; rcases hx with h | h; exact .inl h; exact .inr (.inr h))
        have hml : (ent (l1 ++ l2)).length < (ent (l1 ++ (⟨ya, yf, yu, yn⟩ : Rc) :: l2)).length := by unfold ent; simp
        have I12 := Lib.hid i12
        have IT := Lib.hid iT
        have HB := Lib.hid hback
        clear i12 iT hback hcl
        unfold clash Rc.has at I12 HB
        simp only at I12 HB
        have ct1 := fun W => has_calls W ya yf yu yn rf _ rfl
        have ct2 := fun W => has_calls W ra rf ru rn yf _ rfl
        clear R2 R1 B1 H1 H2 X1 X2 x2 d0 d1 d2 d3 c1 I I2 I4 x4 x3 hr3
        by_cases ha : ya = ra
        · subst ha
          simp only [decide_true, Bool.true_and] at I12 HB
          generalize decide (yf ≤ rf ∧ rf ≤ yu) = v1 at *
          generalize decide (rf ≤ yf ∧ yf ≤ ru) = v2 at *
          cases v1
          · cases v2
            · go_wp2_with (first | (go_at_call 29; with_reducible refine (ct1 _).mono ?_; rintro e w6 ⟨rfl, x6⟩; obtain ⟨y0, y1, y2, y3⟩ := rc_cells (Y5.extN_ x6.ext); obtain ⟨r0, r1, r2, r3⟩ := rc_cells (R5.extN_ x6.ext)) | (go_at_call 29; with_reducible refine (ct2 _).mono ?_; rintro e w7 ⟨rfl, x7⟩))
              refine ⟨⟨l1 ++ l2, I5.extN (x6.ext.transN x7.ext), HB.out rfl, hsub2, x5.transN (x6.ext.transN x7.ext)⟩, ?_⟩
              rw [(I5.extN (x6.ext.transN x7.ext)).left, hL0]
              exact hml
            · obtain rfl : z = 12 := I12.out rfl
              obtain rfl : T = S := IT.out rfl
              go_wp2_with (first | (go_at_call 29; with_reducible refine (ct1 _).mono ?_; rintro e w6 ⟨rfl, x6⟩; obtain ⟨y0, y1, y2, y3⟩ := rc_cells (Y5.extN_ x6.ext); obtain ⟨r0, r1, r2, r3⟩ := rc_cells (R5.extN_ x6.ext)) | (go_at_call 29; with_reducible refine (ct2 _).mono ?_; rintro e w7 ⟨rfl, x7⟩))
              go_ret
              exact ⟨rfl, ⟨H.dj, ⟨b, L, hDb, B5.extN_ (x6.ext.transN x7.ext), I5.mp.extN (x6.ext.transN x7.ext), hp⟩, H.sound⟩, X5.transN (x6.ext.transN x7.ext)⟩
          · obtain rfl : z = 12 := I12.out rfl
            obtain rfl : T = S := IT.out rfl
            go_wp2_with (first | (go_at_call 29; with_reducible refine (ct1 _).mono ?_; rintro e w6 ⟨rfl, x6⟩; obtain ⟨y0, y1, y2, y3⟩ := rc_cells (Y5.extN_ x6.ext); obtain ⟨r0, r1, r2, r3⟩ := rc_cells (R5.extN_ x6.ext)) | (go_at_call 29; with_reducible refine (ct2 _).mono ?_; rintro e w7 ⟨rfl, x7⟩))
            go_ret
            exact ⟨rfl, ⟨H.dj, ⟨b, L, hDb, B5.extN_ x6.ext, I5.mp.extN x6.ext, hp⟩, H.sound⟩, X5.transN x6.ext⟩
        · have i4 : ¬ (ya : Int) = (ra : Int) := by omega
          go_wp2_with fail
          refine ⟨⟨l1 ++ l2, I5.extN (Ext.refl _ _), HB.out (by simp [ha]), hsub2, x5.transN (Ext.refl _ _)⟩, ?_⟩
          rw [(I5.extN (Ext.refl _ _)).left, hL0]
          exact hml
end Go.Proofs.YtnmpfbffacljfaaDoor
