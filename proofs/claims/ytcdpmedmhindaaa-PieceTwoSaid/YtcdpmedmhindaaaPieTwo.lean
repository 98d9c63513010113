/- The law PieceTwo: messages do not mix. -/
import Derived.Test.YtcdpmedmhindaaaPieG
import Derived.Test.YtcdpmedmhindaaaPieMm
import Derived.StillTailTactics
import Derived.Deep.DeepCutAuto
namespace Go.Proofs.Ytcdpmedmhindaaa
open Go.RowKit

def K2 (k : Nat) : Ky := (k, 1, 2)
theorem K2_inj (a b : Nat) (_ha : a < 2) (_hb : b < 2) (h : K2 a = K2 b) : a = b := by
  unfold K2 at h
  injection h
def f2 (M : Nat → List UInt8) (t : Nat → Nat) (q : Nat) : Bool := decide (t q = cnt (M q))
def d2 (M : Nat → List UInt8) (t : Nat → Nat) : Nat := (if t 0 = cnt (M 0) then 1 else 0) + (if t 1 = cnt (M 1) then 1 else 0)
abbrev MmT (J : Jn) (M : Nat → List UInt8) (t : Nat → Nat) : Prop := Mm J 2 K2 M (fun q => List.range (t q)) (f2 M t) (d2 M t)
section
variable {J : Jn} {M : Nat → List UInt8} {t : Nat → Nat} {q N : Nat}
theorem two_take (h : MmT J M t) (hq : q < 2) (hm : (M q).length ≤ 4096) (hN : cnt (M q) = N) (ht : t q < N) :
    ∃ J' om, (jtake J ⟨1, q, 1, 2, (t q : Int), (N : Int), pce (M q) (t q)⟩ = (J', 0, om) ∧ ((om = none ∧ t q + 1 < N) ∨ (om = some (M q) ∧ t q + 1 = N))) ∧ MmT J' M (up t q (t q + 1)) := by
  subst hN
  have hf : f2 M t q = false := decide_eq_false (by omega)
  by_cases hl : t q + 1 < cnt (M q)
  · obtain ⟨J', h1, h2⟩ := h.more K2_inj hq (rfl : K2 q = (q, 1, 2)) hm hf (i := t q) ht (by simp) (by simpa using hl)
    refine ⟨J', none, ⟨h1, .inl ⟨rfl, hl⟩⟩, h2.ext' (fun r hr => ?_) (fun r hr _ => ?_) ?_⟩
    · unfold f2 up
      by_cases e : r = q
      · subst e
        rw [if_pos rfl]
        congr 1
        apply propext
        omega
      · rw [if_neg e]
    · unfold up
      by_cases e : r = q
      · subst e
        rw [if_pos rfl, if_pos rfl, List.range_succ]
      · rw [if_neg e, if_neg e]
    · unfold d2 up
      match q, hq with
      | 0, _ => simp only [if_pos, if_neg (show ¬ (1 : Nat) = 0 from by decide)]; (repeat' split) <;> omega
      | 1, _ => simp only [if_pos, if_neg (show ¬ (0 : Nat) = 1 from by decide)]; (repeat' split) <;> omega
  · have he : t q + 1 = cnt (M q) := by omega
    obtain ⟨J', h1, h2⟩ := h.last K2_inj hq (rfl : K2 q = (q, 1, 2)) hm hf (i := t q) ht (by simp) List.nodup_range (fun x hx => by have := List.mem_range.1 hx; omega) (by simpa using he) (by unfold d2; (repeat' split) <;> omega)
    refine ⟨J', some (M q), ⟨h1, .inr ⟨rfl, he⟩⟩, h2.ext' (fun r hr => ?_) (fun r hr hf => ?_) ?_⟩
    · unfold f2 up
      by_cases e : r = q
      · subst e
        rw [if_pos rfl, if_pos rfl, decide_eq_true he]
      · rw [if_neg e, if_neg e]
    · unfold up at hf ⊢
      by_cases e : r = q
      · rw [if_pos e] at hf
        cases hf
      · rw [if_neg e]
    · unfold d2 up
      match q, hq with
      | 0, _ => simp only [if_pos, if_neg (show ¬ (1 : Nat) = 0 from by decide)]; (repeat' split) <;> omega
      | 1, _ => simp only [if_pos, if_neg (show ¬ (0 : Nat) = 1 from by decide)]; (repeat' split) <;> omega
theorem two_new (M : Nat → List UInt8) (h0 : 1 ≤ cnt (M 0)) (h1 : 1 ≤ cnt (M 1)) : MmT (jn0 2) M (fun _ => 0) := by
  refine (Mm.new 2 (by decide) K2 M).ext' (fun q hq => ?_) (fun q hq _ => rfl) (Nat.zero_le _)
  unfold f2
  match q, hq with
  | 0, _ => exact decide_eq_false (by show ¬ 0 = cnt (M 0); omega)
  | 1, _ => exact decide_eq_false (by show ¬ 0 = cnt (M 1); omega)
theorem two_end (h : MmT J M t) (h0 : t 0 = cnt (M 0)) (h1 : t 1 = cnt (M 1)) : J.opn.length = 0 := h.none_left (fun q hq => by
  unfold f2
  match q, hq with
  | 0, _ => exact decide_eq_true h0
  | 1, _ => exact decide_eq_true h1)
end
set_option maxRecDepth 100000 in
theorem OwA.one {w : World} {base : Nat} {A : Option Addr} {c : Nat} {ls : List (List UInt8)} (h : OwA w base A c ls) (hl : 0 < ls.length) :
    OwA w base (if c = 1 then A else A.map fun x => ⟨x.block, x.off + 256, none⟩) (c - 1) (ls.drop 1) := by
  have hle := h.own.le
  have hmx := h.own.max
  rcases h.own.ex with ⟨_, hc⟩ | ⟨g, off, cur, rfl, h1, h2, h3, h4⟩
  · omega
  · by_cases hc : c = 1
    · rw [if_pos hc]
      have e : ls.drop 1 = [] := List.drop_of_length_le (by omega)
      rw [e, hc]
      exact ⟨fun _ hx => (by cases hx), rfl, Nat.le_refl _, by simp [maxLen], .inr ⟨g, off, cur, rfl, h1, h2, by omega, rfl⟩⟩
    · rw [if_neg hc]
      match ls, hl, h with
      | s :: l, _, h =>
        have hs : s.length = 256 := h.each s List.mem_cons_self
        have := h.own.drop 1 (by simp) rfl (by omega)
        refine ⟨fun x hx => h.each x (List.mem_cons_of_mem _ hx), ?_⟩
        have e : (bvs (s :: l).flatten).drop (1 * 256) = bvs ((s :: l).drop 1).flatten := by
          unfold bvs
          rw [← List.map_drop, List.flatten_cons, List.drop_append_of_le_length (by omega), List.drop_of_length_le (by omega)]
          rfl
        rw [e] at this
        have e2 : ((s :: l).drop 1).length = (s :: l).length - 1 := by simp
        rw [e2]
        have e3 : (Option.map (fun x : Addr => (⟨x.block, x.off + 256, none⟩ : Addr)) (some ⟨g, off, none⟩)) = (some (⟨g, off, none⟩ : Addr)).map (·.add (1 * 256)) := by
          show some (⟨g, off + 256, none⟩ : Addr) = some ((⟨g, off, none⟩ : Addr).add (1 * 256))
          rw [addr_add]
        rw [e3]
        exact this
theorem up_sum (t : Nat → Nat) (k : Nat) (hk : k < 2) : up t k (t k + 1) 0 + up t k (t k + 1) 1 = t 0 + t 1 + 1 := by
  match k, hk with
  | 0, _ => show t 0 + 1 + t 1 = _; omega
  | 1, _ => show t 0 + (t 1 + 1) = _; omega
theorem up_le (t N : Nat → Nat) (k : Nat) (hk : k < 2) (h : t 0 ≤ N 0 ∧ t 1 ≤ N 1) (hl : t k < N k) : up t k (t k + 1) 0 ≤ N 0 ∧ up t k (t k + 1) 1 ≤ N 1 := by
  match k, hk with
  | 0, _ => exact ⟨hl, h.2⟩
  | 1, _ => exact ⟨h.1, hl⟩
theorem set2 (v : Nat → Value) (q : Nat) (hq : q < 2) (x : Value) : (#[v 0, v 1] : Array Value).setIfInBounds q x = #[up v q x 0, up v q x 1] := by
  match q, hq with
  | 0, _ => rfl
  | 1, _ => rfl
theorem get2 (v : Nat → Value) (q : Nat) (hq : q < 2) : (#[v 0, v 1] : Array Value)[q]? = some (v q) := by
  match q, hq with
  | 0, _ => rfl
  | 1, _ => rfl
set_option maxRecDepth 100000 in
set_option maxHeartbeats 4000000 in
theorem two_walk (A0 : Option Addr) (n0 c0 : Nat) (l0 : List UInt8) (A1 : Option Addr) (n1 c1 : Nat) (l1 : List UInt8) (A2 : Option Addr) (n2 c2 : Nat) (w : World) (hn0 : l0.length = n0) (hc0 : n0 ≤ c0) (hm0 : c0 ≤ maxLen) (r0 : Rd w (· < w.heap.size) A0 (bvs l0))
    (hn1 : l1.length = n1) (hc1 : n1 ≤ c1) (hm1 : c1 ≤ maxLen) (r1 : Rd w (· < w.heap.size) A1 (bvs l1))
    (ht : n2 ≤ maxLen ∧ ∀ i, i < n2 → A2.isSome = true ∧ ∃ b, w.cell? ((A2.getD default).add i) = some (.bool b)) :
    Calls Try.prog 7 #[.slice A0 n0 c0, .slice A1 n1 c1, .slice A2 n2 c2] w fun e w' => e = .returned (.bool true) ∧ Below w.heap.size w w' := by
  obtain ⟨k0, hk0, hk0a, hk0b, _⟩ := min_at n0 2000 (by omega)
  obtain ⟨k1, hk1, hk1a, hk1b, _⟩ := min_at n1 2000 (by omega)
  have kc0 : k0 ≤ c0 := by omega
  have kc1 : k1 ≤ c1 := by omega
  go_enter Try.func7, Try.ntmps7
  go_wp2_with fail
  have ctr := shown_calls w
  with_reducible refine Calls.mono ctr ?_
  clear ctr
  rintro e w1 ⟨rfl, X1⟩
  go_wp2_with fail
  refine wp_region_seqP (Ext Non w1) ((0, true) :: (1, true) :: (2, true) :: (3, true) :: (4, true) :: (5, true) :: (6, true) :: (7, true) :: (8, true) :: (9, true) :: (10, true) :: (11, false) :: (12, false) :: []) (by kernel_rfl) (by kernel_rfl) (by kernel_rfl) (Ext.refl Non w1).drew ?_
  iterate 11 (refine wpSeqP_quiet rfl rfl ?_; apply Exists.intro; refine ⟨?_, ?_⟩; (intro W hW; go_simp; try with_reducible rfl); (intro K hK; simp only [Act.put, List.setIfInBounds_toArray, List.set_cons_zero, List.set_cons_succ]; refine hK _ ?_; clear hK K))
  refine wpSeqP_call rfl rfl (fun K hK => ?_)
  go_simp
  refine hK _ _ ((Ext.refl Non w1).drew.alloc _) ?_
  clear hK K
  refine wpSeqP_call rfl rfl (fun K hK => ?_)
  go_simp
  refine hK _ _ ((Ext.refl Non w1).drew.alloc _) ?_
  clear hK K
  refine wpSeqP_end ?_
  go_wp2_with fail
  have Bg := (Blk.new w1 66 #[.slice A0 k0 c0, .slice A1 k1 c1]).alloc (.cells #[.slice none 0 0, .slice none 0 0] 67)
  have Bl := Blk.new (w1.alloc (.cells #[.slice A0 k0 c0, .slice A1 k1 c1] 66)) 67 #[.slice none 0 0, .slice none 0 0]
  rw [World.size_alloc] at Bl
  have X2 := ((X1.alloc (.cells #[.slice A0 k0 c0, .slice A1 k1 c1] 66)).alloc (.cells #[.slice none 0 0, .slice none 0 0] 67)).drew
  have hs1 := X1.size
  have hs2 : ((w1.alloc (.cells #[.slice A0 k0 c0, .slice A1 k1 c1] 66)).alloc (.cells #[.slice none 0 0, .slice none 0 0] 67)).heap.size = w1.heap.size + 2 := by rw [World.size_alloc, World.size_alloc]
  generalize (w1.alloc (.cells #[.slice A0 k0 c0, .slice A1 k1 c1] 66)).alloc (.cells #[.slice none 0 0, .slice none 0 0] 67) = w2 at *
  obtain ⟨g, hg⟩ : ∃ g, w1.heap.size = g := ⟨_, rfl⟩
  rw [hg] at Bg Bl hs1 hs2
  simp only [hg]
  clear hg
  obtain ⟨AA, kk, cc, M, ⟨e1, e2, e3⟩, ⟨e4, e5, e6⟩, H⟩ : ∃ (AA : Nat → Option Addr) (kk cc : Nat → Nat) (M : Nat → List UInt8), (AA 0 = A0 ∧ kk 0 = k0 ∧ cc 0 = c0) ∧ (AA 1 = A1 ∧ kk 1 = k1 ∧ cc 1 = c1) ∧
      ∀ q, q < 2 → (M q).length = kk q ∧ kk q ≤ cc q ∧ cc q ≤ maxLen ∧ Rd w (· < w.heap.size) (AA q) (bvs (M q)) ∧ (M q).length ≤ 4096 := by
    refine ⟨fun q => if q = 0 then A0 else A1, fun q => if q = 0 then k0 else k1, fun q => if q = 0 then c0 else c1, fun q => if q = 0 then l0.take k0 else l1.take k1, ⟨rfl, rfl, rfl⟩, ⟨rfl, rfl, rfl⟩, fun q hq => ?_⟩
    have ta : ∀ (l : List UInt8) (k : Nat), bvs (l.take k) = (bvs l).take k := fun l k => by simp [bvs, List.map_take]
    match q, hq with
    | 0, _ => exact ⟨by show (l0.take k0).length = k0; rw [List.length_take]; omega, kc0, hm0, by show Rd w _ A0 (bvs (l0.take k0)); rw [ta]; exact r0.take k0, by show (l0.take k0).length ≤ 4096; rw [List.length_take]; omega⟩
    | 1, _ => exact ⟨by show (l1.take k1).length = k1; rw [List.length_take]; omega, kc1, hm1, by show Rd w _ A1 (bvs (l1.take k1)); rw [ta]; exact r1.take k1, by show (l1.take k1).length ≤ 4096; rw [List.length_take]; omega⟩
  have cg : ∀ q, q < 2 → ∀ W, Blk W g 66 #[.slice A0 k0 c0, .slice A1 k1 c1] → W.cell? ⟨g, q, none⟩ = some (.slice (AA q) (kk q) (cc q)) := fun q hq W h => by
    rw [h.cell q]
    match q, hq with
    | 0, _ => rw [e1, e2, e3]; rfl
    | 1, _ => rw [e4, e5, e6]; rfl
  obtain ⟨NN, hNN⟩ : ∃ NN : Nat → Nat, ∀ q, cnt (M q) = NN q := ⟨_, fun q => rfl⟩
  have cf : ∀ q, q < 2 → 1 ≤ NN q ∧ NN q ≤ 17 := fun q hq => by
    have := cnt_facts (M q) (H q hq).2.2.2.2
    rw [hNN] at this
    exact ⟨this.1, this.2.1⟩
  clear e1 e2 e3 e4 e5 e6 r0 r1 hk0 hk1 hn0 hn1 kc0 kc1 hc0 hc1 hm0 hm1 X1 hk0a hk0b hk1a hk1b
  go_loopw [10] (fun z wr => ∃ (t : Nat) (lv : Nat → Value), t ≤ 2 ∧ z = .int .i64 t ∧ Blk wr g 66 #[.slice A0 k0 c0, .slice A1 k1 c1] ∧ Blk wr (g + 1) 67 #[lv 0, lv 1] ∧ Ext Non w wr ∧ g + 2 ≤ wr.heap.size ∧ ∀ q, q < t → ∃ A c, lv q = .slice A (NN q) c ∧ OwA wr (g + 2) A c (pcbs q 1 2 (M q) (NN q))) (fun z _ => 2 - (intOf z).toNat)
  case atStart => exact ⟨0, fun _ => .slice none 0 0, by omega, rfl, Bg.drew, Bl.drew, X2, by show g + 2 ≤ w2.heap.size; omega, fun q hq => by omega⟩
  case round =>
    clear Bg Bl X2
    obtain ⟨t, lv, ht2, rfl, Bg, Bl, X, hgw, hO⟩ := hrel
    by_cases hlt : t < 2
    · have i1 : (t : Int) < 2 := by omega
      obtain ⟨hM, hkc, hcm, rM, hm4⟩ := H t hlt
      have gc := cg t hlt wr Bg
      go_wp2_with fail
      clear gc
      have hws := X.size
      have ctr := split_x (m := M t) (cc t) (kk t) t 1 2 (rM.extN X) (fun b hb => by have h : b < w.heap.size := hb; omega) hM hm4 (by omega) hcm (by omega) (by decide) (by decide) rfl rfl rfl (NN t) (hNN t)
      with_reducible refine Calls.mono ctr ?_
      clear ctr
      rintro e w3 ⟨A3, d3, rfl, O3, x3⟩
      have X3 := X.transN x3
      have Bg3 := Bg.extN_ x3
      have Bl3 := Bl.extN_ x3
      have hs3 := x3.size
      have hO3 : ∀ q, q < t → ∃ A c, lv q = .slice A (NN q) c ∧ OwA w3 (g + 2) A c (pcbs q 1 2 (M q) (NN q)) := fun q hq => by
        obtain ⟨A, c, e, o⟩ := hO q hq
        exact ⟨A, c, e, o.extN x3⟩
      have O3' := O3.lower (base' := g + 2) (fun b hb => by have := (O3.lt hb).1; omega)
      have cl0 := Bl3.cell t
      rw [get2 lv t hlt] at cl0
      have fz := Bl3.frozen t
      have Bl4 := Bl3.set_ t (.slice A3 (NN t) d3)
      rw [set2 lv t hlt] at Bl4
      have Y4 := (Ext.refl (One (g + 1)) w3).setCell (p := ⟨g + 1, t, none⟩) (.inr rfl) (.slice A3 (NN t) d3)
      have X4 : Ext Non w (w3.setCell ⟨g + 1, t, none⟩ (.slice A3 (NN t) d3)) := X3.setCell (p := ⟨g + 1, t, none⟩) (.inl (by show w.heap.size ≤ g + 1; omega)) (.slice A3 (NN t) d3)
      have Bg4 := Bg3.ext Y4 (fun h => by have h : g = g + 1 := h; omega)
      clear Bg Bl X x3 hO O3 X3 Bg3 Bl3
      go_wp2_with fail
      refine ⟨⟨t + 1, up lv t (.slice A3 (NN t) d3), by omega, by go_num, Bg4, Bl4, X4, by rw [World.size_setCell]; omega, fun q hq => ?_⟩, by simp [intOf]; omega⟩
      by_cases e : q = t
      · subst e
        exact ⟨A3, d3, by unfold up; rw [if_pos rfl], O3'.ext Y4 (fun b hb h => by
          have h : b = g + 1 := h
          have := (O3'.lt hb).1
          omega)⟩
      · obtain ⟨A, c, e1, o⟩ := hO3 q (by omega)
        exact ⟨A, c, by unfold up; rw [if_neg e]; exact e1, o.ext Y4 (fun b hb h => by
          have h : b = g + 1 := h
          have := (o.lt hb).1
          omega)⟩
    · obtain rfl : t = 2 := by omega
      rw [show ((2 : Nat) : Int) = (2 : Int) from rfl]
      obtain ⟨B0, d0, lv0, O0⟩ := hO 0 (by decide)
      obtain ⟨B1, d1, lv1, O1⟩ := hO 1 (by decide)
      rw [lv0, lv1] at Bl
      clear hO ht2 hlt lv0 lv1
      have hws := X.size
      go_wp2_with fail
      have ctr := new_calls wr 2
      with_reducible refine Calls.mono ctr ?_
      clear ctr
      rintro e w3 ⟨j, rfl, J0, x3⟩
      have X3 := X.transN x3
      have Bg3 := Bg.extN_ x3
      have Bl3 := Bl.extN_ x3
      have hs3 := x3.size
      have O03 := O0.extN x3
      have O13 := O1.extN x3
      have hb0 : ∀ b, ob B0 = some b → b < wr.heap.size := fun b hb => (O0.lt hb).2
      have hb1 : ∀ b, ob B1 = some b → b < wr.heap.size := fun b hb => (O1.lt hb).2
      clear Bg Bl X O0 O1 x3
      go_wp2_with fail
      obtain ⟨b0, hbb⟩ : ∃ b, wr.heap.size = b := ⟨_, rfl⟩
      rw [hbb] at hs3 J0 hb0 hb1
      have hwb : w.heap.size ≤ b0 := by omega
      have hgb : g + 2 ≤ b0 := by omega
      clear hbb hws hgw
      have M0 := two_new M (by rw [hNN]; exact (cf 0 (by decide)).1) (by rw [hNN]; exact (cf 1 (by decide)).1)
      go_loopw [14] (fun z wr => ∃ (i : Nat) (t : Nat → Nat) (D : Nat → Prop) (J : Jn) (BB : Nat → Option Addr) (dd : Nat → Nat), z = .int .i64 i ∧ i = t 0 + t 1 ∧ (t 0 ≤ NN 0 ∧ t 1 ≤ NN 1) ∧
        Blk wr g 66 #[.slice A0 k0 c0, .slice A1 k1 c1] ∧ Blk wr (g + 1) 67 #[.slice (BB 0) (NN 0 - t 0) (dd 0), .slice (BB 1) (NN 1 - t 1) (dd 1)] ∧
        (∀ q, q < 2 → OwA wr (g + 2) (BB q) (dd q) ((pcbs q 1 2 (M q) (NN q)).drop (t q)) ∧ ∀ b, ob (BB q) = some b → b < b0) ∧ Ext Non w wr ∧ MmT J M t ∧ Jo wr D j J ∧ (∀ b, D b → b0 ≤ b ∧ b < wr.heap.size) ∧ b0 ≤ wr.heap.size) (fun z _ => NN 0 + NN 1 - (intOf z).toNat)
      case atStart =>
        refine ⟨0, fun _ => 0, _, _, fun q => if q = 0 then B0 else B1, fun q => if q = 0 then d0 else d1, rfl, rfl, ⟨Nat.zero_le _, Nat.zero_le _⟩, Bg3, Bl3, fun q hq => ?_, X3, M0, J0, fun b hb => hb, hs3⟩
        match q, hq with
        | 0, _ => exact ⟨O03, hb0⟩
        | 1, _ => exact ⟨O13, hb1⟩
      case round =>
        clear M0 Bg3 Bl3 O03 O13 X3 J0 hs3 hb0 hb1 B0 B1 d0 d1
        obtain ⟨i, t, D, J, BB, dd, rfl, hit, ⟨ht0, ht1⟩, Bg, Bl, hO, X, M0, J0, hD, hbw⟩ := hrel
        obtain ⟨rr, hrr⟩ : ∃ rr : Nat → Nat, ∀ q, rr q = NN q - t q := ⟨fun q => NN q - t q, fun q => rfl⟩
        rw [← hrr 0, ← hrr 1] at Bl
        have hr0 := hrr 0
        have hr1 := hrr 1
        have cf0 := cf 0 (by decide)
        have cf1 := cf 1 (by decide)
        have cl0 : wr.cell? ⟨g + 1, 0, none⟩ = some (.slice (BB 0) (rr 0) (dd 0)) := Bl.cell 0
        have cl1 : wr.cell? ⟨g + 1, 1, none⟩ = some (.slice (BB 1) (rr 1) (dd 1)) := Bl.cell 1
        have hri : NN 0 + NN 1 - i = rr 0 + rr 1 := by omega
        have hr17 : rr 0 ≤ 17 ∧ rr 1 ≤ 17 := by omega
        have htle : t 0 ≤ NN 0 ∧ t 1 ≤ NN 1 := ⟨ht0, ht1⟩
        clear hr0 hr1 cf0 cf1 ht0 ht1 hit
        by_cases hz : rr 0 + rr 1 = 0
        · have i1 : ¬ 0 < (rr 0 : Int) + (rr 1 : Int) := by omega
          have hz0 : NN 0 ≤ t 0 ∧ NN 1 ≤ t 1 := by
            have := hrr 0
            have := hrr 1
            omega
          clear hri hrr
          go_wp2_with fail
          have ctr := len_calls J0
          with_reducible refine Calls.mono ctr ?_
          clear ctr
          rintro e wz ⟨rfl, rfl⟩
          have hl : J.opn.length = 0 := two_end M0 (by rw [hNN]; omega) (by rw [hNN]; omega)
          go_wp2_with fail
          go_ret
          exact ⟨rfl, X.belowN⟩
        · have i1 : 0 < (rr 0 : Int) + (rr 1 : Int) := by omega
          obtain ⟨bb, hbb⟩ : ∃ bb : Bool, ((i : Int) < (n2 : Int) ∧ A2.isSome = true ∧ wr.cell? ((A2.getD default).add i) = some (.bool bb)) ∨ (¬ (i : Int) < (n2 : Int) ∧ bb = false) := by
            by_cases h : i < n2
            · obtain ⟨h1, b, h2⟩ := ht.2 i h
              exact ⟨b, .inl ⟨by omega, h1, X.cell h2 (fun h => h)⟩⟩
            · exact ⟨false, .inr ⟨by omega, rfl⟩⟩
          have HRI := Lib.hid hri
          have HRR := Lib.hid hrr
          clear hri hrr
          go_upto_region 18 with (fail)
          go_cut [73] (fun s wc => s = .bool bb ∧ wr = wc)
          case first =>
            rcases hbb with ⟨h1, h2, h3⟩ | ⟨h1, rfl⟩
            · go_wp2_with fail
              go_meet
              case rel => exact ⟨rfl, rfl⟩
            · go_wp2_with fail
              go_meet
              case rel => exact ⟨rfl, rfl⟩
          case rest =>
            obtain ⟨rfl, rfl⟩ := hcut
            clear hbb
            go_upto_if 73 with (fail)
            go_cut [15] (fun s wc => ∃ k : Nat, k < 2 ∧ s = .int .i64 k ∧ wr = wc)
            case first =>
              cases bb
              · go_wp2_with fail
                go_meet
                case rel => exact ⟨0, by decide, rfl, rfl⟩
              · go_wp2_with fail
                go_meet
                case rel => exact ⟨1, by decide, rfl, rfl⟩
            case rest =>
              obtain ⟨kz, hkz, rfl, rfl⟩ := hcut
              have ckz : wr.cell? ⟨g + 1, kz, none⟩ = some (.slice (BB kz) (rr kz) (dd kz)) := by
                match kz, hkz with
                | 0, _ => exact cl0
                | 1, _ => exact cl1
              have hkz2 : (kz : Int) < 2 := by omega
              go_upto_if 78 with (fail)
              go_cut [15] (fun s wc => ∃ k : Nat, k < 2 ∧ 0 < rr k ∧ s = .int .i64 k ∧ wr = wc)
              case first =>
                by_cases hk0 : rr kz = 0
                · have ik0 : ((rr kz : Int) == 0) = true := by rw [hk0]; rfl
                  have ik1 : (1 : Int) - (kz : Int) = ((1 - kz : Nat) : Int) := by omega
                  go_wp2_with fail
                  go_meet
                  case rel => exact ⟨1 - kz, by omega, by
                    match kz, hkz with
                    | 0, _ => show 0 < rr 1; omega
                    | 1, _ => show 0 < rr 0; omega, by rw [← ik1], rfl⟩
                · have ik0 : ((rr kz : Int) == 0) = false := by rw [beq_eq_false_iff_ne]; omega
                  go_wp2_with fail
                  go_meet
                  case rel => exact ⟨kz, hkz, by omega, rfl, rfl⟩
              case rest =>
                obtain ⟨k, hk, hrk, rfl, rfl⟩ := hcut
                clear ckz hkz hkz2 kz
                have ck : wr.cell? ⟨g + 1, k, none⟩ = some (.slice (BB k) (rr k) (dd k)) := by
                  match k, hk with
                  | 0, _ => exact cl0
                  | 1, _ => exact cl1
                have ikk : (k : Int) < 2 := by omega
                have irk : 0 < (rr k : Int) := by omega
                obtain ⟨O, hOb⟩ := hO k hk
                have hlr := HRR.out k
                have hle := O.own.le
                obtain ⟨ls, hls⟩ : ∃ ls, (pcbs k 1 2 (M k) (NN k)).drop (t k) = ls := ⟨_, rfl⟩
                have hll : ls.length = rr k := by rw [← hls, List.length_drop, pcbs_len, hlr]
                rw [hls] at O
                rw [hls, hll] at hle
                have htk : t k < NN k := by omega
                obtain ⟨hA, ld⟩ := O.load 0 (by omega)
                have hl0 : ls[0]'(by omega) = pcb (mpc k 1 2 (M k) (t k)) := by
                  have : ls[0]? = some (pcb (mpc k 1 2 (M k) (t k))) := by
                    rw [← hls, List.getElem?_drop, Nat.add_zero, List.getElem?_eq_getElem (by rw [pcbs_len]; exact htk), pcbs_get]
                  rw [List.getElem?_eq_getElem (by omega)] at this
                  exact Option.some.inj this
                rw [hl0] at ld
                have ld' : (bigLoad 35 (.pointer (some ((BB k).getD default)))).run Try.prog wr = .ok (.agg (ba (pcb (mpc k 1 2 (M k) (t k))))) wr := ld
                clear ld hl0 hlr hll
                go_wp2_with fail
                clear ld' hA
                obtain ⟨hM, hkc, hcm, rM, hm4⟩ := H k hk
                obtain ⟨q, hq⟩ : ∃ q, (pce (M k) (t k)).length = q := ⟨_, rfl⟩
                have hq244 : q ≤ 244 := by rw [← hq, pce_len]; omega
                have hk232 : k < 4294967296 := by omega
                have ctr := parse_mpc wr k 1 2 hk232 (by decide) (by decide) (m := M k) hm4 (t k) (by rw [hNN]; exact htk) rfl rfl rfl q (NN k) hq (hNN k)
                with_reducible refine Calls.mono ctr ?_
                clear ctr
                rintro e w4 ⟨A4, c4, rfl, O4, x4⟩
                have Bp := Blk.new w4 45 #[.int .i64 1, .int .u32 k, .int .u16 1, .int .u16 2, .int .i64 (t k : Int), .int .i64 (NN k : Int), .slice A4 q c4]
                have Y5 := (Ext.refl Non w4).alloc (.cells #[.int .i64 1, .int .u32 k, .int .u16 1, .int .u16 2, .int .i64 (t k : Int), .int .i64 (NN k : Int), .slice A4 q c4] 45)
                have O5 := O4.extN Y5
                have Y := x4.transN Y5
                have Bg5 := Bg.extN_ Y
                have Bl5 := Bl.extN_ Y
                have X5 := X.transN Y
                have J5 := J0.extN Y
                have hs5 := Y.size
                have hq4 := O4.len
                rw [hq] at hq4
                have hO5 : ∀ r, r < 2 → OwA (w4.alloc (.cells #[.int .i64 1, .int .u32 k, .int .u16 1, .int .u16 2, .int .i64 (t k : Int), .int .i64 (NN k : Int), .slice A4 q c4] 45)) (g + 2) (BB r) (dd r) ((pcbs r 1 2 (M r) (NN r)).drop (t r)) ∧ ∀ b, ob (BB r) = some b → b < b0 := fun r hr => ⟨(hO r hr).1.extN Y, (hO r hr).2⟩
                have ck5 := Y.cell ck (fun h => h)
                have fz5 := Bl5.frozen k
                have hpg : g + 1 < w4.heap.size := (Bl.extN_ x4).lt
                clear O4 x4 Y5 X J0 Bg Bl hO cl0 cl1 ck Y
                go_upto_region 23 with (fail)
                generalize w4.alloc (.cells #[.int .i64 1, .int .u32 k, .int .u16 1, .int .u16 2, .int .i64 (t k : Int), .int .i64 (NN k : Int), .slice A4 q c4] 45) = w5 at *
                generalize w4.heap.size = gp at *
                have i1c : (1 : Int) ≤ (rr k : Int) := by omega
                have i1d : (rr k : Int) ≤ (dd k : Int) := by omega
                have i1e : (1 : Int) ≤ (dd k : Int) := by omega
                go_upto_region 24 with (fail)
                clear i1c i1d i1e ck5 fz5
                generalize hB' : (if dd k = 1 then BB k else Option.map (fun x => (⟨x.block, x.off + 256, none⟩ : Addr)) (BB k)) = B'
                have hBo : ob B' = ob (BB k) := by
                  rw [← hB']
                  split
                  · rfl
                  · cases BB k <;> rfl
                have HB := Lib.hid hB'
                clear hB'
                have Y6 := (Ext.refl (One (g + 1)) w5).setCell (p := ⟨g + 1, k, none⟩) (.inr rfl) (.slice B' (rr k - 1) (dd k - 1))
                have X6 : Ext Non w (w5.setCell ⟨g + 1, k, none⟩ (.slice B' (rr k - 1) (dd k - 1))) := X5.setCell (p := ⟨g + 1, k, none⟩) (.inl (by show w.heap.size ≤ g + 1; omega)) (.slice B' (rr k - 1) (dd k - 1))
                have Bg6 := Bg5.ext Y6 (fun h => by have h : g = g + 1 := h; omega)
                have Bp6 := Bp.ext Y6 (fun h => by have h : gp = g + 1 := h; omega)
                have O6 := O5.ext Y6 (fun b hb h => by have h : b = g + 1 := h; have := (O5.lt hb).1; omega)
                have J6 := J5.ext Y6 (fun b hb h => by have h : b = g + 1 := h; have := (hD _ hb).1; omega)
                have Bl6 := Bl5.set_ k (.slice B' (rr k - 1) (dd k - 1))
                have hup : ∀ r, up (fun q => Value.slice (BB q) (rr q) (dd q)) k (.slice B' (rr k - 1) (dd k - 1)) r = .slice (up BB k B' r) (NN r - up t k (t k + 1) r) (up dd k (dd k - 1) r) := fun r => by
                  unfold up
                  have h1 := HRR.out k
                  have h2 := HRR.out r
                  by_cases e : r = k
                  · subst e
                    rw [if_pos rfl, if_pos rfl, if_pos rfl, if_pos rfl, h1]
                    congr 1
                  · rw [if_neg e, if_neg e, if_neg e, if_neg e]
                    show Value.slice (BB r) (rr r) (dd r) = _
                    rw [h2]
                have set2' := set2 (fun q => Value.slice (BB q) (rr q) (dd q)) k hk (.slice B' (rr k - 1) (dd k - 1))
                have Bl6' : Blk (w5.setCell ⟨g + 1, k, none⟩ (.slice B' (rr k - 1) (dd k - 1))) (g + 1) 67 #[.slice (up BB k B' 0) (NN 0 - up t k (t k + 1) 0) (up dd k (dd k - 1) 0), .slice (up BB k B' 1) (NN 1 - up t k (t k + 1) 1) (up dd k (dd k - 1) 1)] := by
                  rw [← hup 0, ← hup 1, ← set2']
                  exact Bl6
                have hO6 : ∀ r, r < 2 → OwA (w5.setCell ⟨g + 1, k, none⟩ (.slice B' (rr k - 1) (dd k - 1))) (g + 2) (up BB k B' r) (up dd k (dd k - 1) r) ((pcbs r 1 2 (M r) (NN r)).drop (up t k (t k + 1) r)) ∧ ∀ b, ob (up BB k B' r) = some b → b < b0 := fun r hr => by
                  have n1 : ∀ {b}, ob (BB r) = some b → ¬ (b = g + 1) := fun hb h => by
                    have := ((hO5 r hr).1.lt hb).1
                    omega
                  by_cases e : r = k
                  · subst e
                    unfold up
                    rw [if_pos rfl, if_pos rfl, if_pos rfl, hBo]
                    refine ⟨?_, (hO5 r hr).2⟩
                    have := ((hO5 r hr).1.ext Y6 (fun b hb h => n1 hb h)).one (by rw [List.length_drop, pcbs_len]; omega)
                    rw [List.drop_drop, HB.out] at this
                    exact this
                  · unfold up
                    rw [if_neg e, if_neg e, if_neg e]
                    exact ⟨(hO5 r hr).1.ext Y6 (fun b hb h => n1 hb h), (hO5 r hr).2⟩
                obtain ⟨J', om, htake, MJ⟩ := two_take M0 hk hm4 (hNN k) htk
                have hs6 : w5.heap.size = (w5.setCell ⟨g + 1, k, none⟩ (.slice B' (rr k - 1) (dd k - 1))).heap.size := (World.size_setCell ..).symm
                have hgp : gp < w5.heap.size := Bp.lt
                clear Bg5 Bp O5 J5 Bl5 X5 Y6 hO5 hup set2' Bl6 M0 hle O hOb
                generalize w5.setCell ⟨g + 1, k, none⟩ (.slice B' (rr k - 1) (dd k - 1)) = w6 at *
                obtain ⟨a0, a1, a2, a3, a4, a5, a6⟩ := pc_cellsR Bp6
                clear Bp6
                go_wp2_with fail
                clear a0 a1 a2 a3 a4 a5 a6
                have hisum : i + 1 = t 0 + t 1 + 1 := by
                  have h0 := HRR.out 0
                  have h1 := HRR.out 1
                  have h2 := HRI.out
                  omega
                have hilt : i < NN 0 + NN 1 := by
                  have h2 := HRI.out
                  omega
                have hi34 : (i : Int) < 100 := by
                  have h0 := (cf 0 (by decide)).2
                  have h1 := (cf 1 (by decide)).2
                  omega
                have HIS := Lib.hid hisum
                clear hisum
                obtain ⟨z, hz2⟩ : ∃ z, NN k - (t k + 1) = z := ⟨_, rfl⟩
                have ckl : ∀ W, Blk W (g + 1) 67 #[.slice (up BB k B' 0) (NN 0 - up t k (t k + 1) 0) (up dd k (dd k - 1) 0), .slice (up BB k B' 1) (NN 1 - up t k (t k + 1) 1) (up dd k (dd k - 1) 1)] → W.cell? ⟨g + 1, k, none⟩ = some (.slice B' z (dd k - 1)) := fun W h => by
                  rw [h.cell k]
                  have := get2 (fun q => Value.slice (up BB k B' q) (NN q - up t k (t k + 1) q) (up dd k (dd k - 1) q)) k hk
                  refine this.trans ?_
                  unfold up
                  simp only [if_pos, hz2]
                rcases htake with ⟨htake, ⟨rfl, hl⟩ | ⟨rfl, hl⟩⟩
                · have ctr := take_none J6 1 k 1 2 (t k : Int) (NN k : Int) (pce (M k) (t k)) 0 htake rfl rfl rfl rfl A4 c4 q hq O6.rd hq4.1 (by simp only [maxLen]; omega)
                  with_reducible refine Calls.mono ctr ?_
                  clear ctr
                  rintro e w8 ⟨D8, rfl, J8, hD8, x8⟩
                  have X8 := X6.trans x8 (fun b hb hd => by
                    have := (hD _ hd).1
                    omega)
                  have nD : ∀ {b}, b < b0 → ¬ D b := fun h hh => by
                    have := (hD _ hh).1
                    omega
                  have Bg8 := Bg6.ext x8 (nD (by omega))
                  have Bl8 := Bl6'.ext x8 (nD (by omega))
                  have hO8 := fun r hr => (⟨(hO6 r hr).1.ext x8 (fun b hb => nD ((hO6 r hr).2 b hb)), (hO6 r hr).2⟩ : _ ∧ _)
                  have hD8' : ∀ b, D8 b → b0 ≤ b ∧ b < w8.heap.size := fun b h => ⟨by
                    rcases (hD8 _ h).1 with h | h
                    · exact (hD _ h).1
                    · omega, (hD8 _ h).2⟩
                  have hs8 := x8.size
                  have Y9 := (Ext.refl Non w8).alloc (.cells #[.int .u32 0, .int .u16 0, .int .u16 0, .slice none 0 0] 55)
                  have J9 := J8.extN Y9
                  have X9 := X8.transN Y9
                  have Bg9 := Bg8.extN_ Y9
                  have Bl9 := Bl8.extN_ Y9
                  have hO9 := fun r hr => (⟨(hO8 r hr).1.extN Y9, (hO8 r hr).2⟩ : _ ∧ _)
                  have hsz9 : w8.heap.size < (w8.alloc (.cells #[.int .u32 0, .int .u16 0, .int .u16 0, .slice none 0 0] 55)).heap.size := by rw [World.size_alloc]; omega
                  go_wp2_with fail
                  have iz : ((z : Int) == 0) = false := by rw [beq_eq_false_iff_ne]; omega
                  refine wp_region_seq Non ((0, true) :: (1, true) :: (2, true) :: (3, true) :: (4, true) :: (5, true) :: (6, true) :: (7, true) :: (8, true) :: (9, true) :: (10, true) :: (11, true) :: (12, true) :: (13, true) :: (14, true) :: (15, true) :: (16, true) :: (17, true) :: (18, true) :: (19, true) :: (20, true) :: (21, true) :: (22, true) :: (23, true) :: (24, true) :: (25, true) :: (26, true) :: (27, true) :: (28, true) :: (29, true) :: (30, true) :: (31, true) :: (32, true) :: (33, true) :: (34, true) :: []) (by kernel_rfl) (by kernel_rfl) (by kernel_rfl) ?_
                  iterate 18 (refine wpSeq_quiet rfl rfl ?_; apply Exists.intro; refine ⟨?_, ?_⟩; (intro W hW; have g1 := ckl W ((Bl9.drew).extN_ hW); go_simp; try with_reducible rfl); (intro K hK; simp only [Act.put, List.setIfInBounds_toArray, List.set_cons_zero, List.set_cons_succ]; refine hK _ ?_; clear hK K))
                  iterate 15 (refine wpSeq_skip rfl rfl (fun K hK => ?_); simp only [Act.put, List.setIfInBounds_toArray, List.set_cons_zero, List.set_cons_succ]; refine hK _ ?_; clear hK K)
                  iterate 2 (refine wpSeq_quiet rfl rfl ?_; apply Exists.intro; refine ⟨?_, ?_⟩; (intro W hW; go_simp; try with_reducible rfl); (intro K hK; simp only [Act.put, List.setIfInBounds_toArray, List.set_cons_zero, List.set_cons_succ]; refine hK _ ?_; clear hK K))
                  refine wpSeq_end ?_
                  go_wp2_with fail
                  exact ⟨⟨i + 1, up t k (t k + 1), D8, J', up BB k B', up dd k (dd k - 1), by go_num, by rw [up_sum t k hk, ← HIS.out], up_le t NN k hk htle htk, Bg9.drew, Bl9.drew, fun r hr => ⟨(hO9 r hr).1.extN (Ext.refl Non _).drew, (hO9 r hr).2⟩, X9.drew, MJ, J9.extN (Ext.refl Non _).drew, fun b h => ⟨(hD8' b h).1, by have := (hD8' b h).2; show b < (w8.alloc (.cells #[.int .u32 0, .int .u16 0, .int .u16 0, .slice none 0 0] 55)).heap.size; omega⟩, by show b0 ≤ (w8.alloc (.cells #[.int .u32 0, .int .u16 0, .int .u16 0, .slice none 0 0] 55)).heap.size; omega⟩, by simp [intOf]; omega⟩
                · have ctr := take_some J6 1 k 1 2 (t k : Int) (NN k : Int) (pce (M k) (t k)) (M k) htake rfl rfl rfl A4 c4 q hq O6.rd hq4.1 (by simp only [maxLen]; omega) (kk k) hM
                  with_reducible refine Calls.mono ctr ?_
                  clear ctr
                  rintro e w8 ⟨D8, Am, cm, rfl, J8, hD8, x8, Om, _⟩
                  have X8 := X6.trans x8 (fun b hb hd => by
                    have := (hD _ hd).1
                    omega)
                  have nD : ∀ {b}, b < b0 → ¬ D b := fun h hh => by
                    have := (hD _ hh).1
                    omega
                  have Bg8 := Bg6.ext x8 (nD (by omega))
                  have Bl8 := Bl6'.ext x8 (nD (by omega))
                  have hO8 := fun r hr => (⟨(hO6 r hr).1.ext x8 (fun b hb => nD ((hO6 r hr).2 b hb)), (hO6 r hr).2⟩ : _ ∧ _)
                  have hD8' : ∀ b, D8 b → b0 ≤ b ∧ b < w8.heap.size := fun b h => ⟨by
                    rcases (hD8 _ h).1 with h | h
                    · exact (hD _ h).1
                    · omega, (hD8 _ h).2⟩
                  have hs8 := x8.size
                  have Y9 := (Ext.refl Non w8).alloc (.cells #[.int .u32 k, .int .u16 1, .int .u16 2, .slice Am (kk k) cm] 55)
                  have J9 := J8.extN Y9
                  have X9 := X8.transN Y9
                  have Bg9 := Bg8.extN_ Y9
                  have Bl9 := Bl8.extN_ Y9
                  have hO9 := fun r hr => (⟨(hO8 r hr).1.extN Y9, (hO8 r hr).2⟩ : _ ∧ _)
                  have hsz9 : w8.heap.size < (w8.alloc (.cells #[.int .u32 k, .int .u16 1, .int .u16 2, .slice Am (kk k) cm] 55)).heap.size := by rw [World.size_alloc]; omega
                  have iz : ((z : Int) == 0) = true := by rw [beq_iff_eq]; omega
                  have iw : IntKind.u32.wrap (k : Int) = (k : Int) := by rw [IntKind.wrap_u32]; omega
                  have Bm := Blk.new w8 55 #[.int .u32 k, .int .u16 1, .int .u16 2, .slice Am (kk k) cm]
                  have Rm9 := (Om.extN Y9).rd
                  have rm9 := rM.extN X9
                  go_wp2_with fail
                  generalize w8.alloc (.cells #[.int .u32 k, .int .u16 1, .int .u16 2, .slice Am (kk k) cm] 55) = w9 at *
                  generalize w8.heap.size = g8 at *
                  refine wp_region_seq Non ((0, true) :: (1, true) :: (2, true) :: (3, true) :: (4, true) :: (5, true) :: (6, true) :: (7, true) :: (8, true) :: (9, true) :: (10, true) :: (11, true) :: (12, true) :: (13, true) :: (14, true) :: (15, true) :: (16, true) :: (17, true) :: (18, true) :: (19, true) :: (20, true) :: (21, true) :: (22, true) :: (23, true) :: (24, true) :: (25, true) :: (26, true) :: (27, true) :: (28, true) :: (29, true) :: (30, true) :: (31, true) :: (32, true) :: (33, true) :: (34, true) :: []) (by kernel_rfl) (by kernel_rfl) (by kernel_rfl) ?_
                  iterate 35 (refine wpSeq_quiet rfl rfl ?_; apply Exists.intro; refine ⟨?_, ?_⟩; (intro W hW; have g1 := ckl W ((Bl9.drew).extN_ hW); have g2 := cg k hk W ((Bg9.drew).extN_ hW); have g3 := ((Bm.drew).extN_ hW).cell 0; have g6 := ((Bm.drew).extN_ hW).cell 3; have v1 := conv_str (Rm9.extN hW.drewL) (kk k) cm hM; have v2 := conv_str (rm9.extN hW.drewL) (kk k) (cc k) hM; go_simp; try with_reducible rfl); (intro K hK; simp only [Act.put, List.setIfInBounds_toArray, List.set_cons_zero, List.set_cons_succ]; refine hK _ ?_; clear hK K))
                  refine wpSeq_end ?_
                  go_wp2_with fail
                  exact ⟨⟨i + 1, up t k (t k + 1), D8, J', up BB k B', up dd k (dd k - 1), by go_num, by rw [up_sum t k hk, ← HIS.out], up_le t NN k hk htle htk, Bg9.drew, Bl9.drew, fun r hr => ⟨(hO9 r hr).1.extN (Ext.refl Non _).drew, (hO9 r hr).2⟩, X9.drew, MJ, J9.extN (Ext.refl Non _).drew, fun b h => ⟨(hD8' b h).1, by have := (hD8' b h).2; show b < w9.heap.size; omega⟩, by show b0 ≤ w9.heap.size; omega⟩, by simp [intOf]; omega⟩
end Go.Proofs.Ytcdpmedmhindaaa
