/- The law PieceWhose: whose a message is tells it from others. -/
import Derived.Test.YtcdpmedmhindaaaPieG
import Derived.Test.YtcdpmedmhindaaaPieMm
namespace Go.Proofs.Ytcdpmedmhindaaa
open Go.RowKit

def frq (k : Nat) : Nat := if k = 1 then 2 else 1
def bxq (k : Nat) : Nat := if k = 2 then 2 else 1
theorem frq_lt (k : Nat) : frq k < 65536 := by unfold frq; split <;> omega
theorem bxq_lt (k : Nat) : bxq k < 65536 := by unfold bxq; split <;> omega
def Kq (id : Nat) (k : Nat) : Ky := (id, frq k, bxq k)
theorem Kq_inj (id : Nat) (a b : Nat) (ha : a < 3) (hb : b < 3) (h : Kq id a = Kq id b) : a = b := by
  unfold Kq frq bxq at h
  simp only [Prod.mk.injEq, true_and] at h
  obtain ⟨h1, h2⟩ := h
  split at h1 <;> split at h2 <;> split at h1 <;> split at h2 <;> omega
/-- The places that came of the message k, when the piece i of the first t has come. -/
def sW (i t k : Nat) : List Nat := List.range (if k < t then i + 1 else i)
def fW (N i t k : Nat) : Bool := decide (i = N ∨ (i + 1 = N ∧ k < t))
def dW (N i t : Nat) : Nat := if i = N then 3 else if i + 1 = N then t else 0
abbrev MmW (J : Jn) (m : List UInt8) (id N i t : Nat) : Prop := Mm J 3 (Kq id) (fun _ => m) (sW i t) (fW N i t) (dW N i t)
section
variable {J : Jn} {m : List UInt8} {id N i t : Nat}
theorem whose_more (h : MmW J m id N i t) (hm : m.length ≤ 4096) (hN : cnt m = N) (ht : t < 3) (hi : i + 1 < N) :
    ∃ J', jtake J ⟨1, id, frq t, bxq t, (i : Int), (N : Int), pce m i⟩ = (J', 0, none) ∧ MmW J' m id N i (t + 1) := by
  subst hN
  obtain ⟨J', h1, h2⟩ := h.more (Kq_inj id) ht (rfl : Kq id t = (id, frq t, bxq t)) hm (by simp [fW]; omega) (i := i) (by omega) (by simp [sW]) (by simp [sW]; omega)
  refine ⟨J', h1, h2.ext' (fun q hq => ?_) (fun q hq _ => ?_) ?_⟩
  · simp only [fW]
    congr 1
    apply propext
    omega
  · unfold up sW
    by_cases e : q = t
    · subst e
      rw [if_pos (by omega), if_pos rfl, if_neg (by omega), List.range_succ]
    · rw [if_neg e]
      congr 1
      split <;> split <;> omega
  · unfold dW
    (repeat' split) <;> omega
theorem whose_last (h : MmW J m id N i t) (hm : m.length ≤ 4096) (hN : cnt m = N) (ht : t < 3) (hi : i + 1 = N) :
    ∃ J', jtake J ⟨1, id, frq t, bxq t, (i : Int), (N : Int), pce m i⟩ = (J', 0, some m) ∧ MmW J' m id N i (t + 1) := by
  subst hN
  have hd : dW (cnt m) i t = t := by unfold dW; rw [if_neg (by omega), if_pos hi]
  obtain ⟨J', h1, h2⟩ := h.last (Kq_inj id) ht (rfl : Kq id t = (id, frq t, bxq t)) hm (by simp [fW]; omega) (i := i) (by omega) (by simp [sW]) (by simp only [sW]; exact List.nodup_range) (by simp [sW]; omega) (by simp [sW]; omega) (by rw [hd]; omega)
  refine ⟨J', h1, h2.ext' (fun q hq => ?_) (fun q hq hf => ?_) ?_⟩
  · unfold up fW
    by_cases e : q = t
    · subst e
      rw [if_pos rfl, decide_eq_true_eq]
      omega
    · rw [if_neg e]
      congr 1
      apply propext
      omega
  · unfold up fW at hf
    by_cases e : q = t
    · rw [if_pos e] at hf
      cases hf
    · unfold sW
      congr 1
      split <;> split <;> omega
  · rw [hd]
    unfold dW
    rw [if_neg (by omega), if_pos hi]
    omega
theorem whose_next (h : MmW J m id N i 3) (hi : i < N) : MmW J m id N (i + 1) 0 := by
  refine h.ext' (fun q hq => ?_) (fun q hq _ => ?_) ?_
  · unfold fW
    congr 1
    apply propext
    omega
  · unfold sW
    rw [if_neg (by omega), if_pos (by omega)]
  · unfold dW
    (repeat' split) <;> omega
theorem whose_new (m : List UInt8) (id : Nat) (hN : 1 ≤ N) : MmW (jn0 3) m id N 0 0 := by
  refine (Mm.new 3 (by decide) (Kq id) (fun _ => m)).ext' (fun q hq => ?_) (fun q hq _ => ?_) (Nat.zero_le _)
  · unfold fW
    rw [decide_eq_false]
    omega
  · unfold sW
    rw [if_neg (by omega)]
    rfl
theorem whose_end (h : MmW J m id N N 0) : J.opn.length = 0 := h.none_left (fun q _ => by simp [fW])
end
set_option maxRecDepth 100000 in
set_option maxHeartbeats 4000000 in
theorem whose_walk (A : Option Addr) (n c : Nat) (l : List UInt8) (id : Nat) (w : World) (hn : l.length = n) (hc : n ≤ c) (hcm : c ≤ maxLen) (r : Rd w (· < w.heap.size) A (bvs l)) (hid : id < 4294967296) :
    Calls Try.prog 11 #[.slice A n c, .int .u32 id] w fun e w' => e = .returned (.bool true) ∧ Below w.heap.size w w' := by
  obtain ⟨k, hk, hka, hkb, _⟩ := min_at n 2000 (by omega)
  go_enter Try.func11, Try.ntmps11
  go_wp2_with fail
  have ctr := shown_calls w
  with_reducible refine Calls.mono ctr ?_
  clear ctr
  rintro e w1 ⟨rfl, X1⟩
  go_wp2_with fail
  have Bf := (Blk.new w1 30 #[.int .u16 1, .int .u16 2, .int .u16 1]).alloc (.cells #[.int .u16 1, .int .u16 1, .int .u16 2] 31)
  have Bg := Blk.new (w1.alloc (.cells #[.int .u16 1, .int .u16 2, .int .u16 1] 30)) 31 #[.int .u16 1, .int .u16 1, .int .u16 2]
  rw [World.size_alloc] at Bg
  have X2 := (X1.alloc (.cells #[.int .u16 1, .int .u16 2, .int .u16 1] 30)).alloc (.cells #[.int .u16 1, .int .u16 1, .int .u16 2] 31)
  have hs1 := X1.size
  have hs2 : ((w1.alloc (.cells #[.int .u16 1, .int .u16 2, .int .u16 1] 30)).alloc (.cells #[.int .u16 1, .int .u16 1, .int .u16 2] 31)).heap.size = w1.heap.size + 2 := by rw [World.size_alloc, World.size_alloc]
  generalize (w1.alloc (.cells #[.int .u16 1, .int .u16 2, .int .u16 1] 30)).alloc (.cells #[.int .u16 1, .int .u16 1, .int .u16 2] 31) = w2 at *
  obtain ⟨f, hf⟩ : ∃ f, w1.heap.size = f := ⟨_, rfl⟩
  rw [hf] at Bf Bg hs1 hs2
  simp only [hf]
  clear hf
  have ctr := new_calls w2 3
  with_reducible refine Calls.mono ctr ?_
  clear ctr
  rintro e w3 ⟨j, rfl, J0, x3⟩
  have X3 := X2.transN x3
  obtain ⟨m, hmd⟩ : ∃ m, l.take k = m := ⟨_, rfl⟩
  have hmk : m.length = k := by rw [← hmd, List.length_take]; omega
  have rm : Rd w (· < w.heap.size) A (bvs m) := by
    have := r.take k
    rw [← hmd]
    simpa [bvs, List.map_take] using this
  obtain ⟨N, hN⟩ : ∃ N, cnt m = N := ⟨_, rfl⟩
  have hm4 : m.length ≤ 4096 := by omega
  have rm3 := rm.extN X3
  have hs3 := x3.size
  have Bf3 := Bf.extN_ x3
  have Bg3 := Bg.extN_ x3
  clear r hk hmd x3 X2 X1 Bf Bg
  go_wp2_with fail
  have ctr := split_x (m := m) c k id 1 1 rm3 (fun b hb => by omega) hmk hm4 (by omega) hcm hid (by decide) (by decide) rfl rfl rfl N hN
  with_reducible refine Calls.mono ctr ?_
  clear ctr
  rintro e w4 ⟨A4, c4, rfl, O4, x4⟩
  have X4 := X3.transN x4
  have J4 := J0.extN x4
  have Bf4 := Bf3.extN_ x4
  have Bg4 := Bg3.extN_ x4
  have hs4 := x4.size
  have cf := cnt_facts m hm4
  rw [hN] at cf
  have cf1 := cf.1
  have cf2 := cf.2.1
  clear cf x4 Bf3 Bg3 J0 rm3 O4 X3
  go_wp2_with fail
  have M0 := whose_new (N := N) m id cf1
  obtain ⟨b0, hb0⟩ : ∃ b, w2.heap.size = b := ⟨_, rfl⟩
  rw [hb0] at hs2 hs3 J4
  clear hb0
  go_loopw [11] (fun z wr => ∃ (i : Nat) (D : Nat → Prop) (J : Jn), i ≤ N ∧ z = .int .i64 i ∧ MmW J m id N i 0 ∧ Blk wr f 30 #[.int .u16 1, .int .u16 2, .int .u16 1] ∧ Blk wr (f + 1) 31 #[.int .u16 1, .int .u16 1, .int .u16 2] ∧ Ext Non w wr ∧ Jo wr D j J ∧ (∀ b, D b → b0 ≤ b ∧ b < wr.heap.size) ∧ b0 ≤ wr.heap.size) (fun z _ => N - (intOf z).toNat)
  case atStart => exact ⟨0, _, _, by omega, rfl, M0, Bf4, Bg4, X4, J4, fun b hb => by omega, by omega⟩
  case round =>
    clear M0 Bf4 Bg4 X4 J4
    obtain ⟨i, D, J, hi, rfl, M0, Bf, Bg, X, J0, hD, hbw⟩ := hrel
    by_cases hlt : i < N
    · have i1 : (i : Int) < (N : Int) := by omega
      go_wp2_with fail
      go_loopw [12] (fun z wr => ∃ (t : Nat) (D : Nat → Prop) (J : Jn), t ≤ 3 ∧ z = .int .i64 t ∧ MmW J m id N i t ∧ Blk wr f 30 #[.int .u16 1, .int .u16 2, .int .u16 1] ∧ Blk wr (f + 1) 31 #[.int .u16 1, .int .u16 1, .int .u16 2] ∧ Ext Non w wr ∧ Jo wr D j J ∧ (∀ b, D b → b0 ≤ b ∧ b < wr.heap.size) ∧ b0 ≤ wr.heap.size) (fun z _ => 3 - (intOf z).toNat)
      case atStart => exact ⟨0, _, _, by omega, rfl, M0, Bf, Bg, X, J0, hD, hbw⟩
      case round =>
        clear M0 Bf Bg X J0 hD hbw
        obtain ⟨t, D, J, ht, rfl, M0, Bf, Bg, X, J0, hD, hbw⟩ := hrel
        by_cases ht3 : t < 3
        · have i2 : (t : Int) < 3 := by omega
          obtain ⟨F, hF⟩ : ∃ F, frq t = F := ⟨_, rfl⟩
          obtain ⟨B, hB⟩ : ∃ F, bxq t = F := ⟨_, rfl⟩
          have F1 := frq_lt t
          have B1 := bxq_lt t
          rw [hF] at F1
          rw [hB] at B1
          have cF : ∀ W, Blk W f 30 #[.int .u16 1, .int .u16 2, .int .u16 1] → W.cell? ⟨f, t, none⟩ = some (.int .u16 (F : Int)) := fun W h => by
            rw [h.cell t, ← hF]
            match t, ht3 with
            | 0, _ => rfl
            | 1, _ => rfl
            | 2, _ => rfl
          have cB : ∀ W, Blk W (f + 1) 31 #[.int .u16 1, .int .u16 1, .int .u16 2] → W.cell? ⟨f + 1, t, none⟩ = some (.int .u16 (B : Int)) := fun W h => by
            rw [h.cell t, ← hB]
            match t, ht3 with
            | 0, _ => rfl
            | 1, _ => rfl
            | 2, _ => rfl
          have rmw := rm.extN X.drew
          have hwr := X.size
          obtain ⟨J', om, htk, MJ⟩ : ∃ J' om, (jtake J ⟨1, id, F, B, (i : Int), (N : Int), pce m i⟩ = (J', 0, om) ∧ ((om = none ∧ i + 1 < N) ∨ (om = some m ∧ i + 1 = N))) ∧ MmW J' m id N i (t + 1) := by
            rw [← hF, ← hB]
            by_cases hl : i + 1 < N
            · obtain ⟨J', h1, h2⟩ := whose_more M0 hm4 hN ht3 hl
              exact ⟨J', none, ⟨h1, .inl ⟨rfl, hl⟩⟩, h2⟩
            · obtain ⟨J', h1, h2⟩ := whose_last M0 hm4 hN ht3 (by omega)
              exact ⟨J', some m, ⟨h1, .inr ⟨rfl, by omega⟩⟩, h2⟩
          clear hF hB M0
          go_wp2_with fail
          refine wp_region_seq Non ((0, true) :: (1, true) :: (2, true) :: (3, true) :: (4, true) :: (5, true) :: (6, true) :: (7, true) :: (8, true) :: (9, true) :: (10, false) :: (11, true) :: (12, true) :: (13, true) :: (14, true) :: (15, true) :: []) (by kernel_rfl) (by kernel_rfl) (by kernel_rfl) ?_
          iterate 10 (refine wpSeq_quiet rfl rfl ?_; apply Exists.intro; refine ⟨?_, ?_⟩; (intro W hW; have g1 := cF W ((Bf.drew).extN_ hW); have g2 := cB W ((Bg.drew).extN_ hW); go_simp; try with_reducible rfl); (intro K hK; simp only [Act.put, List.setIfInBounds_toArray, List.set_cons_zero, List.set_cons_succ]; refine hK _ ?_; clear hK K))
          refine wpSeq_call rfl rfl (fun K hK => ?_)
          go_simp
          have ctr := split_x (m := m) c k id F B rmw (fun b hb => by have h : b < w.heap.size := hb; exact Nat.lt_of_lt_of_le h hwr) hmk hm4 (by omega) hcm hid F1 B1 rfl rfl rfl N hN
          with_reducible refine Calls.mono ctr ?_
          clear ctr
          rintro e w5 ⟨A5, c5, rfl, O5, x5⟩
          go_simp
          refine hK _ _ x5 ?_
          clear hK K
          iterate 5 (refine wpSeq_quiet rfl rfl ?_; apply Exists.intro; refine ⟨?_, ?_⟩; (intro W hW; go_simp; try with_reducible rfl); (intro K hK; simp only [Act.put, List.setIfInBounds_toArray, List.set_cons_zero, List.set_cons_succ]; refine hK _ ?_; clear hK K))
          refine wpSeq_end ?_
          have Y5 := x5.drewL
          have Bf5 := Bf.extN_ Y5
          have Bg5 := Bg.extN_ Y5
          have X5 := X.transN Y5
          have J5 := J0.extN Y5
          have hs5 := Y5.size
          obtain ⟨hA, ld⟩ := O5.load i (by rw [pcbs_len]; exact hlt)
          rw [pcbs_get] at ld
          obtain ⟨q, hq⟩ : ∃ q, (pce m i).length = q := ⟨_, rfl⟩
          have hq244 : q ≤ 244 := by rw [← hq, pce_len]; omega
          clear x5 Y5 X J0 Bf Bg rmw O5
          go_wp2_with fail
          have ctr := parse_mpc w5 id F B hid F1 B1 (m := m) hm4 i (by rw [hN]; exact hlt) rfl rfl rfl q N hq hN
          with_reducible refine Calls.mono ctr ?_
          clear ctr
          rintro e w6 ⟨A6, c6, rfl, O6, x6⟩
          have Bp := Blk.new w6 45 #[.int .i64 1, .int .u32 id, .int .u16 F, .int .u16 B, .int .i64 (i : Int), .int .i64 (N : Int), .slice A6 q c6]
          have Y7 := (Ext.refl Non w6).alloc (.cells #[.int .i64 1, .int .u32 id, .int .u16 F, .int .u16 B, .int .i64 (i : Int), .int .i64 (N : Int), .slice A6 q c6] 45)
          have O7 := O6.extN Y7
          have Y := x6.transN Y7
          have Bf7 := Bf5.extN_ Y
          have Bg7 := Bg5.extN_ Y
          have X7 := X5.transN Y
          have J7 := J5.extN Y
          have hs7 := Y.size
          have hq6 := O6.len
          rw [hq] at hq6
          obtain ⟨a0, a1, a2, a3, a4, a5, a6⟩ := pc_cellsR Bp
          clear O6 x6 Y7 X5 Y J5 Bp ld hA Bf5 Bg5
          go_wp2_with fail
          clear a0 a1 a2 a3 a4 a5 a6
          generalize w6.alloc (.cells #[.int .i64 1, .int .u32 id, .int .u16 F, .int .u16 B, .int .i64 (i : Int), .int .i64 (N : Int), .slice A6 q c6] 45) = w7 at *
          generalize w6.heap.size = gp at *
          rcases htk with ⟨htk, ⟨rfl, hl⟩ | ⟨rfl, hl⟩⟩
          · have ctr := take_none J7 1 id F B (i : Int) (N : Int) (pce m i) 0 htk rfl rfl rfl rfl A6 c6 q hq O7.rd hq6.1 (by simp only [maxLen]; omega)
            with_reducible refine Calls.mono ctr ?_
            clear ctr
            rintro e w8 ⟨D8, rfl, J8, hD8, x8⟩
            have X8 := X7.trans x8 (fun b hb hd => by
              have := (hD _ hd).1
              omega)
            have nf : ¬ D f := fun h => by
              have := (hD _ h).1
              omega
            have ng : ¬ D (f + 1) := fun h => by
              have := (hD _ h).1
              omega
            have Bf8 := Bf7.ext x8 nf
            have Bg8 := Bg7.ext x8 ng
            have hD8' : ∀ b, D8 b → b0 ≤ b ∧ b < w8.heap.size := fun b h => ⟨by
              rcases (hD8 _ h).1 with h | h
              · exact (hD _ h).1
              · omega, (hD8 _ h).2⟩
            have hs8 := x8.size
            have Y9 := (Ext.refl Non w8).alloc (.cells #[.int .u32 0, .int .u16 0, .int .u16 0, .slice none 0 0] 55)
            have J9 := J8.extN Y9
            have X9 := X8.transN Y9
            have Bf9 := Bf8.extN_ Y9
            have Bg9 := Bg8.extN_ Y9
            have hsz9 : w8.heap.size < (w8.alloc (.cells #[.int .u32 0, .int .u16 0, .int .u16 0, .slice none 0 0] 55)).heap.size := by rw [World.size_alloc]; omega
            have ile : ¬ (i : Int) = (N : Int) - 1 := by omega
            have iwr : IntKind.i64.wrap ((N : Int) - 1) = (N : Int) - 1 := by rw [IntKind.wrap_i64]; omega
            have iled2 : decide ((i : Int) = (N : Int) - 1) = false := decide_eq_false ile
            have iled : ((i : Int) == (N : Int) - 1) = false := by rw [beq_eq_false_iff_ne]; exact ile
            clear x8 hD8 J7 X7 hD Y9 J8 X8 O7 htk Bf7 Bg7 Bf8 Bg8
            go_wp2_with fail
            refine wp_region_seq Non ((0, true) :: (1, true) :: (2, true) :: (3, true) :: (4, true) :: (5, true) :: (6, true) :: (7, true) :: (8, true) :: (9, true) :: (10, true) :: (11, true) :: (12, true) :: (13, true) :: (14, true) :: (15, true) :: (16, true) :: (17, true) :: (18, true) :: (19, true) :: (20, true) :: (21, true) :: (22, true) :: (23, true) :: (24, true) :: (25, true) :: (26, true) :: (27, true) :: (28, true) :: (29, true) :: (30, true) :: (31, true) :: (32, true) :: (33, true) :: (34, true) :: (35, true) :: (36, true) :: (37, true) :: (38, true) :: (39, true) :: (40, true) :: (41, true) :: (42, true) :: (43, true) :: (44, true) :: (45, true) :: (46, true) :: (47, true) :: (48, true) :: (49, true) :: []) (by kernel_rfl) (by kernel_rfl) (by kernel_rfl) ?_
            iterate 18 (refine wpSeq_quiet rfl rfl ?_; apply Exists.intro; refine ⟨?_, ?_⟩; (intro W hW; go_simp; try with_reducible rfl); (intro K hK; simp only [Act.put, List.setIfInBounds_toArray, List.set_cons_zero, List.set_cons_succ]; refine hK _ ?_; clear hK K))
            iterate 30 (refine wpSeq_skip rfl rfl (fun K hK => ?_); simp only [Act.put, List.setIfInBounds_toArray, List.set_cons_zero, List.set_cons_succ]; refine hK _ ?_; clear hK K)
            iterate 2 (refine wpSeq_quiet rfl rfl ?_; apply Exists.intro; refine ⟨?_, ?_⟩; (intro W hW; go_simp; try with_reducible rfl); (intro K hK; simp only [Act.put, List.setIfInBounds_toArray, List.set_cons_zero, List.set_cons_succ]; refine hK _ ?_; clear hK K))
            refine wpSeq_end ?_
            go_wp2_with fail
            exact ⟨⟨t + 1, D8, J', by omega, by go_num, MJ, Bf9.drew, Bg9.drew, X9.drew, J9.extN (Ext.refl Non _).drew, fun b h => ⟨(hD8' b h).1, by have := (hD8' b h).2; show b < (w8.alloc (.cells #[.int .u32 0, .int .u16 0, .int .u16 0, .slice none 0 0] 55)).heap.size; omega⟩, by show b0 ≤ (w8.alloc (.cells #[.int .u32 0, .int .u16 0, .int .u16 0, .slice none 0 0] 55)).heap.size; omega⟩, by simp [intOf]; omega⟩
          · have ctr := take_some J7 1 id F B (i : Int) (N : Int) (pce m i) m htk rfl rfl rfl A6 c6 q hq O7.rd hq6.1 (by simp only [maxLen]; omega) k hmk
            with_reducible refine Calls.mono ctr ?_
            clear ctr
            rintro e w8 ⟨D8, Am, cm, rfl, J8, hD8, x8, Om, _⟩
            have X8 := X7.trans x8 (fun b hb hd => by
              have := (hD _ hd).1
              omega)
            have nf : ¬ D f := fun h => by
              have := (hD _ h).1
              omega
            have ng : ¬ D (f + 1) := fun h => by
              have := (hD _ h).1
              omega
            have Bf8 := Bf7.ext x8 nf
            have Bg8 := Bg7.ext x8 ng
            have hD8' : ∀ b, D8 b → b0 ≤ b ∧ b < w8.heap.size := fun b h => ⟨by
              rcases (hD8 _ h).1 with h | h
              · exact (hD _ h).1
              · omega, (hD8 _ h).2⟩
            have hs8 := x8.size
            have Bm := Blk.new w8 55 #[.int .u32 id, .int .u16 F, .int .u16 B, .slice Am k cm]
            have Y9 := (Ext.refl Non w8).alloc (.cells #[.int .u32 id, .int .u16 F, .int .u16 B, .slice Am k cm] 55)
            have J9 := J8.extN Y9
            have X9 := X8.transN Y9
            have Bf9 := Bf8.extN_ Y9
            have Bg9 := Bg8.extN_ Y9
            have Rm9 := (Om.extN Y9).rd
            have hsz9 : w8.heap.size < (w8.alloc (.cells #[.int .u32 id, .int .u16 F, .int .u16 B, .slice Am k cm] 55)).heap.size := by rw [World.size_alloc]; omega
            have ile : (i : Int) = (N : Int) - 1 := by omega
            have iwr : IntKind.i64.wrap ((N : Int) - 1) = (N : Int) - 1 := by rw [IntKind.wrap_i64]; omega
            have iled : ((i : Int) == (N : Int) - 1) = true := by rw [beq_iff_eq]; exact ile
            clear x8 hD8 J7 X7 hD Y9 J8 X8 O7 htk Bf7 Bg7 Bf8 Bg8 Om ile
            go_wp2_with fail
            generalize w8.alloc (.cells #[.int .u32 id, .int .u16 F, .int .u16 B, .slice Am k cm] 55) = w9 at *
            generalize w8.heap.size = g8 at *
            have rm9 := rm.extN X9
            refine wp_region_seq Non ((0, true) :: (1, true) :: (2, true) :: (3, true) :: (4, true) :: (5, true) :: (6, true) :: (7, true) :: (8, true) :: (9, true) :: (10, true) :: (11, true) :: (12, true) :: (13, true) :: (14, true) :: (15, true) :: (16, true) :: (17, true) :: (18, true) :: (19, true) :: (20, true) :: (21, true) :: (22, true) :: (23, true) :: (24, true) :: (25, true) :: (26, true) :: (27, true) :: (28, true) :: (29, true) :: (30, true) :: (31, true) :: (32, true) :: (33, true) :: (34, true) :: (35, true) :: (36, true) :: (37, true) :: (38, true) :: (39, true) :: (40, true) :: (41, true) :: (42, true) :: (43, true) :: (44, true) :: (45, true) :: (46, true) :: (47, true) :: (48, true) :: (49, true) :: []) (by kernel_rfl) (by kernel_rfl) (by kernel_rfl) ?_
            iterate 50 (refine wpSeq_quiet rfl rfl ?_; apply Exists.intro; refine ⟨?_, ?_⟩; (intro W hW; have g1 := cF W ((Bf9.drew).extN_ hW); have g2 := cB W ((Bg9.drew).extN_ hW); have g3 := ((Bm.drew).extN_ hW).cell 0; have g4 := ((Bm.drew).extN_ hW).cell 1; have g5 := ((Bm.drew).extN_ hW).cell 2; have g6 := ((Bm.drew).extN_ hW).cell 3; have v1 := conv_str (Rm9.extN hW.drewL) k cm hmk; have v2 := conv_str (rm9.extN hW.drewL) k c hmk; go_simp; try with_reducible rfl); (intro K hK; simp only [Act.put, List.setIfInBounds_toArray, List.set_cons_zero, List.set_cons_succ]; refine hK _ ?_; clear hK K))
            refine wpSeq_end ?_
            go_wp2_with fail
            exact ⟨⟨t + 1, D8, J', by omega, by go_num, MJ, Bf9.drew, Bg9.drew, X9.drew, J9.extN (Ext.refl Non _).drew, fun b h => ⟨(hD8' b h).1, by have := (hD8' b h).2; show b < w9.heap.size; omega⟩, by show b0 ≤ w9.heap.size; omega⟩, by simp [intOf]; omega⟩
        · obtain rfl : t = 3 := by omega
          rw [show ((3 : Nat) : Int) = (3 : Int) from rfl]
          go_wp2_with fail
          exact ⟨⟨i + 1, D, J, by omega, by go_num, whose_next M0 hlt, Bf, Bg, X, J0, hD, hbw⟩, by simp [intOf]; omega⟩
    · obtain rfl : i = N := by omega
      go_wp2_with fail
      have ctr := len_calls J0
      with_reducible refine Calls.mono ctr ?_
      clear ctr
      rintro e wz ⟨rfl, rfl⟩
      have hl := whose_end M0
      go_wp2_with fail
      go_ret
      exact ⟨rfl, X.belowN⟩
end Go.Proofs.Ytcdpmedmhindaaa
