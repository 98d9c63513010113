/- Layer 16's statements: what must be in any case. -/
import Derived.Test.YtcdpmedmhindaaaPieU
namespace Go.Proofs.Ytcdpmedmhindaaa
open Go.RowKit

def mz : List UInt8 := zeros 245
theorem mz_len : mz.length = 245 := zeros_length 245
theorem mz_cnt : cnt mz = 2 := by unfold cnt; rw [mz_len]; rfl
theorem mz_p0 : (pce mz 0).length = 244 := by rw [pce_len, mz_len]; rfl
theorem mz_p1 : (pce mz 1).length = 1 := by rw [pce_len, mz_len]; rfl
def sk : Ky := (7, 3, 4)
theorem shown1 : jtake (jn0 1) (mpc 7 3 4 mz 1) = ({ jn0 1 with opn := mput sk ((cnt mz : Int), got mz [1]) [] }, 0, none) :=
  jtake_some (s := []) (by rw [mz_len]; decide) (by simp [jn0]) rfl (by rw [mz_cnt]; decide) (by simp) (.inr (.inr (by simp [jn0]))) (by rw [mz_cnt]; decide)
theorem shown2 : jtake { jn0 1 with opn := mput sk ((cnt mz : Int), got mz [1]) [] } (mpc 7 3 4 mz 0) = ({ jn0 1 with opn := [], done := [sk] }, 0, some mz) := by
  have := jtake_last (J := { jn0 1 with opn := mput sk ((cnt mz : Int), got mz [1]) [] }) (m := mz) (id := 7) (fr := 3) (bx := 4) (s := [1]) (i := 0) (by rw [mz_len]; decide) (by simp [jn0]) (lkp_put_self _ _ _) (by rw [mz_cnt]; decide) (by simp) (by simp) (by rw [mz_cnt]; simp) (.inl (by simp)) (by rw [mz_cnt]; rfl)
  rw [this]
  rfl
theorem shown3 : jtake { jn0 1 with opn := [], done := [sk] } (mpc 7 3 4 mz 0) = ({ jn0 1 with opn := [], done := [sk] }, 7, none) :=
  jtake_done (mpc_rt 7 3 4 (by rw [mz_len]; decide) (by rw [mz_cnt]; decide)) rfl (by simp [mpc, Pc.key, sk])
def sJ1 : Jn := { jn0 1 with opn := mput sk ((cnt mz : Int), got mz [1]) [] }
def sJ2 : Jn := { jn0 1 with opn := [], done := [sk] }
theorem mz_m1 : mpc 7 3 4 mz 1 = ⟨1, 7, 3, 4, 1, 2, pce mz 1⟩ := by unfold mpc; rw [mz_cnt]; rfl
theorem mz_m0 : mpc 7 3 4 mz 0 = ⟨1, 7, 3, 4, 0, 2, pce mz 0⟩ := by unfold mpc; rw [mz_cnt]; rfl
theorem shown1' : jtake (jn0 1) ⟨1, 7, 3, 4, 1, 2, pce mz 1⟩ = (sJ1, 0, none) := by
  rw [← mz_m1]
  exact shown1
theorem shown2' : jtake sJ1 ⟨1, 7, 3, 4, 0, 2, pce mz 0⟩ = (sJ2, 0, some mz) := by
  rw [← mz_m0]
  exact shown2
theorem shown3' : jtake sJ2 ⟨1, 7, 3, 4, 0, 2, pce mz 0⟩ = (sJ2, 7, none) := by
  rw [← mz_m0]
  exact shown3
theorem sJ1_len : (sJ1.opn.length : Int) = 1 := rfl
theorem pz4 : pence ⟨4, 0, 0, 0, 0, 0, []⟩ = 1 := rfl
def M0 : Obj := .cells #[.int .u32 0, .int .u16 0, .int .u16 0, .slice none 0 0] 55
set_option maxRecDepth 100000 in
set_option maxHeartbeats 4000000 in
theorem shown_calls (w : World) : Calls Try.prog 16 #[] w fun e w' => e = .returned (.bool true) ∧ Ext Non w w' := by
  have R0 := (own_zeros w w.heap.size (Nat.le_refl _) 245 (by decide)).rd
  have X0 := (Ext.refl Non w).alloc (.cells (zrow 245) 5)
  have hs0 : (w.alloc (.cells (zrow 245) 5)).heap.size = w.heap.size + 1 := World.size_alloc _ _
  go_enter Try.func16, Try.ntmps16
  go_wp2_with fail
  have ctr := split_x (m := mz) 245 245 7 3 4 R0 (fun k hk => by rw [hs0]; have : w.heap.size = k := Option.some.inj hk; omega) mz_len (by rw [mz_len]; decide) (Nat.le_refl _) (by decide) (by decide) (by decide) (by decide) rfl rfl rfl 2 mz_cnt
  with_reducible refine Calls.mono ctr ?_
  clear ctr
  rintro e w1 ⟨A1, c1, rfl, O1, x1⟩
  have X1 := X0.transN x1
  have e0 := (O1.load 0 (by simp [pcbs])).2
  have e1 := (O1.load 1 (by simp [pcbs])).2
  have hA := (O1.load 0 (by simp [pcbs])).1
  rw [pcbs_get] at e0 e1
  have ld0 : (bigLoad 35 (.pointer (some (A1.getD default)))).run Try.prog w1 = .ok (.agg (ba (pcb (mpc 7 3 4 mz 0)))) w1 := e0
  have g1 : ∀ W, Ext Non w1 W → (bigLoad 35 (.pointer (some ⟨(A1.getD default).block, (A1.getD default).off + 256, none⟩))).run Try.prog W = .ok (.agg (ba (pcb (mpc 7 3 4 mz 1)))) W := by
    intro W x
    have := ((O1.extN x).load 1 (by simp [pcbs])).2
    rw [pcbs_get] at this
    exact this
  clear R0 X0 hs0 x1 e0 e1 O1
  go_wp2_with fail
  have ctr := parse_mpc w1 7 3 4 (by decide) (by decide) (by decide) (m := mz) (by rw [mz_len]; decide) 0 (by rw [mz_cnt]; decide) rfl rfl rfl 244 2 mz_p0 mz_cnt
  with_reducible refine Calls.mono ctr ?_
  clear ctr
  rintro e w2 ⟨A2, c2, rfl, O2, x2⟩
  have X2 := X1.transN x2
  have hc2 := O2.len.1
  rw [mz_p0] at hc2
  have Ba := Blk.new w2 45 #[.int .i64 1, .int .u32 7, .int .u16 3, .int .u16 4, .int .i64 0, .int .i64 2, .slice A2 244 c2]
  have Y2 := (Ext.refl Non w2).alloc (.cells #[.int .i64 1, .int .u32 7, .int .u16 3, .int .u16 4, .int .i64 0, .int .i64 2, .slice A2 244 c2] 45)
  have O2' := O2
  have O2 := O2.extN Y2
  have ld1 := g1 _ (x2.transN Y2)
  have X3 := X2.transN Y2
  have hv3 := (World.size_alloc w2 (.cells #[.int .i64 1, .int .u32 7, .int .u16 3, .int .u16 4, .int .i64 0, .int .i64 2, .slice A2 244 c2] 45))
  clear ld0 g1 X1 X2 Y2 x2
  go_wp2_with fail
  generalize w2.alloc (.cells #[.int .i64 1, .int .u32 7, .int .u16 3, .int .u16 4, .int .i64 0, .int .i64 2, .slice A2 244 c2] 45) = w3 at *
  have hOa : ∀ k, ob A2 = some k → k < w2.heap.size := fun k hk => (O2'.lt hk).2
  generalize w2.heap.size = ga at *
  have ctr := parse_mpc w3 7 3 4 (by decide) (by decide) (by decide) (m := mz) (by rw [mz_len]; decide) 1 (by rw [mz_cnt]; decide) rfl rfl rfl 1 2 mz_p1 mz_cnt
  with_reducible refine Calls.mono ctr ?_
  clear ctr
  rintro e w4 ⟨A4, c4, rfl, O4, x4⟩
  have X4 := X3.transN x4
  have hc4 := O4.len.1
  rw [mz_p1] at hc4
  have Bb := Blk.new w4 45 #[.int .i64 1, .int .u32 7, .int .u16 3, .int .u16 4, .int .i64 1, .int .i64 2, .slice A4 1 c4]
  have Y4 := (Ext.refl Non w4).alloc (.cells #[.int .i64 1, .int .u32 7, .int .u16 3, .int .u16 4, .int .i64 1, .int .i64 2, .slice A4 1 c4] 45)
  have O4 := O4.extN Y4
  have O4a := O2.extN (x4.transN Y4)
  have Ba4 := Ba.extN_ (x4.transN Y4)
  have X5 := X4.transN Y4
  have hv5 := (World.size_alloc w4 (.cells #[.int .i64 1, .int .u32 7, .int .u16 3, .int .u16 4, .int .i64 1, .int .i64 2, .slice A4 1 c4] 45))
  have hgab : ga + 1 ≤ w4.heap.size := by rw [← hv3]; exact x4.size
  have hw5 := X5.size
  have ctn := new_calls (w4.alloc (.cells #[.int .i64 1, .int .u32 7, .int .u16 3, .int .u16 4, .int .i64 1, .int .i64 2, .slice A4 1 c4] 45)) 1
  clear ld1 X3 X4 O2 O2' Ba
  go_wp2_with fail
  generalize w4.alloc (.cells #[.int .i64 1, .int .u32 7, .int .u16 3, .int .u16 4, .int .i64 1, .int .i64 2, .slice A4 1 c4] 45) = w5 at *
  generalize w4.heap.size = gb at *
  with_reducible refine Calls.mono ctn ?_
  clear ctn
  rintro e w6 ⟨j, rfl, J0, x6⟩
  have X6 := X5.transN x6
  have Ba6 := Ba4.extN_ x6
  have Bb6 := Bb.extN_ x6
  have Oa6 := O4a.extN x6
  have Ob6 := O4.extN x6
  clear X5 x6 Ba4 Bb O4 O4a Y4 x4
  obtain ⟨b0, b1, b2, b3, b4, b5, b6⟩ := pc_cellsR Bb6
  go_wp2_with fail
  have ctr := take_none J0 1 7 3 4 1 2 (pce mz 1) 0 shown1' rfl rfl rfl rfl A4 c4 1 mz_p1 Ob6.rd hc4 (by decide)
  with_reducible refine Calls.mono ctr ?_
  clear ctr
  rintro e w7 ⟨D1, rfl, J1, hD1, x7⟩
  have nA0 : ¬ (w5.heap.size ≤ ga ∧ ga < w6.heap.size) := by omega
  have nB0 : ¬ (w5.heap.size ≤ gb ∧ gb < w6.heap.size) := by omega
  have hga6 := Ba6.lt
  have hgb6 := Bb6.lt
  have nA1 : ¬ D1 ga := fun h => (hD1 _ h).1.elim nA0 (by omega)
  have nB1 : ¬ D1 gb := fun h => (hD1 _ h).1.elim nB0 (by omega)
  have hDw1 : ∀ k, D1 k → w.heap.size ≤ k := fun k h => (hD1 k h).1.elim (fun h => Nat.le_trans (by omega) h.1) (fun h => Nat.le_trans X6.size h)
  have X7 : Ext Non w (w7.alloc M0) := (X6.trans x7 (fun i hi h => by
    have h := h.1
    omega)).alloc _
  have Ba7 := (Ba6.ext x7 nA0).alloc M0
  have Bb7 := (Bb6.ext x7 nB0).alloc M0
  have Oa7 := (Oa6.ext x7 (fun k hk h => by
    have h1 := hOa k hk
    have h := h.1
    omega)).alloc M0
  have J1 := J1.extN ((Ext.refl Non w7).alloc M0)
  clear Ob6 Bb6 Ba6 Oa6 x7 X6 J0 b0 b1 b2 b3 b4 b5 b6
  have ctl := len_calls J1
  rw [sJ1_len] at ctl
  unfold M0 at X7 Ba7 Bb7 Oa7 J1 ctl
  go_wp2_with fail
  generalize w7.alloc (.cells #[.int .u32 0, .int .u16 0, .int .u16 0, .slice none 0 0] 55) = w8 at *
  with_reducible refine Calls.mono ctl ?_
  clear ctl
  rintro e w9 ⟨rfl, rfl⟩
  obtain ⟨b0, b1, b2, b3, b4, b5, b6⟩ := pc_cellsR Ba7
  go_wp2_with fail
  have ctr := take_some J1 1 7 3 4 0 2 (pce mz 0) mz shown2' rfl rfl rfl A2 c2 244 mz_p0 Oa7.rd hc2 (by decide) 245 mz_len
  with_reducible refine Calls.mono ctr ?_
  clear ctr
  rintro e w10 ⟨D2, Am, cm, rfl, J2, hD2, x10, Om, hmD⟩
  have hsz8 := Ba7.lt
  have hsz8b := Bb7.lt
  have nA2 : ¬ D2 ga := fun h => (hD2 _ h).1.elim nA1 (by omega)
  have nB2 : ¬ D2 gb := fun h => (hD2 _ h).1.elim nB1 (by omega)
  have hDw2 : ∀ k, D2 k → w.heap.size ≤ k := fun k h => (hD2 k h).1.elim (fun h => hDw1 k h) (fun h => Nat.le_trans X7.size h)
  have Bm := Blk.new w10 55 #[.int .u32 7, .int .u16 3, .int .u16 4, .slice Am 245 cm]
  have Z10 := (Ext.refl Non w10).alloc (.cells #[.int .u32 7, .int .u16 3, .int .u16 4, .slice Am 245 cm] 55)
  have X10 : Ext Non w (w10.alloc (.cells #[.int .u32 7, .int .u16 3, .int .u16 4, .slice Am 245 cm] 55)) := (X7.trans x10 (fun i hi h => by
    have := hDw1 i h
    omega)).transN Z10
  have Ba10 := (Ba7.ext x10 nA1).extN_ Z10
  have Bb10 := (Bb7.ext x10 nB1).extN_ Z10
  have Oa10 := (Oa7.ext x10 (fun k hk h => by
    have h1 := hOa k hk
    rcases (hD1 _ h).1 with h | h
    · have h := h.1; omega
    · omega)).extN Z10
  have J2 := J2.extN Z10
  have nM2 : ¬ D2 w10.heap.size := fun h => by
    have := (hD2 _ h).2
    omega
  clear J1 x10 Ba7 Bb7 Oa7 X7 b0 b1 b2 b3 b4 b5 b6
  obtain ⟨b0, b1, b2, b3, b4, b5, b6⟩ := pc_cellsR Ba10
  go_wp2_with fail
  clear b0 b1 b2 b3 b4 b5 b6
  generalize w10.alloc (.cells #[.int .u32 7, .int .u16 3, .int .u16 4, .slice Am 245 cm] 55) = w11 at *
  generalize w10.heap.size = gm at *
  have ctr := take_none J2 1 7 3 4 0 2 (pce mz 0) 7 shown3' rfl rfl rfl rfl A2 c2 244 mz_p0 Oa10.rd hc2 (by decide)
  with_reducible refine Calls.mono ctr ?_
  clear ctr
  rintro e w12 ⟨D3, rfl, J3, hD3, x12⟩
  have X12 : Ext Non w (w12.alloc M0) := (X10.trans x12 (fun i hi h => by
    have := hDw2 i h
    omega)).alloc _
  have Ba12 := (Ba10.ext x12 nA2).alloc M0
  have Bb12 := (Bb10.ext x12 nB2).alloc M0
  have Bm12 := (Bm.ext x12 nM2).alloc M0
  have ctb := bytes_calls (w12.alloc M0) ⟨4, 0, 0, 0, 0, 0, []⟩ ⟨by decide, by decide, by decide⟩ none 0 (Dp := Non) (.inl rfl) (by decide)
  rw [pz4] at ctb
  have ne2 : ba (pencb ⟨4, 0, 0, 0, 0, 0, []⟩) ≠ #[] := row_ne (n := 255) (by rw [ba_size, pencb_len])
  unfold M0 pcA at ctb
  unfold M0 at X12 Ba12 Bb12 Bm12
  clear J2 J3 x12 Ba10 Bb10 Bm X10 Oa10
  go_wp2_with fail
  with_reducible refine Calls.mono ctb ?_
  clear ctb
  rintro e w13 ⟨rfl, y⟩
  have st := store_b w13 (pencb_len ⟨4, 0, 0, 0, 0, 0, []⟩)
  have Y := y.alloc (.cells (ba (pencb ⟨4, 0, 0, 0, 0, 0, []⟩)) 35)
  have X14 := X12.transN Y
  obtain ⟨a0, a1, a2, a3, a4, a5, a6⟩ := pc_cellsR (Ba12.extN_ Y)
  obtain ⟨b0, b1, b2, b3, b4, b5, b6⟩ := pc_cellsR (Bb12.extN_ Y)
  have Bm14 := Bm12.extN_ Y
  have m0 := Bm14.cell 0
  have m1 := Bm14.cell 1
  have m2 := Bm14.cell 2
  have m3 := Bm14.cell 3
  clear X12 Ba12 Bb12 Bm12 Bm14 Y y
  go_wp2_with fail
  go_ret
  exact ⟨rfl, X14⟩
end Go.Proofs.Ytcdpmedmhindaaa
