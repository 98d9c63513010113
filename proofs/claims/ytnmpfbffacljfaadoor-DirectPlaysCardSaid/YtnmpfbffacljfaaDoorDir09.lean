/- Layer 9's statements: what must be in any case. -/
import Derived.Test.YtnmpfbffacljfaaDoorDirU
namespace Go.Proofs.YtnmpfbffacljfaaDoor
open Go.RowKit

set_option maxRecDepth 100000 in
set_option maxHeartbeats 2000000 in
theorem shown_calls {w : World} (G : Glob w) (hw2 : 2 ≤ w.heap.size) :
    Calls Tryd.prog 13 #[] w fun e w' => e = .returned (.bool true) ∧ Ext Non w w' := by
  go_enter Tryd.func13, Tryd.ntmps13
  go_wp2_with fail
  have ctr := new_calls w
  with_reducible refine Calls.mono ctr ?_
  clear ctr
  rintro e w1 ⟨d, rfl, H1, x1⟩
  obtain ⟨D, hD⟩ : ∃ D : Nat → Prop, D = fun k => w.heap.size ≤ k ∧ k < w1.heap.size := ⟨_, rfl⟩
  rw [← hD] at H1
  have hDw : ∀ i, i < w.heap.size → D i → Non i := fun i hi h => by rw [hD] at h; omega
  go_wp2_with fail
  have ctr := add_i H1 3 5 7 9 ⟨by decide, by decide, by decide, by decide⟩ 0 (by decide) [⟨3, 5, 7, 9⟩] (by decide) rfl rfl rfl rfl rfl
  with_reducible refine Calls.mono ctr ?_
  clear ctr
  rintro e w2 ⟨rfl, H2, x2⟩
  have X2 := x1.trans x2 hDw
  go_wp2_with fail
  have ctr := add_i H2 3 7 8 0 ⟨by decide, by decide, by decide, by decide⟩ 12 (by decide) [⟨3, 5, 7, 9⟩] (by decide) rfl rfl rfl rfl rfl
  with_reducible refine Calls.mono ctr ?_
  clear ctr
  rintro e w3 ⟨rfl, H3, x3⟩
  have X3 := X2.trans x3 hDw
  go_wp2_with fail
  have ctr := add_i H3 1 7 7 0 ⟨by decide, by decide, by decide, by decide⟩ 0 (by decide) [⟨1, 7, 7, 0⟩, ⟨3, 5, 7, 9⟩] (by decide) rfl rfl rfl rfl rfl
  with_reducible refine Calls.mono ctr ?_
  clear ctr
  rintro e w4 ⟨rfl, H4, x4⟩
  have X4 := X3.trans x4 hDw
  go_wp2_with fail
  have ctr := add_i H4 16 0 0 0 ⟨by decide, by decide, by decide, by decide⟩ 1 (by decide) [⟨1, 7, 7, 0⟩, ⟨3, 5, 7, 9⟩] (by decide) rfl rfl rfl rfl rfl
  with_reducible refine Calls.mono ctr ?_
  clear ctr
  rintro e w5 ⟨rfl, H5, x5⟩
  have X5 := X4.trans x5 hDw
  clear x1 x2 x3 x4 x5 X2 X3 X4 H1 H2 H3 H4
  go_wp2_with fail
  have ctr := find_some H5 3 6 3 5 7 9 (by decide) rfl rfl
  with_reducible refine Calls.mono ctr ?_
  clear ctr
  rintro e w6 ⟨rfl, x6⟩
  go_wp2_with fail
  have x7 := x6.alloc (.cells #[.int .u16 3, .int .u32 5, .int .u32 7, .int .u32 9] 37)
  have B7 := Blk.new w6 37 #[.int .u16 3, .int .u32 5, .int .u32 7, .int .u32 9]
  have H7 := H5.extN x7
  have X7 := X5.transN x7
  clear X5 H5 x6 x7
  generalize w6.alloc (.cells #[.int .u16 3, .int .u32 5, .int .u32 7, .int .u32 9] 37) = w7 at *
  generalize w6.heap.size = g7 at *
  have ctr := find_none H7 3 8 (by decide) rfl rfl
  with_reducible refine Calls.mono ctr ?_
  clear ctr
  rintro e w8 ⟨rfl, x8⟩
  go_wp2_with fail
  have x9 := x8.alloc (.cells #[.int .u16 0, .int .u32 0, .int .u32 0, .int .u32 0] 37)
  have H9 := H7.extN x9
  have B9 := B7.extN_ x9
  have X9 := X7.transN x9
  clear X7 H7 B7 x8 x9
  generalize w8.alloc (.cells #[.int .u16 0, .int .u32 0, .int .u32 0, .int .u32 0] 37) = w9 at *
  have ctr := valid_i H9 7 [⟨1, 7, 7, 0⟩, ⟨3, 5, 7, 9⟩] (by decide) 2 rfl rfl
  with_reducible refine Calls.mono ctr ?_
  clear ctr
  rintro e wa ⟨A, c, rfl, Oa, xa⟩
  have Ha := H9.extN xa
  have Ba := B9.extN_ xa
  have Xa := X9.transN xa
  have hwa := Xa.size
  go_wp2_with fail
  have ctr := bytes_calls (G.extN Xa) (by omega) Ha 60 (by rw [dirs_len]; rfl)
  with_reducible refine Calls.mono ctr ?_
  clear ctr
  rintro e wb ⟨Ab, cb, rfl, Ob, xb⟩
  have Xb := Xa.transN xb
  have hwb := Xb.size
  have hlb := OwB.len Ob
  have hl60 : (dirs [⟨1, 7, 7, 0⟩, ⟨3, 5, 7, 9⟩]).length = 60 := by rw [dirs_len]; rfl
  have Bb := Ba.extN_ xb
  have Oab := Oa.extN xb
  go_wp2_with fail
  have ctr := load_ok (G.extN Xb) (by omega) cb 60 (OwB.rd Ob) hl60 (by omega) (by omega) (fun k hk => (OwB.lt Ob hk).2) _ (lode_dirs Ha.sound)
  with_reducible refine Calls.mono ctr ?_
  clear ctr
  rintro e wc ⟨e, rfl, Hc, xc⟩
  have Xc := Xb.transN xc
  have Bc := Bb.extN_ xc
  obtain ⟨hA, g, o, ha, hog, e0, _, _, _⟩ := OwR.at_ (Oab.extN xc) 0 (by decide)
  have b3 : wc.cell? ⟨g7, 3, none⟩ = some (.int .u32 9) := Bc.cell 3
  have e0 : wc.cell? ⟨g, o, none⟩ = some (.int .u16 1) := e0
  clear G Ob Oab Oa Bc Bb Ba B9 H9 Ha X9 Xa xa Xb xb xc
  go_wp2_with (go_at_call 18; refine (len_calls Hc 2 rfl).mono ?_; rintro e w1 ⟨rfl, rfl⟩)
  go_ret
  exact ⟨rfl, Xc⟩
end Go.Proofs.YtnmpfbffacljfaaDoor
