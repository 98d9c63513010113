/- Contract of package hmac: Short; keys and codes as arrays. -/
import Derived.Laws.Cover3
import Derived.Test.YtgbaijmpfdhoeaaDoorHm04
namespace Go.Proofs.YtgbaijmpfdhoeaaDoor
open Go.RowKit

@[go_sem ↓] theorem big_load_key (x : Value) : Instr.loadAt 29 x = bigLoad 29 x := rfl
@[go_sem ↓] theorem big_store_key (x v : Value) : Instr.storeAt 29 x v = bigStore 29 x v := rfl
theorem key_info (cs : Array Value) (h : cs.size = 32) : (Tryd.prog.info? 29).map (·.size) = some cs.size := by rw [h]; kernel_rfl
@[go_sem ↓] theorem zero_key (w : World) : (zeroValue 29).run Tryd.prog w = .ok (.agg (zrow 32)) w :=
  (zero_of_info (P := Tryd.prog) (t := 29) (n := 32) (by kernel_rfl)).1 w
@[go_sem ↓] theorem big_load_mac (x : Value) : Instr.loadAt 35 x = bigLoad 35 x := rfl
@[go_sem ↓] theorem big_store_mac (x v : Value) : Instr.storeAt 35 x v = bigStore 35 x v := rfl
theorem mac_info (cs : Array Value) (h : cs.size = 16) : (Tryd.prog.info? 35).map (·.size) = some cs.size := by rw [h]; kernel_rfl
@[go_sem ↓] theorem zero_mac (w : World) : (zeroValue 35).run Tryd.prog w = .ok (.agg (zrow 16)) w :=
  (zero_of_info (P := Tryd.prog) (t := 35) (n := 16) (by kernel_rfl)).1 w
theorem Blk.big_load_part {w : World} {g : Nat} {t : TypeId} {l : List UInt8} (hb : Blk w g t (ba l)) {ty : TypeId} {d : TypeDesc} (n : Nat) (hn : n ≤ l.length) (hu : Tryd.prog.underlying ty = some d) (hd : d.isRow = true) (hi : (Tryd.prog.info? ty).map (·.size) = some n) :
    (bigLoad ty (.pointer (some ⟨g, 0, none⟩))).run Tryd.prog w = .ok (.agg (ba (l.take n))) w := by
  have hl : (bvs (l.take n)).length = n := by rw [bvs_length, List.length_take]; omega
  have := run_loadAt_mid (P := Tryd.prog) w g 0 ty (bvs (l.take n)) d (hb.range 0 _ fun j v hv => by
    have hj : j < n := by have := (List.getElem?_eq_some_iff.1 hv).1; rw [hl] at this; exact this
    have : (bvs l)[j]? = some v := by rw [← hv]; simp [bvs, hj]
    simpa [ba] using this) hu hd (by rw [hl]; exact hi)
  exact this
theorem m16_len (k m : List UInt8) : ((hm k m).take 16).length = 16 := by rw [List.length_take, hm_len]; rfl
@[go_sem] theorem store_m16 (w : World) (k m : List UInt8) : (bigStore 35 (.pointer (some ⟨w.heap.size, 0, none⟩)) (.agg (ba ((hm k m).take 16)))).run Tryd.prog (w.alloc (.cells (zrow 16) 35)) = .ok () (w.alloc (.cells (ba ((hm k m).take 16)) 35)) := by
  rw [Blk.big_store (P := Tryd.prog) (Blk.new w 35 (zrow 16)) (by rw [zrow_size, ba_size, m16_len]) (mac_info _ (by rw [ba_size, m16_len])) (ba_all _), World.setRow_alloc_new]
theorem zrow16_ne : zrow 16 ≠ #[] := row_ne (zrow_size 16)

set_option maxRecDepth 100000 in
set_option maxHeartbeats 1000000 in
theorem short_calls {w : World} (G : Glob w) (hw2 : 2 ≤ w.heap.size) (k : List UInt8) (hk : k.length = 32)
    {ps : List Part} {B : Option Addr} (m cap : Nat) (hP : Parts w (· < w.heap.size) B ps) (hpm : ps.length = m) (hcap : m ≤ cap) (hall : (allOf ps).length ≤ 562949953421000) (hm6 : m ≤ 4611686018427387904) :
    Calls Tryd.prog 16 #[.agg (ba k), .slice B m cap] w fun e w' => e = .returned (.agg (ba ((hm k (allOf ps)).take 16))) ∧ Ext Non w w' := by
  have n0 := row_ne (n := 31) (a := ba k) (by rw [ba_size, hk])
  have n1 := zrow16_ne
  have n2 := zrow32_ne
  have sl := fun W g => run_arr_all (P := Tryd.prog) W Tryd.underlying29 s8 g 0 (by decide)
  have sl2 := fun W g => run_arr_all (P := Tryd.prog) W Tryd.underlying26 s8 g 0 (by decide)
  have sa := fun W g => run_arrayAt (P := Tryd.prog) W 35 5 16 (some ⟨g, 0, none⟩) 32 32 Tryd.underlying35 (by decide)
  have K1 := (Blk.new w 29 (ba k)).alloc (.cells (zrow 16) 35)
  have B1 := Blk.new (w.alloc (.cells (ba k) 29)) 35 (zrow 16)
  have X1 : Ext Non w ((w.alloc (.cells (ba k) 29)).alloc (.cells (zrow 16) 35)) := ((Ext.refl Non w).alloc _).alloc _
  have hs1 := X1.size
  rw [World.size_alloc] at B1
  go_enter Tryd.func16, Tryd.ntmps16
  go_wp2_with fail
  have ctr := mac_calls (G.extN X1) (by omega) 32 32 ((rd_ba K1).imp (fun k hk _ => hk)) hk (by decide) (by decide) m cap ((hP.extN X1).imp (fun i _ hi => Nat.lt_of_lt_of_le hi hs1)) hpm hcap hall hm6
  with_reducible refine Calls.mono ctr ?_
  clear ctr
  rintro e w3 ⟨rfl, x3⟩
  have B3 := B1.extN_ x3
  have X3 := X1.transN x3
  have D4 := Blk.new w3 26 (ba (hm k (allOf ps)))
  have B4 := B3.alloc (.cells (ba (hm k (allOf ps))) 26)
  have X4 : Ext Non w (w3.alloc (.cells (ba (hm k (allOf ps))) 26)) := X3.alloc _
  have lp := D4.big_load_part (ty := 35) 16 (by rw [hm_len]; decide) Tryd.underlying35 rfl (by kernel_rfl)
  have l16 : ((hm k (allOf ps)).take 16).length = 16 := by rw [List.length_take, hm_len]; rfl
  have st := B4.big_store (P := Tryd.prog) (ty := 35) (cs' := ba ((hm k (allOf ps)).take 16)) (by rw [zrow_size, ba_size, l16]) (mac_info _ (by rw [ba_size, l16])) (ba_all _)
  have B5 := B4.setRow (ba ((hm k (allOf ps)).take 16))
  have X5 : Ext Non w ((w3.alloc (.cells (ba (hm k (allOf ps))) 26)).setRow (w.heap.size + 1) (ba ((hm k (allOf ps)).take 16))) := X4.setRow (.inl (Nat.le_succ _)) _
  clear K1 B1 X1 B3 B4 D4 X3 X4 x3
  go_wp2_with fail
  refine bodyPost_ret (B5.results Tryd.results16 _ rfl Tryd.underlying35 rfl (mac_info _ (by rw [ba_size, l16]))) rfl ⟨rfl, X5⟩
end Go.Proofs.YtgbaijmpfdhoeaaDoor
