/- Layer 4's statements: what must be in any case. -/
import Derived.Test.YtgbaijmpfdhoeaaDoorSame
namespace Go.Proofs.YtgbaijmpfdhoeaaDoor
open Go.RowKit

def jefe : List UInt8 := [74, 101, 102, 101]
def ya1 : List UInt8 := [119, 104, 97, 116, 32, 100, 111, 32, 121, 97, 32, 119, 97, 110, 116, 32]
def ya2 : List UInt8 := [102, 111, 114, 32, 110, 111, 116, 104, 105, 110, 103, 63]
theorem hm_jefe : hm jefe (ya1 ++ ya2) = [91, 220, 193, 70, 191, 96, 117, 78, 106, 4, 36, 38, 8, 149, 117, 199, 90, 0, 63, 8, 157, 39, 57, 131, 157, 236, 88, 185, 100, 236, 56, 67] := by decide +kernel
theorem bytes_const (w : World) (C : Array Value) (n c b : Nat) (hb : b = w.heap.size) : (convert 22 22 (.slice (some ⟨b, 0, none⟩) n c)).run Tryd.prog (w.alloc (.cells C 5)) = .ok (.slice (some ⟨b, 0, none⟩) n c) (w.alloc (.cells C 5 (C.size, C.size + 1))) := by
  subst hb
  exact Lib.run_convert_bytes_const (P := Tryd.prog) w 22 5 C n c Tryd.underlying22 Tryd.underlying5
theorem mac_ne (x : List UInt8) (h : x.length = 32) : ba x ≠ #[] := row_ne (n := 31) (by rw [ba_size, h])
@[go_sem] theorem store_mac (w : World) (k m : List UInt8) : (bigStore 26 (.pointer (some ⟨w.heap.size, 0, none⟩)) (.agg (ba (hm k m)))).run Tryd.prog (w.alloc (.cells (zrow 32) 26)) = .ok () (w.alloc (.cells (ba (hm k m)) 26)) := store_sha w _
theorem load_mac {w : World} {g : Nat} {k m : List UInt8} (h : Blk w g 26 (ba (hm k m))) : (bigLoad 26 (.pointer (some ⟨g, 0, none⟩))).run Tryd.prog w = .ok (.agg (ba (hm k m))) w := load_sha h
set_option maxRecDepth 100000 in
set_option maxHeartbeats 2000000 in
theorem shown_calls {w : World} (G : Glob w) (hw2 : 2 ≤ w.heap.size) :
    Calls Tryd.prog 11 #[] w fun e w' => e = .returned (.bool true) ∧ Ext Non w w' := by
  have kc := bytes_const
  have z2 := zrow32_ne
  have sl := fun W g => run_arr_all (P := Tryd.prog) W Tryd.underlying26 s8 g 0 (by decide)
  go_enter Tryd.func11, Tryd.ntmps11
  go_wp2_with fail
  have r1 : Rd (w.alloc (.cells #[.int .u8 74, .int .u8 101, .int .u8 102, .int .u8 101] 5 (4, 5))) (fun k => k = w.heap.size) (some ⟨w.heap.size, 0, none⟩) (bvs jefe) := rd_mark1 w 5 (bvs jefe) (4, 5)
  have r2 : Rd ((w.alloc (.cells #[.int .u8 74, .int .u8 101, .int .u8 102, .int .u8 101] 5 (4, 5))).alloc (.cells #[.int .u8 119, .int .u8 104, .int .u8 97, .int .u8 116, .int .u8 32, .int .u8 100, .int .u8 111, .int .u8 32, .int .u8 121, .int .u8 97, .int .u8 32, .int .u8 119, .int .u8 97, .int .u8 110, .int .u8 116, .int .u8 32] 5 (16, 17))) (fun k => k = w.heap.size + 1) (some ⟨w.heap.size + 1, 0, none⟩) (bvs ya1) := by
    have := rd_mark1 (w.alloc (.cells #[.int .u8 74, .int .u8 101, .int .u8 102, .int .u8 101] 5 (4, 5))) 5 (bvs ya1) (16, 17)
    rw [World.size_alloc] at this
    exact this
  have r3 : Rd (((w.alloc (.cells #[.int .u8 74, .int .u8 101, .int .u8 102, .int .u8 101] 5 (4, 5))).alloc (.cells #[.int .u8 119, .int .u8 104, .int .u8 97, .int .u8 116, .int .u8 32, .int .u8 100, .int .u8 111, .int .u8 32, .int .u8 121, .int .u8 97, .int .u8 32, .int .u8 119, .int .u8 97, .int .u8 110, .int .u8 116, .int .u8 32] 5 (16, 17))).alloc (.cells #[.int .u8 102, .int .u8 111, .int .u8 114, .int .u8 32, .int .u8 110, .int .u8 111, .int .u8 116, .int .u8 104, .int .u8 105, .int .u8 110, .int .u8 103, .int .u8 63] 5 (12, 13))) (fun k => k = w.heap.size + 1 + 1) (some ⟨w.heap.size + 1 + 1, 0, none⟩) (bvs ya2) := by
    have := rd_mark1 ((w.alloc (.cells #[.int .u8 74, .int .u8 101, .int .u8 102, .int .u8 101] 5 (4, 5))).alloc (.cells #[.int .u8 119, .int .u8 104, .int .u8 97, .int .u8 116, .int .u8 32, .int .u8 100, .int .u8 111, .int .u8 32, .int .u8 121, .int .u8 97, .int .u8 32, .int .u8 119, .int .u8 97, .int .u8 110, .int .u8 116, .int .u8 32] 5 (16, 17))) 5 (bvs ya2) (12, 13)
    rw [World.size_alloc, World.size_alloc] at this
    exact this
  have X3 : Ext Non w (((w.alloc (.cells #[.int .u8 74, .int .u8 101, .int .u8 102, .int .u8 101] 5 (4, 5))).alloc (.cells #[.int .u8 119, .int .u8 104, .int .u8 97, .int .u8 116, .int .u8 32, .int .u8 100, .int .u8 111, .int .u8 32, .int .u8 121, .int .u8 97, .int .u8 32, .int .u8 119, .int .u8 97, .int .u8 110, .int .u8 116, .int .u8 32] 5 (16, 17))).alloc (.cells #[.int .u8 102, .int .u8 111, .int .u8 114, .int .u8 32, .int .u8 110, .int .u8 111, .int .u8 116, .int .u8 104, .int .u8 105, .int .u8 110, .int .u8 103, .int .u8 63] 5 (12, 13))) := (((Ext.refl Non w).alloc _).alloc _).alloc _
  have X13 : Ext Non (w.alloc (.cells #[.int .u8 74, .int .u8 101, .int .u8 102, .int .u8 101] 5 (4, 5))) (((w.alloc (.cells #[.int .u8 74, .int .u8 101, .int .u8 102, .int .u8 101] 5 (4, 5))).alloc (.cells #[.int .u8 119, .int .u8 104, .int .u8 97, .int .u8 116, .int .u8 32, .int .u8 100, .int .u8 111, .int .u8 32, .int .u8 121, .int .u8 97, .int .u8 32, .int .u8 119, .int .u8 97, .int .u8 110, .int .u8 116, .int .u8 32] 5 (16, 17))).alloc (.cells #[.int .u8 102, .int .u8 111, .int .u8 114, .int .u8 32, .int .u8 110, .int .u8 111, .int .u8 116, .int .u8 104, .int .u8 105, .int .u8 110, .int .u8 103, .int .u8 63] 5 (12, 13))) := ((Ext.refl Non _).alloc _).alloc _
  have X23 : Ext Non ((w.alloc (.cells #[.int .u8 74, .int .u8 101, .int .u8 102, .int .u8 101] 5 (4, 5))).alloc (.cells #[.int .u8 119, .int .u8 104, .int .u8 97, .int .u8 116, .int .u8 32, .int .u8 100, .int .u8 111, .int .u8 32, .int .u8 121, .int .u8 97, .int .u8 32, .int .u8 119, .int .u8 97, .int .u8 110, .int .u8 116, .int .u8 32] 5 (16, 17))) (((w.alloc (.cells #[.int .u8 74, .int .u8 101, .int .u8 102, .int .u8 101] 5 (4, 5))).alloc (.cells #[.int .u8 119, .int .u8 104, .int .u8 97, .int .u8 116, .int .u8 32, .int .u8 100, .int .u8 111, .int .u8 32, .int .u8 121, .int .u8 97, .int .u8 32, .int .u8 119, .int .u8 97, .int .u8 110, .int .u8 116, .int .u8 32] 5 (16, 17))).alloc (.cells #[.int .u8 102, .int .u8 111, .int .u8 114, .int .u8 32, .int .u8 110, .int .u8 111, .int .u8 116, .int .u8 104, .int .u8 105, .int .u8 110, .int .u8 103, .int .u8 63] 5 (12, 13))) := (Ext.refl Non _).alloc _
  have hs3 : (((w.alloc (.cells #[.int .u8 74, .int .u8 101, .int .u8 102, .int .u8 101] 5 (4, 5))).alloc (.cells #[.int .u8 119, .int .u8 104, .int .u8 97, .int .u8 116, .int .u8 32, .int .u8 100, .int .u8 111, .int .u8 32, .int .u8 121, .int .u8 97, .int .u8 32, .int .u8 119, .int .u8 97, .int .u8 110, .int .u8 116, .int .u8 32] 5 (16, 17))).alloc (.cells #[.int .u8 102, .int .u8 111, .int .u8 114, .int .u8 32, .int .u8 110, .int .u8 111, .int .u8 116, .int .u8 104, .int .u8 105, .int .u8 110, .int .u8 103, .int .u8 63] 5 (12, 13))).heap.size = w.heap.size + 1 + 1 + 1 := by rw [World.size_alloc, World.size_alloc, World.size_alloc]
  have ctr : Calls Tryd.prog 14 #[.slice (some ⟨w.heap.size, 0, none⟩) 4 4, .slice (some ⟨w.heap.size + 1 + 1 + 1, 0, none⟩) 2 2] ((((w.alloc (.cells #[.int .u8 74, .int .u8 101, .int .u8 102, .int .u8 101] 5 (4, 5))).alloc (.cells #[.int .u8 119, .int .u8 104, .int .u8 97, .int .u8 116, .int .u8 32, .int .u8 100, .int .u8 111, .int .u8 32, .int .u8 121, .int .u8 97, .int .u8 32, .int .u8 119, .int .u8 97, .int .u8 110, .int .u8 116, .int .u8 32] 5 (16, 17))).alloc (.cells #[.int .u8 102, .int .u8 111, .int .u8 114, .int .u8 32, .int .u8 110, .int .u8 111, .int .u8 116, .int .u8 104, .int .u8 105, .int .u8 110, .int .u8 103, .int .u8 63] 5 (12, 13))).alloc (.cells #[.slice (some ⟨w.heap.size + 1, 0, none⟩) 16 16, .slice (some ⟨w.heap.size + 1 + 1, 0, none⟩) 12 12] 22)) fun e w' => e = .returned (.agg (ba (hm jefe (ya1 ++ ya2)))) ∧ Ext Non ((((w.alloc (.cells #[.int .u8 74, .int .u8 101, .int .u8 102, .int .u8 101] 5 (4, 5))).alloc (.cells #[.int .u8 119, .int .u8 104, .int .u8 97, .int .u8 116, .int .u8 32, .int .u8 100, .int .u8 111, .int .u8 32, .int .u8 121, .int .u8 97, .int .u8 32, .int .u8 119, .int .u8 97, .int .u8 110, .int .u8 116, .int .u8 32] 5 (16, 17))).alloc (.cells #[.int .u8 102, .int .u8 111, .int .u8 114, .int .u8 32, .int .u8 110, .int .u8 111, .int .u8 116, .int .u8 104, .int .u8 105, .int .u8 110, .int .u8 103, .int .u8 63] 5 (12, 13))).alloc (.cells #[.slice (some ⟨w.heap.size + 1, 0, none⟩) 16 16, .slice (some ⟨w.heap.size + 1 + 1, 0, none⟩) 12 12] 22)) w' := by
    have P := parts_new (w := (((w.alloc (.cells #[.int .u8 74, .int .u8 101, .int .u8 102, .int .u8 101] 5 (4, 5))).alloc (.cells #[.int .u8 119, .int .u8 104, .int .u8 97, .int .u8 116, .int .u8 32, .int .u8 100, .int .u8 111, .int .u8 32, .int .u8 121, .int .u8 97, .int .u8 32, .int .u8 119, .int .u8 97, .int .u8 110, .int .u8 116, .int .u8 32] 5 (16, 17))).alloc (.cells #[.int .u8 102, .int .u8 111, .int .u8 114, .int .u8 32, .int .u8 110, .int .u8 111, .int .u8 116, .int .u8 104, .int .u8 105, .int .u8 110, .int .u8 103, .int .u8 63] 5 (12, 13)))) (D := fun k => k < (((w.alloc (.cells #[.int .u8 74, .int .u8 101, .int .u8 102, .int .u8 101] 5 (4, 5))).alloc (.cells #[.int .u8 119, .int .u8 104, .int .u8 97, .int .u8 116, .int .u8 32, .int .u8 100, .int .u8 111, .int .u8 32, .int .u8 121, .int .u8 97, .int .u8 32, .int .u8 119, .int .u8 97, .int .u8 110, .int .u8 116, .int .u8 32] 5 (16, 17))).alloc (.cells #[.int .u8 102, .int .u8 111, .int .u8 114, .int .u8 32, .int .u8 110, .int .u8 111, .int .u8 116, .int .u8 104, .int .u8 105, .int .u8 110, .int .u8 103, .int .u8 63] 5 (12, 13))).heap.size) 22 [⟨some ⟨w.heap.size + 1, 0, none⟩, 16, ya1⟩, ⟨some ⟨w.heap.size + 1 + 1, 0, none⟩, 12, ya2⟩] (fun k hk => hk) (fun q hq => by
      simp only [List.mem_cons, List.not_mem_nil, or_false] at hq
      rcases hq with rfl | rfl
      · exact ⟨(r2.extN X23).imp (fun k hk _ => hk), Nat.le_refl 16⟩
      · exact ⟨r3.imp (fun k hk _ => hk), Nat.le_refl 12⟩)
    rw [hs3] at P
    have hs4 : ((((w.alloc (.cells #[.int .u8 74, .int .u8 101, .int .u8 102, .int .u8 101] 5 (4, 5))).alloc (.cells #[.int .u8 119, .int .u8 104, .int .u8 97, .int .u8 116, .int .u8 32, .int .u8 100, .int .u8 111, .int .u8 32, .int .u8 121, .int .u8 97, .int .u8 32, .int .u8 119, .int .u8 97, .int .u8 110, .int .u8 116, .int .u8 32] 5 (16, 17))).alloc (.cells #[.int .u8 102, .int .u8 111, .int .u8 114, .int .u8 32, .int .u8 110, .int .u8 111, .int .u8 116, .int .u8 104, .int .u8 105, .int .u8 110, .int .u8 103, .int .u8 63] 5 (12, 13))).alloc (.cells #[.slice (some ⟨w.heap.size + 1, 0, none⟩) 16 16, .slice (some ⟨w.heap.size + 1 + 1, 0, none⟩) 12 12] 22)).heap.size = w.heap.size + 1 + 1 + 1 + 1 := by rw [World.size_alloc, hs3]
    have := mac_calls (w := ((((w.alloc (.cells #[.int .u8 74, .int .u8 101, .int .u8 102, .int .u8 101] 5 (4, 5))).alloc (.cells #[.int .u8 119, .int .u8 104, .int .u8 97, .int .u8 116, .int .u8 32, .int .u8 100, .int .u8 111, .int .u8 32, .int .u8 121, .int .u8 97, .int .u8 32, .int .u8 119, .int .u8 97, .int .u8 110, .int .u8 116, .int .u8 32] 5 (16, 17))).alloc (.cells #[.int .u8 102, .int .u8 111, .int .u8 114, .int .u8 32, .int .u8 110, .int .u8 111, .int .u8 116, .int .u8 104, .int .u8 105, .int .u8 110, .int .u8 103, .int .u8 63] 5 (12, 13))).alloc (.cells #[.slice (some ⟨w.heap.size + 1, 0, none⟩) 16 16, .slice (some ⟨w.heap.size + 1 + 1, 0, none⟩) 12 12] 22))) (key := jefe) (G.extN (X3.alloc _)) (by omega) 4 4 ((r1.extN (X13.alloc _)).imp (fun k hk _ => hk)) rfl (by decide) (by decide) (ps := [⟨some ⟨w.heap.size + 1, 0, none⟩, 16, ya1⟩, ⟨some ⟨w.heap.size + 1 + 1, 0, none⟩, 12, ya2⟩]) 2 2 ⟨P.row.imp (fun k hk _ => hk), fun q hq => ⟨(P.each q hq).1.imp (fun k hk _ => hk), (P.each q hq).2⟩⟩ rfl (by decide) (by show (ya1 ++ ya2).length ≤ _; decide) (by decide)
    rw [show allOf [⟨some ⟨w.heap.size + 1, 0, none⟩, 16, ya1⟩, ⟨some ⟨w.heap.size + 1 + 1, 0, none⟩, 12, ya2⟩] = ya1 ++ ya2 from rfl] at this
    exact this
  have X4 : Ext Non w ((((w.alloc (.cells #[.int .u8 74, .int .u8 101, .int .u8 102, .int .u8 101] 5 (4, 5))).alloc (.cells #[.int .u8 119, .int .u8 104, .int .u8 97, .int .u8 116, .int .u8 32, .int .u8 100, .int .u8 111, .int .u8 32, .int .u8 121, .int .u8 97, .int .u8 32, .int .u8 119, .int .u8 97, .int .u8 110, .int .u8 116, .int .u8 32] 5 (16, 17))).alloc (.cells #[.int .u8 102, .int .u8 111, .int .u8 114, .int .u8 32, .int .u8 110, .int .u8 111, .int .u8 116, .int .u8 104, .int .u8 105, .int .u8 110, .int .u8 103, .int .u8 63] 5 (12, 13))).alloc (.cells #[.slice (some ⟨w.heap.size + 1, 0, none⟩) 16 16, .slice (some ⟨w.heap.size + 1 + 1, 0, none⟩) 12 12] 22)) := X3.alloc _
  clear r1 r2 r3 X3 X13 X23 hs3
  with_reducible refine Calls.mono ctr ?_
  clear ctr
  rintro e w5 ⟨rfl, x5⟩
  have X6 : Ext Non w (w5.alloc (.cells (ba (hm jefe (ya1 ++ ya2))) 26)) := (X4.transN x5).alloc _
  have B6 := Blk.new w5 26 (ba (hm jefe (ya1 ++ ya2)))
  have cv := run_convert_rd (w5.alloc (.cells (ba (hm jefe (ya1 ++ ya2))) 26)) 22 9 5 Tryd.underlying22 Tryd.underlying9 Tryd.underlying5 (rd_ba B6) 32 32 (hm_len _ _)
  have h1 : (hm jefe (ya1 ++ ya2) == [91, 220, 193, 70, 191, 96, 117, 78, 106, 4, 36, 38, 8, 149, 117, 199, 90, 0, 63, 8, 157, 39, 57, 131, 157, 236, 88, 185, 100, 236, 56, 67]) = true := by rw [hm_jefe]; decide
  have st : (bigStore 26 (.pointer (some ⟨w5.heap.size, 0, none⟩)) (.agg (ba (hm jefe (ya1 ++ ya2))))).run Tryd.prog (w5.alloc (.cells (zrow 32) 26)) = .ok () (w5.alloc (.cells (ba (hm jefe (ya1 ++ ya2))) 26)) := store_mac w5 _ _
  clear X4 x5 B6
  generalize hm jefe (ya1 ++ ya2) = M at *
  go_wp2_with fail
  have r4 : Rd ((w5.alloc (.cells (ba M) 26)).alloc (.cells #[.int .u8 97, .int .u8 98] 5 (2, 3))) (fun k => k = w5.heap.size + 1) (some ⟨w5.heap.size + 1, 0, none⟩) (bvs [97, 98]) := by
    have := rd_mark1 (w5.alloc (.cells (ba M) 26)) 5 (bvs [97, 98]) (2, 3)
    rw [World.size_alloc] at this
    exact this
  have r5 : Rd (((w5.alloc (.cells (ba M) 26)).alloc (.cells #[.int .u8 97, .int .u8 98] 5 (2, 3))).alloc (.cells #[.int .u8 97, .int .u8 98] 5 (2, 3))) (fun k => k = w5.heap.size + 1 + 1) (some ⟨w5.heap.size + 1 + 1, 0, none⟩) (bvs [97, 98]) := by
    have := rd_mark1 ((w5.alloc (.cells (ba M) 26)).alloc (.cells #[.int .u8 97, .int .u8 98] 5 (2, 3))) 5 (bvs [97, 98]) (2, 3)
    rw [World.size_alloc, World.size_alloc] at this
    exact this
  have ctr := same_calls 2 2 2 2 (r4.extN ((Ext.refl Non ((w5.alloc (.cells (ba M) 26)).alloc (.cells #[.int .u8 97, .int .u8 98] 5 (2, 3)))).alloc (.cells #[.int .u8 97, .int .u8 98] 5 (2, 3)))) rfl r5 rfl (by decide)
  with_reducible refine Calls.mono ctr ?_
  clear ctr
  rintro e w7 ⟨rfl, x7⟩
  have X7 : Ext Non w w7 := ((X6.alloc (.cells #[.int .u8 97, .int .u8 98] 5 (2, 3))).alloc (.cells #[.int .u8 97, .int .u8 98] 5 (2, 3))).transN x7
  clear r4 r5 x7 X6 cv st h1
  have e1 : (([97, 98] : List UInt8) == [97, 98]) = true := by decide
  have e2 : (([97, 98] : List UInt8) == [97, 98, 99]) = false := by decide
  go_wp2_with fail
  have r6 := rd_mark1 w7 5 (bvs [97, 98]) (2, 3)
  have r7 : Rd ((w7.alloc (.cells #[.int .u8 97, .int .u8 98] 5 (2, 3))).alloc (.cells #[.int .u8 97, .int .u8 98, .int .u8 99] 5 (3, 4))) (fun k => k = w7.heap.size + 1) (some ⟨w7.heap.size + 1, 0, none⟩) (bvs [97, 98, 99]) := by
    have := rd_mark1 (w7.alloc (.cells #[.int .u8 97, .int .u8 98] 5 (2, 3))) 5 (bvs [97, 98, 99]) (3, 4)
    rw [World.size_alloc] at this
    exact this
  have ctr := same_calls 2 2 3 3 (r6.extN ((Ext.refl Non (w7.alloc (.cells #[.int .u8 97, .int .u8 98] 5 (2, 3)))).alloc (.cells #[.int .u8 97, .int .u8 98, .int .u8 99] 5 (3, 4)))) rfl r7 rfl (by decide)
  with_reducible refine Calls.mono ctr ?_
  clear ctr
  rintro e w8 ⟨rfl, x8⟩
  have X8 : Ext Non w w8 := ((X7.alloc (.cells #[.int .u8 97, .int .u8 98] 5 (2, 3))).alloc (.cells #[.int .u8 97, .int .u8 98, .int .u8 99] 5 (3, 4))).transN x8
  go_wp2_with fail
  go_ret
  exact ⟨rfl, X8⟩
end Go.Proofs.YtgbaijmpfdhoeaaDoor
