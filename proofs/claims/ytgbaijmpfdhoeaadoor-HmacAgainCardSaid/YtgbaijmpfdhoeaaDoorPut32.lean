/- Contracts of package octets: U32 of a writer. -/
import Derived.Test.YtgbaijmpfdhoeaaDoorWrt
namespace Go.Proofs.YtgbaijmpfdhoeaaDoor
open Go.RowKit

theorem put32_calls {w : World} {base p : Nat} {g : Option Nat} {l : List UInt8} (hW : Wr w base p g l) (hbase : base ≤ w.heap.size) (x : Nat) (hx : (x : Int) ≤ 4294967295) (hlen : l.length ≤ 70368744170000) :
    Calls Tryd.prog 31 #[.pointer (some ⟨p, 0, none⟩), .int .u32 x, .int .i64 4] w fun e w' => e = .returned (.pointer (some ⟨p, 0, none⟩)) ∧ ∃ g', WStep w base p g w' g' (l ++ be 4 x) := by
  go_enter Tryd.func31, Tryd.ntmps31
  go_wp2
  go_loopw [7] (fun t wr => ∃ (k : Nat) (g1 : Option Nat) (l1 : List UInt8), k ≤ 4 ∧ t = .int .i64 ((k : Int) - 1) ∧ WStep w base p g wr g1 l1 ∧ l1 ++ be k x = l ++ be 4 x ∧ l1.length ≤ l.length + 4) (fun t _ => (intOf t + 1).toNat)
  case atStart => exact ⟨4, g, l, Nat.le_refl _, rfl, WStep.refl hW, rfl, by omega⟩
  case round =>
    obtain ⟨k, g1, l1, hk, rfl, hs, heq, hl1⟩ := hrel
    have HEQ := Lib.hid heq
    clear heq
    cases k with
    | zero =>
      go_wp2
      go_ret
      have he : l1 = l ++ be 4 x := by have := HEQ.out; rwa [be, List.append_nil] at this
      exact ⟨rfl, g1, he ▸ hs⟩
    | succ k =>
      have e1 : ((k + 1 : Nat) : Int) - 1 = (k : Int) := by omega
      rw [e1]
      obtain ⟨A, c, hb, ho, hg⟩ := hs.wr.ex
      have hne := hs.wr.ne
      have hc := hb.cell 0
      obtain ⟨b8, hby, HB⟩ := be_byte x k
      have hxw : IntKind.u64.wrap (x : Int) = x := IntWalk.u64_in _ (by omega)
      have h8 : IntKind.i64.wrap (8 * (k : Int)) = 8 * k := IntWalk.i64_in _ (by omega)
      have hbw : base ≤ wr.heap.size := Nat.le_trans hbase hs.ext.size
      have hpl := hb.lt
      go_wp2
      go_region_law ((refine step_ap8 (by rfl) _ _ (by rfl) l1.length (by rfl) ((ho.alloc _).drew) rfl 1 1 (by rfl) (D := fun _ => True) (m := [b8]) (rd_new1 wr _ b8) rfl (by simp; omega) (by simp; omega) ?_; intro A' c' w1 ho1 hx1 hob; have hb1 := Blk.ext ((hb.alloc _).drew) hx1 (by rw [hg]; exact hne); have hc1 := hb1.cell 0; have hf1 := hb1.frozen 0))
      all_goals
        subst hg
        have hput := WStep.put hb.lt hne (((Ext.refl Non wr).alloc _).drew) hx1 ho1 hob hb1 rfl (l1.length + 1) rfl
        have HQ := HEQ.out
        have HB' := HB.out
        have HR : Hid (∃ (j : Nat) (g2 : Option Nat) (l2 : List UInt8), j ≤ 4 ∧ Value.int .i64 ((k : Int) - 1) = .int .i64 ((j : Int) - 1) ∧ WStep w base p g (w1.setCell ⟨p, 0, none⟩ (.slice A' (l1.length + 1) c')) g2 l2 ∧ l2 ++ be j x = l ++ be 4 x ∧ l2.length ≤ l.length + 4) := by
          refine ⟨k, ob A', l1 ++ [b8], by omega, rfl, hs.trans hput, ?_, ?_⟩
          · rw [← HQ, ← HB', be, List.append_assoc]; rfl
          · have := congrArg List.length HQ
            simp only [List.length_append, be_length, List.length_singleton] at this ⊢
            omega
        clear HQ HB' hput
        go_wp2
        exact ⟨HR.out, by simp [intOf]⟩
theorem wu32_calls {w : World} {base p : Nat} {g : Option Nat} {l : List UInt8} (hW : Wr w base p g l) (hbase : base ≤ w.heap.size) (x : Nat) (hx : (x : Int) ≤ 4294967295) (hlen : l.length ≤ 70368744170000) :
    Calls Tryd.prog 21 #[.pointer (some ⟨p, 0, none⟩), .int .u32 x] w fun e w' => e = .returned (.pointer (some ⟨p, 0, none⟩)) ∧ ∃ g', WStep w base p g w' g' (l ++ be 4 x) := by
  go_enter Tryd.func21, Tryd.ntmps21
  go_wp2_with (go_at_call 31; refine (put32_calls hW hbase x hx hlen).mono ?_; rintro e w1 ⟨rfl, g', hs⟩)
  go_ret
  exact ⟨rfl, g', hs⟩

end Go.Proofs.YtgbaijmpfdhoeaaDoor
