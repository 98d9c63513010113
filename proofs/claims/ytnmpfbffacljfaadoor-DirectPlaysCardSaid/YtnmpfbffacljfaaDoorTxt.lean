/- The document's answer for layer 1: Text and Number. -/
import Derived.Test.YtnmpfbffacljfaaDoorSeq
import Derived.Test.YtnmpfbffacljfaaDoorByte
namespace Go.Proofs.YtnmpfbffacljfaaDoor
open Go.RowKit

/-- Text: the bytes of a number. -/
theorem text_calls (w : World) (n : Nat) (hn : (n : Int) ≤ 18446744073709551615) (k : Nat) (hk : k ≤ 8) :
    Calls Tryd.prog 60 #[.int .u64 n, .int .i64 k] w fun e w' => e = .returned (.string (str (be k n))) ∧ Ext Non w w' := by
  go_enter Tryd.func60, Tryd.ntmps60
  go_wp2
  go_loopw [0, 5, 6] (fun m s i wr => ∃ j : Nat, j ≤ k ∧ m = .int .u64 (n / 256 ^ j : Nat) ∧ s = .string (str (be j n)) ∧ i = .int .i64 j ∧ Ext Non w wr) (fun _ _ i _ => k - (intOf i).toNat)
  case atStart => exact ⟨0, by omega, by simp, rfl, rfl, Ext.refl _ _⟩
  case round =>
    obtain ⟨j, hj, rfl, rfl, rfl, X⟩ := hrel
    obtain ⟨m, hm⟩ : ∃ m, n / 256 ^ j = m := ⟨_, rfl⟩
    rw [hm]
    have hle : m ≤ n := hm ▸ Nat.div_le_self _ _
    by_cases hjk : j < k
    · obtain ⟨b, hb, HB⟩ : ∃ b : UInt8, (m : Int) % 256 = (b.toNat : Int) ∧ Hid (UInt8.ofNat m = b) := ⟨UInt8.ofNat m, by simp, rfl⟩
      have cv := run_convert_rd (P := Tryd.prog) (wr.alloc (.cells #[.int .u8 (b.toNat : Int)] 5)) 50 9 5 Tryd.underlying50 Tryd.underlying9 Tryd.underlying5 (rd_new1 wr 5 b) 1 1 rfl
      obtain ⟨hs1, hs2, hs3, hs4, hmax⟩ := sum_facts (l := [b]) (m := be j n) (r := be (j + 1) n) (by rw [← HB.out, ← hm]; rfl) 1 j rfl (be_length _ _) (by omega)
      have hd : m / 256 = n / 256 ^ (j + 1) := by rw [← hm, Nat.div_div_eq_div_mul, Nat.pow_succ]
      clear hm
      have HD := Lib.hid hd
      clear hd
      go_wp2
      exact ⟨⟨j + 1, by omega, by rw [← HD.out]; rfl, rfl, by go_num, X.alloc _⟩, by simp [intOf]; omega⟩
    · obtain rfl : j = k := by omega
      go_wp2
      go_ret
      exact ⟨rfl, X⟩

/-- Number: what a text's bytes come to. -/
theorem number_calls (w : World) (l : List UInt8) (hl : l.length ≤ 8) :
    Calls Tryd.prog 47 #[.string (str l)] w fun e w' => e = .returned (.int .u64 (num l)) ∧ w = w' := by
  go_enter Tryd.func47, Tryd.ntmps47
  go_wp2
  go_loopw [3, 4] (fun m i wr => ∃ j : Nat, j ≤ l.length ∧ m = .int .u64 (num (l.take j)) ∧ i = .int .i64 j ∧ w = wr) (fun _ i _ => l.length - (intOf i).toNat)
  case atStart => exact ⟨0, by omega, rfl, rfl, rfl⟩
  case round =>
    obtain ⟨j, hj, rfl, rfl, rfl⟩ := hrel
    by_cases hjl : j < l.length
    · have hn := num_take l j hjl
      have hb := num_lt (j + 1) (l.take (j + 1)) (by simp; omega)
      have hp : 256 ^ (j + 1) ≤ 256 ^ 8 := Nat.pow_le_pow_right (by decide) (by omega)
      have hp8 : (256 : Nat) ^ 8 = 18446744073709551616 := by decide
      have hN : num (l.take (j + 1)) < 18446744073709551616 := by omega
      clear hb hp hp8
      have hc := l[j].toNat_lt
      have i1 : (j : Int) < (l.length : Int) := by omega
      go_wp2_with fail
      refine ⟨⟨j + 1, by omega, ?_, by go_num, trivial⟩, by simp [intOf]; omega⟩
      have e : ∀ h, (str l)[j]'h = l[j] := fun h => rfl
      rw [e, hn, IntKind.wrap_u64, IntKind.wrap_u64]
      congr 1
      omega
    · obtain rfl : j = l.length := by omega
      rw [List.take_length]
      go_wp2
      go_ret
      exact ⟨rfl, rfl⟩
end Go.Proofs.YtnmpfbffacljfaaDoor
