/- Bits of unsigned numbers, as natural numbers. -/
import Derived.Test.YtnmpfbffacljfaaDoorMem
import Derived.Laws.BitsLemmas
namespace Go.Proofs.YtnmpfbffacljfaaDoor
open Go.RowKit

theorem bitvec_ofInt_nat (k a : Nat) : BitVec.ofInt k (a : Int) = BitVec.ofNat k a := by simp

/-- Bits of one unsigned kind, at natural numbers below its size. -/
theorem bits_or_nat (k : IntKind) (hk : ∀ n : Nat, n < 2 ^ k.bits → k.wrap (n : Int) = n) (a b : Nat) (ha : a < 2 ^ k.bits) (hb : b < 2 ^ k.bits) : bits .or k (a : Int) (b : Int) = ((a ||| b : Nat) : Int) := by
  have h : (BitVec.ofInt k.bits (a : Int) ||| BitVec.ofInt k.bits (b : Int)).toNat = a ||| b := by
    rw [bitvec_ofInt_nat, bitvec_ofInt_nat, BitVec.toNat_or, BitVec.toNat_ofNat, BitVec.toNat_ofNat, Nat.mod_eq_of_lt ha, Nat.mod_eq_of_lt hb]
  unfold bits
  dsimp only
  rw [h, hk _ (Nat.or_lt_two_pow ha hb)]
theorem bits_and_nat (k : IntKind) (hk : ∀ n : Nat, n < 2 ^ k.bits → k.wrap (n : Int) = n) (a b : Nat) (ha : a < 2 ^ k.bits) (hb : b < 2 ^ k.bits) : bits .and k (a : Int) (b : Int) = ((a &&& b : Nat) : Int) := by
  have h : (BitVec.ofInt k.bits (a : Int) &&& BitVec.ofInt k.bits (b : Int)).toNat = a &&& b := by
    rw [bitvec_ofInt_nat, bitvec_ofInt_nat, BitVec.toNat_and, BitVec.toNat_ofNat, BitVec.toNat_ofNat, Nat.mod_eq_of_lt ha, Nat.mod_eq_of_lt hb]
  unfold bits
  dsimp only
  rw [h, hk _ (Nat.and_lt_two_pow _ hb)]
theorem bits_xor_nat (k : IntKind) (hk : ∀ n : Nat, n < 2 ^ k.bits → k.wrap (n : Int) = n) (a b : Nat) (ha : a < 2 ^ k.bits) (hb : b < 2 ^ k.bits) : bits .xor k (a : Int) (b : Int) = ((a ^^^ b : Nat) : Int) := by
  have h : (BitVec.ofInt k.bits (a : Int) ^^^ BitVec.ofInt k.bits (b : Int)).toNat = a ^^^ b := by
    rw [bitvec_ofInt_nat, bitvec_ofInt_nat, BitVec.toNat_xor, BitVec.toNat_ofNat, BitVec.toNat_ofNat, Nat.mod_eq_of_lt ha, Nat.mod_eq_of_lt hb]
  unfold bits
  dsimp only
  rw [h, hk _ (Nat.xor_lt_two_pow ha hb)]

theorem wrapn_u64 (n : Nat) (h : n < 2 ^ IntKind.u64.bits) : IntKind.u64.wrap (n : Int) = n := by rw [IntKind.wrap_u64]; simp only [IntKind.bits] at h; omega
theorem wrapn_u32 (n : Nat) (h : n < 2 ^ IntKind.u32.bits) : IntKind.u32.wrap (n : Int) = n := by rw [IntKind.wrap_u32]; simp only [IntKind.bits] at h; omega
theorem wrapn_u16 (n : Nat) (h : n < 2 ^ IntKind.u16.bits) : IntKind.u16.wrap (n : Int) = n := by rw [IntKind.wrap_u16]; simp only [IntKind.bits] at h; omega
theorem wrapn_u8 (n : Nat) (h : n < 2 ^ IntKind.u8.bits) : IntKind.u8.wrap (n : Int) = n := by rw [IntKind.wrap_u8]; simp only [IntKind.bits] at h; omega

theorem two64 : 2 ^ IntKind.u64.bits = 18446744073709551616 := by decide
theorem two32 : 2 ^ IntKind.u32.bits = 4294967296 := by decide
theorem two16 : 2 ^ IntKind.u16.bits = 65536 := by decide
theorem two8 : 2 ^ IntKind.u8.bits = 256 := by decide
theorem lt64 {n : Nat} (h : n < 18446744073709551616) : n < 2 ^ IntKind.u64.bits := two64 ▸ h
theorem lt32 {n : Nat} (h : n < 4294967296) : n < 2 ^ IntKind.u32.bits := two32 ▸ h
theorem lt16 {n : Nat} (h : n < 65536) : n < 2 ^ IntKind.u16.bits := two16 ▸ h
theorem lt8 {n : Nat} (h : n < 256) : n < 2 ^ IntKind.u8.bits := two8 ▸ h
theorem or_add (n c i : Nat) (h : c < 2 ^ i) : n * 2 ^ i ||| c = n * 2 ^ i + c := by
  have := Nat.shiftLeft_add_eq_or_of_lt h n
  rw [Nat.shiftLeft_eq] at this
  exact this.symm

set_option maxRecDepth 10000 in
theorem u64_step (n c : Nat) (hc : c < 256) (hn : n * 256 + c < 18446744073709551616) : bits .or .u64 (IntKind.u64.wrap ((n : Int) * 256)) (c : Int) = ((n * 256 + c : Nat) : Int) := by
  have e3 : n * 256 ||| c = n * 256 + c := or_add n c 8 (by omega)
  have h1 : n * 256 < 18446744073709551616 := by omega
  have h2 : c < 18446744073709551616 := by omega
  have e1 : IntKind.u64.wrap ((n : Int) * 256) = ((n * 256 : Nat) : Int) := by rw [IntKind.wrap_u64]; omega
  rw [e1, bits_or_nat .u64 wrapn_u64 (n * 256) c (lt64 h1) (lt64 h2), e3]

/-- What '& 0xffff' leaves of any int. -/
theorem and16_at (n : Int) : ∃ m : Nat, bits .and .i64 n 65535 = (m : Int) ∧ m ≤ 65535 := by
  obtain ⟨m, hm⟩ : ∃ m, m = (BitVec.ofInt 64 n &&& BitVec.ofInt 64 65535).toNat := ⟨_, rfl⟩
  have hle : m ≤ 65535 := by
    rw [hm, BitVec.toNat_and]
    exact Nat.and_le_right
  refine ⟨m, ?_, hle⟩
  show IntKind.i64.wrap ((BitVec.ofInt 64 n &&& BitVec.ofInt 64 65535).toNat : Int) = _
  rw [← hm, IntKind.wrap_i64]
  omega
end Go.Proofs.YtnmpfbffacljfaaDoor
