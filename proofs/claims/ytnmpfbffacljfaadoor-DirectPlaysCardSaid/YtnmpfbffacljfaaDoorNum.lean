/- Numbers and their bytes: plain lemmas. -/
import Derived.Test.YtnmpfbffacljfaaDoorOct
namespace Go.Proofs.YtnmpfbffacljfaaDoor
open Go.RowKit

theorem num_foldl (m : List UInt8) : ∀ a : Nat, m.foldl (fun n c => n * 256 + c.toNat) a = a * 256 ^ m.length + num m := by
  induction m with
  | nil => intro a; simp [num]
  | cons c m ih =>
    intro a
    simp only [List.foldl_cons, List.length_cons, num]
    rw [ih, ih (0 * 256 + c.toNat), Nat.pow_succ]
    simp only [Nat.zero_mul, Nat.zero_add]
    rw [Nat.add_mul, Nat.mul_assoc, Nat.mul_comm 256, Nat.add_assoc]
theorem num_append (l m : List UInt8) : num (l ++ m) = num l * 256 ^ m.length + num m := by
  unfold num
  rw [List.foldl_append, num_foldl]
  rfl
theorem num_cons (c : UInt8) (m : List UInt8) : num (c :: m) = c.toNat * 256 ^ m.length + num m := by
  have := num_append [c] m
  simpa [num] using this
theorem num_be : ∀ (k n : Nat), num (be k n) = n % 256 ^ k
  | 0, n => by simp [be, num, Nat.mod_one]
  | k + 1, n => by
    have h := Nat.mod_mul (x := n) (a := 256 ^ k) (b := 256)
    rw [be, num_cons, be_length, num_be k n, UInt8.toNat_ofNat', show 256 ^ (k + 1) = 256 ^ k * 256 from rfl, h]
    rw [show (2 : Nat) ^ 8 = 256 from rfl, Nat.mul_comm (256 ^ k), Nat.add_comm]
theorem be_mod : ∀ (k a n : Nat), be k (a * 256 ^ k + n) = be k n
  | 0, _, _ => rfl
  | k + 1, a, n => by
    have hp : 0 < 256 ^ k := Nat.pow_pos (by omega)
    have e : a * 256 ^ (k + 1) + n = (a * 256) * 256 ^ k + n := by rw [Nat.pow_succ, Nat.mul_assoc, Nat.mul_comm 256]
    have e2 : ((a * 256) * 256 ^ k + n) / 256 ^ k = a * 256 + n / 256 ^ k := by rw [Nat.mul_comm (a * 256), Nat.mul_add_div hp]
    rw [be, be, e, be_mod k (a * 256) n, e2]
    congr 1
    apply UInt8.toNat_inj.1
    simp only [UInt8.toNat_ofNat']
    omega
theorem be_num : ∀ (k : Nat) (s : List UInt8), s.length = k → be k (num s) = s
  | 0, s, h => by rw [List.eq_nil_of_length_eq_zero h]; rfl
  | k + 1, [], h => by simp at h
  | k + 1, c :: s, h => by
    have hs : s.length = k := by simpa using h
    have hlt := num_lt k s hs
    have hp : 0 < 256 ^ k := Nat.pow_pos (by omega)
    rw [be, num_cons, hs]
    have e1 : (c.toNat * 256 ^ k + num s) / 256 ^ k = c.toNat := by
      rw [Nat.mul_comm, Nat.mul_add_div hp, Nat.div_eq_of_lt hlt, Nat.add_zero]
    rw [e1, be_mod k c.toNat (num s), be_num k s hs]
    simp
theorem num_inj {s t : List UInt8} (h : s.length = t.length) (e : num s = num t) : s = t := by
  rw [← be_num _ s rfl, ← be_num _ t rfl, h, e]

end Go.Proofs.YtnmpfbffacljfaaDoor
