/- SHA-256 as plain functions of lists. Plain, no program. -/
import Derived.Test.YtnmpfbffacljfaaDoorByte
namespace Go.Proofs.YtnmpfbffacljfaaDoor

theorem getD_app {α : Type} (a b : List α) (i : Nat) (d : α) (h : i < a.length) : (a ++ b).getD i d = a.getD i d := by
  simp [List.getD, List.getElem?_append_left h]
theorem getD_app_r {α : Type} (a b : List α) (i : Nat) (d : α) (h : a.length ≤ i) : (a ++ b).getD i d = b.getD (i - a.length) d := by
  simp [List.getD, List.getElem?_append_right h]
def rotr (x : UInt32) (k : Nat) : UInt32 := x <<< UInt32.ofNat (32 - k) ||| x >>> UInt32.ofNat k
def sg0 (x : UInt32) : UInt32 := rotr x 7 ^^^ rotr x 18 ^^^ x >>> 3
def sg1 (x : UInt32) : UInt32 := rotr x 17 ^^^ rotr x 19 ^^^ x >>> 10
/-- The i-th number of a block. -/
def word (l : List UInt8) (i : Nat) : UInt32 := UInt32.ofNat (num ((l.drop (4 * i)).take 4))
def schedN (l : List UInt8) (i : Nat) (w : List UInt32) : UInt32 :=
  if i < 16 then word l i else sg1 (w.getD (i - 2) 0) + w.getD (i - 7) 0 + sg0 (w.getD (i - 15) 0) + w.getD (i - 16) 0
/-- The numbers that a block makes, i of them. -/
def sched (l : List UInt8) : Nat → List UInt32
  | 0 => []
  | i + 1 => sched l i ++ [schedN l i (sched l i)]
def W (l : List UInt8) (j : Nat) : UInt32 := (sched l 64).getD j 0
theorem sched_len (l : List UInt8) : ∀ i, (sched l i).length = i
  | 0 => rfl
  | i + 1 => by simp [sched, sched_len l i]
theorem sched_get (l : List UInt8) (i : Nat) : ∀ j, j < i → (sched l i).getD j 0 = schedN l j (sched l j) := by
  induction i with
  | zero => intro j h; omega
  | succ i ih =>
    intro j h
    have hl := sched_len l i
    show (sched l i ++ [schedN l i (sched l i)]).getD j 0 = _
    rcases Nat.lt_or_ge j i with hj | hj
    · rw [getD_app _ _ _ _ (by omega)]
      exact ih j hj
    · obtain rfl : j = i := by omega
      rw [getD_app_r _ _ _ _ (by omega), hl, Nat.sub_self]
      rfl
theorem W_first (l : List UInt8) {j : Nat} (h : j < 16) : W l j = word l j := by
  unfold W
  rw [sched_get l 64 j (by omega)]
  unfold schedN
  rw [if_pos h]
theorem W_next (l : List UInt8) {j : Nat} (h : 16 ≤ j) (h2 : j < 64) : W l j = sg1 (W l (j - 2)) + W l (j - 7) + sg0 (W l (j - 15)) + W l (j - 16) := by
  have e : ∀ k, k < j → (sched l j).getD k 0 = W l k := fun k hk => by
    unfold W
    rw [sched_get l j k hk, sched_get l 64 k (by omega)]
  show (sched l 64).getD j 0 = _
  rw [sched_get l 64 j h2]
  unfold schedN
  rw [if_neg (by omega), e _ (by omega), e _ (by omega), e _ (by omega), e _ (by omega)]

def KT : List UInt32 := [
  0x428a2f98, 0x71374491, 0xb5c0fbcf, 0xe9b5dba5, 0x3956c25b, 0x59f111f1, 0x923f82a4, 0xab1c5ed5,
  0xd807aa98, 0x12835b01, 0x243185be, 0x550c7dc3, 0x72be5d74, 0x80deb1fe, 0x9bdc06a7, 0xc19bf174,
  0xe49b69c1, 0xefbe4786, 0x0fc19dc6, 0x240ca1cc, 0x2de92c6f, 0x4a7484aa, 0x5cb0a9dc, 0x76f988da,
  0x983e5152, 0xa831c66d, 0xb00327c8, 0xbf597fc7, 0xc6e00bf3, 0xd5a79147, 0x06ca6351, 0x14292967,
  0x27b70a85, 0x2e1b2138, 0x4d2c6dfc, 0x53380d13, 0x650a7354, 0x766a0abb, 0x81c2c92e, 0x92722c85,
  0xa2bfe8a1, 0xa81a664b, 0xc24b8b70, 0xc76c51a3, 0xd192e819, 0xd6990624, 0xf40e3585, 0x106aa070,
  0x19a4c116, 0x1e376c08, 0x2748774c, 0x34b0bcb5, 0x391c0cb3, 0x4ed8aa4a, 0x5b9cca4f, 0x682e6ff3,
  0x748f82ee, 0x78a5636f, 0x84c87814, 0x8cc70208, 0x90befffa, 0xa4506ceb, 0xbef9a3f7, 0xc67178f2]
def H0 : List UInt32 := [0x6a09e667, 0xbb67ae85, 0x3c6ef372, 0xa54ff53a, 0x510e527f, 0x9b05688c, 0x1f83d9ab, 0x5be0cd19]
def KA (i : Nat) : UInt32 := KT.getD i 0

def tt (e f g h k w : UInt32) : UInt32 := h + (rotr e 6 ^^^ rotr e 11 ^^^ rotr e 25) + (e &&& f ^^^ ~~~e &&& g) + k + w
def uu (a b c : UInt32) : UInt32 := (rotr a 2 ^^^ rotr a 13 ^^^ rotr a 22) + (a &&& b ^^^ a &&& c ^^^ b &&& c)
/-- One step. -/
def rnd (k w : UInt32) : List UInt32 → List UInt32
  | [a, b, c, d, e, f, g, h] => [tt e f g h k w + uu a b c, a, b, c, d + tt e f g h k w, e, f, g]
  | _ => []
def rnds (l : List UInt8) (v : List UInt32) : Nat → List UInt32
  | 0 => v
  | i + 1 => rnd (KA i) (W l i) (rnds l v i)
theorem eight {v : List UInt32} (h : v.length = 8) : ∃ a b c d e f g k, v = [a, b, c, d, e, f, g, k] := by
  match v, h with
  | [a, b, c, d, e, f, g, k], _ => exact ⟨a, b, c, d, e, f, g, k, rfl⟩
theorem rnd_len (k w : UInt32) {v : List UInt32} (h : v.length = 8) : (rnd k w v).length = 8 := by
  obtain ⟨a, b, c, d, e, f, g, k, rfl⟩ := eight h
  rfl
theorem rnds_len (l : List UInt8) {v : List UInt32} (h : v.length = 8) : ∀ i, (rnds l v i).length = 8
  | 0 => h
  | i + 1 => rnd_len _ _ (rnds_len l h i)
def addv (h v : List UInt32) : List UInt32 := List.zipWith (· + ·) h v
theorem addv_len {h v : List UInt32} (hh : h.length = 8) (hv : v.length = 8) : (addv h v).length = 8 := by simp [addv, hh, hv]
/-- What a block makes of eight numbers. -/
def comp (h : List UInt32) (l : List UInt8) : List UInt32 := addv h (rnds l h 64)
theorem comp_len {h : List UInt32} (l : List UInt8) (hh : h.length = 8) : (comp h l).length = 8 := addv_len hh (rnds_len l hh 64)
/-- The eight numbers behind k blocks. -/
def hk (l : List UInt8) : Nat → List UInt32
  | 0 => H0
  | k + 1 => comp (hk l k) ((l.drop (64 * k)).take 64)
theorem hk_len (l : List UInt8) : ∀ k, (hk l k).length = 8
  | 0 => rfl
  | k + 1 => comp_len _ (hk_len l k)
theorem hk_append (l m : List UInt8) : ∀ k, 64 * k ≤ l.length → hk (l ++ m) k = hk l k
  | 0, _ => rfl
  | k + 1, h => by
    unfold hk
    rw [hk_append l m k (by omega), List.drop_append_of_le_length (by omega), List.take_append_of_le_length (by simp; omega)]
def pad (l : List UInt8) : List UInt8 := l ++ (128 :: zeros ((119 - l.length % 64) % 64) ++ be 8 (8 * l.length))
theorem pad_len (l : List UInt8) : (pad l).length % 64 = 0 ∧ (pad l).length = l.length + (1 + (119 - l.length % 64) % 64 + 8) := by
  have : (pad l).length = l.length + (1 + (119 - l.length % 64) % 64 + 8) := by
    simp [pad, be_length, zeros_length]
    omega
  exact ⟨by omega, this⟩
/-- The numbers of a sum. -/
def shn (l : List UInt8) : List UInt32 := hk (pad l) ((pad l).length / 64)
theorem shn_len (l : List UInt8) : (shn l).length = 8 := hk_len _ _
/-- The sum. -/
def sha (l : List UInt8) : List UInt8 := (shn l).flatMap fun x => be 4 x.toNat
theorem flat4_len : ∀ v : List UInt32, (v.flatMap fun x => be 4 x.toNat).length = 4 * v.length
  | [] => rfl
  | x :: v => by
    rw [List.flatMap_cons, List.length_append, be_length, flat4_len v, List.length_cons]
    omega
theorem flat4_get : ∀ (v : List UInt32) (i k : Nat), i < v.length → k < 4 → (v.flatMap fun x => be 4 x.toNat).getD (4 * i + k) 0 = UInt8.ofNat ((v.getD i 0).toNat / 256 ^ (3 - k))
  | [], i, k, h, _ => by simp at h
  | x :: v, 0, k, _, hk => by
    rw [List.flatMap_cons, getD_app _ _ _ _ (by rw [be_length]; omega)]
    match k, hk with
    | 0, _ => rfl
    | 1, _ => rfl
    | 2, _ => rfl
    | 3, _ => rfl
  | x :: v, i + 1, k, h, hk => by
    rw [List.flatMap_cons, getD_app_r _ _ _ _ (by rw [be_length]; omega), be_length, show 4 * (i + 1) + k - 4 = 4 * i + k from by omega, flat4_get v i k (by simpa using h) hk]
    rfl
theorem sha_len (l : List UInt8) : (sha l).length = 32 := by unfold sha; rw [flat4_len, shn_len]
theorem sha_get (l : List UInt8) (i k : Nat) (hi : i < 8) (hk : k < 4) : (sha l).getD (4 * i + k) 0 = UInt8.ofNat (((shn l).getD i 0).toNat / 256 ^ (3 - k)) :=
  flat4_get _ i k (by rw [shn_len]; exact hi) hk

/-! ### known sums -/
theorem sha_none : sha [] = [0xe3, 0xb0, 0xc4, 0x42, 0x98, 0xfc, 0x1c, 0x14, 0x9a, 0xfb, 0xf4, 0xc8, 0x99, 0x6f, 0xb9, 0x24, 0x27, 0xae, 0x41, 0xe4, 0x64, 0x9b, 0x93, 0x4c, 0xa4, 0x95, 0x99, 0x1b, 0x78, 0x52, 0xb8, 0x55] := by decide +kernel
theorem sha_abc : sha [97, 98, 99] = [0xba, 0x78, 0x16, 0xbf, 0x8f, 0x01, 0xcf, 0xea, 0x41, 0x41, 0x40, 0xde, 0x5d, 0xae, 0x22, 0x23, 0xb0, 0x03, 0x61, 0xa3, 0x96, 0x17, 0x7a, 0x9c, 0xb4, 0x10, 0xff, 0x61, 0xf2, 0x00, 0x15, 0xad] := by decide +kernel
theorem rnds_zero (l : List UInt8) (v : List UInt32) : rnds l v 0 = v := rfl
theorem rnds_succ (l : List UInt8) (v : List UInt32) (i : Nat) : rnds l v (i + 1) = rnd (KA i) (W l i) (rnds l v i) := rfl
theorem hk_zero (l : List UInt8) : hk l 0 = H0 := rfl
theorem hk_succ (l : List UInt8) (k : Nat) : hk l (k + 1) = comp (hk l k) ((l.drop (64 * k)).take 64) := rfl
theorem tt_def (e f g h k w : UInt32) : tt e f g h k w = h + (rotr e 6 ^^^ rotr e 11 ^^^ rotr e 25) + (e &&& f ^^^ ~~~e &&& g) + k + w := rfl
theorem uu_def (a b c : UInt32) : uu a b c = (rotr a 2 ^^^ rotr a 13 ^^^ rotr a 22) + (a &&& b ^^^ a &&& c ^^^ b &&& c) := rfl
theorem comp_def (h : List UInt32) (l : List UInt8) : comp h l = addv h (rnds l h 64) := rfl
theorem pad_def (l : List UInt8) : pad l = l ++ (128 :: zeros ((119 - l.length % 64) % 64) ++ be 8 (8 * l.length)) := rfl
theorem shn_def (l : List UInt8) : shn l = hk (pad l) ((pad l).length / 64) := rfl
theorem sha_def (l : List UInt8) : sha l = (shn l).flatMap fun x => be 4 x.toNat := rfl
attribute [irreducible] W sched hk rnds comp sha pad shn rotr tt uu
end Go.Proofs.YtnmpfbffacljfaaDoor
