/- Roots of primes, by digits: plain, no program in sight; their values by the kernel's reckoning. -/
namespace Go.Proofs.YtbhplepbccgecaaDoor

/-- One row of a product, k digits of it. -/
def tIn (a b : List Nat) (i : Nat) : Nat → List Nat → List Nat
  | 0, o => o
  | k + 1, o => let p := tIn a b i k o; p.set (i + k) ((p.getD (i + k) 0 + a.getD i 0 * b.getD k 0) % 18446744073709551616)
/-- i rows of it. -/
def tOut (a b : List Nat) : Nat → List Nat → List Nat
  | 0, o => o
  | i + 1, o => tIn a b i b.length (tOut a b i o)
/-- What is carried, i digits of it. -/
def tCar : Nat → List Nat → List Nat
  | 0, o => o
  | i + 1, o => let p := tCar i o; (p.set (i + 1) ((p.getD (i + 1) 0 + p.getD i 0 / 65536) % 18446744073709551616)).set i (p.getD i 0 % 65536)
def timesL (a b : List Nat) : List Nat := tCar (a.length + b.length - 1) (tOut a b a.length (List.replicate (a.length + b.length) 0))
def digL (n : Nat) : List Nat := [n % 65536, n / 65536 % 65536, n / 4294967296 % 65536, n / 281474976710656]
def abvL (a b : List Nat) : Nat → Bool
  | 0 => false
  | i + 1 => if a.getD i 0 = b.getD i 0 then abvL a b i else decide (a.getD i 0 > b.getD i 0)
def mostL (p : Nat) (c : Bool) : List Nat := if c then [0, 0, 0, 0, 0, 0, p] else [0, 0, 0, 0, p]
def powL (x : Nat) (c : Bool) : List Nat := let d := digL x; let y := timesL d d; if c then timesL y d else y
def overL (x p : Nat) (c : Bool) : Bool := abvL (powL x c) (mostL p c) (max (powL x c).length (mostL p c).length)
def rootL (p : Nat) (c : Bool) : Nat → Nat
  | 0 => 0
  | j + 1 => let x := rootL p c j; if overL (x + 2 ^ (36 - j)) p c then x else x + 2 ^ (36 - j)

theorem tIn_len (a b : List Nat) (i : Nat) : ∀ k o, (tIn a b i k o).length = o.length
  | 0, _ => rfl
  | k + 1, o => by simp only [tIn, List.length_set]; exact tIn_len a b i k o
theorem tOut_len (a b : List Nat) : ∀ i o, (tOut a b i o).length = o.length
  | 0, _ => rfl
  | i + 1, o => by simp only [tOut, tIn_len]; exact tOut_len a b i o
theorem tCar_len : ∀ i o, (tCar i o).length = o.length
  | 0, _ => rfl
  | i + 1, o => by simp only [tCar, List.length_set]; exact tCar_len i o
theorem timesL_len (a b : List Nat) : (timesL a b).length = a.length + b.length := by unfold timesL; rw [tCar_len, tOut_len, List.length_replicate]
theorem rootL_lt (p : Nat) (c : Bool) : ∀ j, j ≤ 37 → rootL p c j + 2 ^ (37 - j) ≤ 2 ^ 37
  | 0, _ => by simp [rootL]
  | j + 1, h => by
    have ih := rootL_lt p c j (by omega)
    have e : 2 ^ (37 - j) = 2 ^ (36 - j) + 2 ^ (36 - j) := by rw [show 37 - j = (36 - j) + 1 from by omega, Nat.pow_succ]; omega
    rw [show 37 - (j + 1) = 36 - j from by omega]
    have hp := Nat.two_pow_pos (36 - j)
    simp only [rootL]
    split <;> omega

/-- Is a number a prime? -/
def isPk (n : Nat) : Nat → Bool
  | 0 => true
  | k + 1 => isPk n k && n % (k + 2) != 0
/-- How many primes are among the k numbers from 2 on. -/
def cntP : Nat → Nat
  | 0 => 0
  | k + 1 => cntP k + if isPk (k + 2) k then 1 else 0
theorem cntP_mono : ∀ a b, a ≤ b → cntP a ≤ cntP b := by
  intro a b h
  induction b with
  | zero => rw [Nat.le_zero.1 h]; exact Nat.le_refl _
  | succ b ih =>
    rcases Nat.lt_or_ge b a with h1 | h1
    · rw [show a = b + 1 from by omega]; exact Nat.le_refl _
    · exact Nat.le_trans (ih h1) (by simp only [cntP]; omega)
def prL : List Nat := [2, 3, 5, 7, 11, 13, 17, 19, 23, 29, 31, 37, 41, 43, 47, 53, 59, 61, 67, 71, 73, 79, 83, 89, 97, 101, 103, 107, 109, 113, 127, 131, 137, 139, 149, 151, 157, 163, 167, 173, 179, 181, 191, 193, 197, 199, 211, 223, 227, 229, 233, 239, 241, 251, 257, 263, 269, 271, 277, 281, 283, 293, 307, 311]
def ktL : List Nat := [1116352408, 1899447441, 3049323471, 3921009573, 961987163, 1508970993, 2453635748, 2870763221, 3624381080, 310598401, 607225278, 1426881987, 1925078388, 2162078206, 2614888103, 3248222580, 3835390401, 4022224774, 264347078, 604807628, 770255983, 1249150122, 1555081692, 1996064986, 2554220882, 2821834349, 2952996808, 3210313671, 3336571891, 3584528711, 113926993, 338241895, 666307205, 773529912, 1294757372, 1396182291, 1695183700, 1986661051, 2177026350, 2456956037, 2730485921, 2820302411, 3259730800, 3345764771, 3516065817, 3600352804, 4094571909, 275423344, 430227734, 506948616, 659060556, 883997877, 958139571, 1322822218, 1537002063, 1747873779, 1955562222, 2024104815, 2227730452, 2361852424, 2428436474, 2756734187, 3204031479, 3329325298]
def htL : List Nat := [1779033703, 3144134277, 1013904242, 2773480762, 1359893119, 2600822924, 528734635, 1541459225]
theorem prime_at : ∀ i < 64, cntP (prL.getD i 0 - 2) = i ∧ isPk (prL.getD i 0) (prL.getD i 0 - 2) = true ∧ 2 ≤ prL.getD i 0 ∧ prL.getD i 0 ≤ 311 := by decide +kernel
end Go.Proofs.YtbhplepbccgecaaDoor
