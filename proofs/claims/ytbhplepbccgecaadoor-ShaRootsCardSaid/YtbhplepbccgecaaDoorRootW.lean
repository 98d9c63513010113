/- All roots. -/
import Derived.Test.YtbhplepbccgecaaDoorRootU
import Derived.Test.YtbhplepbccgecaaDoorRootV
namespace Go.Proofs.YtbhplepbccgecaaDoor
theorem rootK (i : Nat) (h : i < 64) : rootL (prL.getD i 0) true 37 % 4294967296 = ktL.getD i 0 := by
  rcases Nat.lt_or_ge i 8 with h0 | h0
  · have := rootK0 (i - 0) (by omega)
    rwa [show i - 0 + 0 = i from by omega] at this
  rcases Nat.lt_or_ge i 16 with h1 | h1
  · have := rootK1 (i - 8) (by omega)
    rwa [show i - 8 + 8 = i from by omega] at this
  rcases Nat.lt_or_ge i 24 with h2 | h2
  · have := rootK2 (i - 16) (by omega)
    rwa [show i - 16 + 16 = i from by omega] at this
  rcases Nat.lt_or_ge i 32 with h3 | h3
  · have := rootK3 (i - 24) (by omega)
    rwa [show i - 24 + 24 = i from by omega] at this
  rcases Nat.lt_or_ge i 40 with h4 | h4
  · have := rootK4 (i - 32) (by omega)
    rwa [show i - 32 + 32 = i from by omega] at this
  rcases Nat.lt_or_ge i 48 with h5 | h5
  · have := rootK5 (i - 40) (by omega)
    rwa [show i - 40 + 40 = i from by omega] at this
  rcases Nat.lt_or_ge i 56 with h6 | h6
  · have := rootK6 (i - 48) (by omega)
    rwa [show i - 48 + 48 = i from by omega] at this
  rcases Nat.lt_or_ge i 64 with h7 | h7
  · have := rootK7 (i - 56) (by omega)
    rwa [show i - 56 + 56 = i from by omega] at this
  omega
end Go.Proofs.YtbhplepbccgecaaDoor
