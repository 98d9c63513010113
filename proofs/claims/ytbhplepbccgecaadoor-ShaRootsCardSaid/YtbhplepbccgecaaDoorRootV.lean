/- The other roots, by the kernel's reckoning. -/
import Derived.Test.YtbhplepbccgecaaDoorRootP
namespace Go.Proofs.YtbhplepbccgecaaDoor
theorem rootK4 : ∀ i < 8, rootL (prL.getD (i + 32) 0) true 37 % 4294967296 = ktL.getD (i + 32) 0 := by decide +kernel
theorem rootK5 : ∀ i < 8, rootL (prL.getD (i + 40) 0) true 37 % 4294967296 = ktL.getD (i + 40) 0 := by decide +kernel
theorem rootK6 : ∀ i < 8, rootL (prL.getD (i + 48) 0) true 37 % 4294967296 = ktL.getD (i + 48) 0 := by decide +kernel
theorem rootK7 : ∀ i < 8, rootL (prL.getD (i + 56) 0) true 37 % 4294967296 = ktL.getD (i + 56) 0 := by decide +kernel
theorem rootH : ∀ i < 8, rootL (prL.getD i 0) false 37 % 4294967296 = htL.getD i 0 := by decide +kernel
end Go.Proofs.YtbhplepbccgecaaDoor
