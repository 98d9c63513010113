/- The first roots, by the kernel's reckoning. -/
import Derived.Test.YtbhplepbccgecaaDoorRootP
namespace Go.Proofs.YtbhplepbccgecaaDoor
theorem rootK0 : ∀ i < 8, rootL (prL.getD (i + 0) 0) true 37 % 4294967296 = ktL.getD (i + 0) 0 := by decide +kernel
theorem rootK1 : ∀ i < 8, rootL (prL.getD (i + 8) 0) true 37 % 4294967296 = ktL.getD (i + 8) 0 := by decide +kernel
theorem rootK2 : ∀ i < 8, rootL (prL.getD (i + 16) 0) true 37 % 4294967296 = ktL.getD (i + 16) 0 := by decide +kernel
theorem rootK3 : ∀ i < 8, rootL (prL.getD (i + 24) 0) true 37 % 4294967296 = ktL.getD (i + 24) 0 := by decide +kernel
end Go.Proofs.YtbhplepbccgecaaDoor
