/- Chains of clauses: what is told of them, evaluated, lot 2. No condition. -/
import Derived.Test.YtggeadnjikpjnaaChainsBase
namespace Go.Proofs.Ytggeadnjikpjnaa.satChains
set_option linter.unusedVariables false
set_option maxRecDepth 100000
theorem once14 : once 14 = true := by kernel_rfl
theorem some14_1 : ups 13 1 (someOk 14) = true := by kernel_rfl
theorem not14_1 : ups 13 1 (notOk 14) = true := by kernel_rfl
theorem once15 : once 15 = true := by kernel_rfl
theorem some15_1 : ups 14 1 (someOk 15) = true := by kernel_rfl
theorem not15_1 : ups 14 1 (notOk 15) = true := by kernel_rfl
theorem once16 : once 16 = true := by kernel_rfl
theorem some16_1 : ups 15 1 (someOk 16) = true := by kernel_rfl
theorem not16_1 : ups 15 1 (notOk 16) = true := by kernel_rfl
theorem once17 : once 17 = true := by kernel_rfl
theorem some17_1 : ups 16 1 (someOk 17) = true := by kernel_rfl
theorem not17_1 : ups 14 1 (notOk 17) = true := by kernel_rfl
theorem not17_15 : ups 2 15 (notOk 17) = true := by kernel_rfl
theorem once18 : once 18 = true := by kernel_rfl
end Go.Proofs.Ytggeadnjikpjnaa.satChains
