/- Chains of clauses: what is told of them, evaluated, lot 8. No condition. -/
import Derived.Test.YtggeadnjikpjnaaChainsBase
namespace Go.Proofs.Ytggeadnjikpjnaa.satChains
set_option linter.unusedVariables false
set_option maxRecDepth 100000
theorem some28_25 : ups 3 25 (someOk 28) = true := by kernel_rfl
theorem not28_1 : ups 8 1 (notOk 28) = true := by kernel_rfl
theorem not28_9 : ups 8 9 (notOk 28) = true := by kernel_rfl
theorem not28_17 : ups 8 17 (notOk 28) = true := by kernel_rfl
theorem not28_25 : ups 3 25 (notOk 28) = true := by kernel_rfl
theorem once29 : once 29 = true := by kernel_rfl
theorem some29_1 : ups 14 1 (someOk 29) = true := by kernel_rfl
theorem some29_15 : ups 10 15 (someOk 29) = true := by kernel_rfl
theorem some29_25 : ups 4 25 (someOk 29) = true := by kernel_rfl
theorem not29_1 : ups 8 1 (notOk 29) = true := by kernel_rfl
end Go.Proofs.Ytggeadnjikpjnaa.satChains
