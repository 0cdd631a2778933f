/- Chains of clauses: what is told of them, evaluated, lot 9. No condition. -/
import Derived.Test.YtggeadnjikpjnaaChainsBase
namespace Go.Proofs.Ytggeadnjikpjnaa.satChains
set_option linter.unusedVariables false
set_option maxRecDepth 100000
theorem not29_9 : ups 8 9 (notOk 29) = true := by kernel_rfl
theorem not29_17 : ups 8 17 (notOk 29) = true := by kernel_rfl
theorem not29_25 : ups 4 25 (notOk 29) = true := by kernel_rfl
theorem once30 : once 30 = true := by kernel_rfl
theorem some30_1 : ups 13 1 (someOk 30) = true := by kernel_rfl
theorem some30_14 : ups 10 14 (someOk 30) = true := by kernel_rfl
theorem some30_24 : ups 6 24 (someOk 30) = true := by kernel_rfl
theorem not30_1 : ups 8 1 (notOk 30) = true := by kernel_rfl
theorem not30_9 : ups 8 9 (notOk 30) = true := by kernel_rfl
theorem not30_17 : ups 8 17 (notOk 30) = true := by kernel_rfl
end Go.Proofs.Ytggeadnjikpjnaa.satChains
