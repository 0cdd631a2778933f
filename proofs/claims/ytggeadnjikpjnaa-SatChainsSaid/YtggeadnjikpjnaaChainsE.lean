/- Chains of clauses: what is told of them, evaluated, lot 5. No condition. -/
import Derived.Test.YtggeadnjikpjnaaChainsBase
namespace Go.Proofs.Ytggeadnjikpjnaa.satChains
set_option linter.unusedVariables false
set_option maxRecDepth 100000
theorem some23_17 : ups 6 17 (someOk 23) = true := by kernel_rfl
theorem not23_1 : ups 10 1 (notOk 23) = true := by kernel_rfl
theorem not23_11 : ups 10 11 (notOk 23) = true := by kernel_rfl
theorem not23_21 : ups 2 21 (notOk 23) = true := by kernel_rfl
theorem once24 : once 24 = true := by kernel_rfl
theorem some24_1 : ups 15 1 (someOk 24) = true := by kernel_rfl
theorem some24_16 : ups 8 16 (someOk 24) = true := by kernel_rfl
theorem not24_1 : ups 10 1 (notOk 24) = true := by kernel_rfl
theorem not24_11 : ups 10 11 (notOk 24) = true := by kernel_rfl
theorem not24_21 : ups 3 21 (notOk 24) = true := by kernel_rfl
theorem once25 : once 25 = true := by kernel_rfl
theorem some25_1 : ups 15 1 (someOk 25) = true := by kernel_rfl
end Go.Proofs.Ytggeadnjikpjnaa.satChains
