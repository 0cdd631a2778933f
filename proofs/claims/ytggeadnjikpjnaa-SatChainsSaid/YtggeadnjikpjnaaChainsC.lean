/- Chains of clauses: what is told of them, evaluated, lot 3. No condition. -/
import Derived.Test.YtggeadnjikpjnaaChainsBase
namespace Go.Proofs.Ytggeadnjikpjnaa.satChains
set_option linter.unusedVariables false
set_option maxRecDepth 100000
theorem some18_1 : ups 17 1 (someOk 18) = true := by kernel_rfl
theorem not18_1 : ups 13 1 (notOk 18) = true := by kernel_rfl
theorem not18_14 : ups 4 14 (notOk 18) = true := by kernel_rfl
theorem once19 : once 19 = true := by kernel_rfl
theorem some19_1 : ups 17 1 (someOk 19) = true := by kernel_rfl
theorem some19_18 : ups 1 18 (someOk 19) = true := by kernel_rfl
theorem not19_1 : ups 13 1 (notOk 19) = true := by kernel_rfl
theorem not19_14 : ups 5 14 (notOk 19) = true := by kernel_rfl
theorem once20 : once 20 = true := by kernel_rfl
theorem some20_1 : ups 17 1 (someOk 20) = true := by kernel_rfl
theorem some20_18 : ups 2 18 (someOk 20) = true := by kernel_rfl
theorem not20_1 : ups 12 1 (notOk 20) = true := by kernel_rfl
theorem not20_13 : ups 7 13 (notOk 20) = true := by kernel_rfl
end Go.Proofs.Ytggeadnjikpjnaa.satChains
