/- Chains of clauses: what is told of them, evaluated, lot 7. No condition. -/
import Derived.Test.YtggeadnjikpjnaaChainsBase
namespace Go.Proofs.Ytggeadnjikpjnaa.satChains
set_option linter.unusedVariables false
set_option maxRecDepth 100000
theorem not26_19 : ups 7 19 (notOk 26) = true := by kernel_rfl
theorem once27 : once 27 = true := by kernel_rfl
theorem some27_1 : ups 14 1 (someOk 27) = true := by kernel_rfl
theorem some27_15 : ups 10 15 (someOk 27) = true := by kernel_rfl
theorem some27_25 : ups 2 25 (someOk 27) = true := by kernel_rfl
theorem not27_1 : ups 9 1 (notOk 27) = true := by kernel_rfl
theorem not27_10 : ups 9 10 (notOk 27) = true := by kernel_rfl
theorem not27_19 : ups 8 19 (notOk 27) = true := by kernel_rfl
theorem once28 : once 28 = true := by kernel_rfl
theorem some28_1 : ups 14 1 (someOk 28) = true := by kernel_rfl
theorem some28_15 : ups 10 15 (someOk 28) = true := by kernel_rfl
end Go.Proofs.Ytggeadnjikpjnaa.satChains
