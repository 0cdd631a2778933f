/- Chains of clauses: what is told of them, evaluated, lot 4. No condition. -/
import Derived.Test.YtggeadnjikpjnaaChainsBase
namespace Go.Proofs.Ytggeadnjikpjnaa.satChains
set_option linter.unusedVariables false
set_option maxRecDepth 100000
theorem once21 : once 21 = true := by kernel_rfl
theorem some21_1 : ups 17 1 (someOk 21) = true := by kernel_rfl
theorem some21_18 : ups 3 18 (someOk 21) = true := by kernel_rfl
theorem not21_1 : ups 11 1 (notOk 21) = true := by kernel_rfl
theorem not21_12 : ups 9 12 (notOk 21) = true := by kernel_rfl
theorem once22 : once 22 = true := by kernel_rfl
theorem some22_1 : ups 16 1 (someOk 22) = true := by kernel_rfl
theorem some22_17 : ups 5 17 (someOk 22) = true := by kernel_rfl
theorem not22_1 : ups 11 1 (notOk 22) = true := by kernel_rfl
theorem not22_12 : ups 10 12 (notOk 22) = true := by kernel_rfl
theorem once23 : once 23 = true := by kernel_rfl
theorem some23_1 : ups 16 1 (someOk 23) = true := by kernel_rfl
end Go.Proofs.Ytggeadnjikpjnaa.satChains
