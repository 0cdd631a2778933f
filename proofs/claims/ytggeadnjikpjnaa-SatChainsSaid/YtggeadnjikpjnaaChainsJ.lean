/- Chains of clauses: what is told of them, evaluated, lot 10. No condition. -/
import Derived.Test.YtggeadnjikpjnaaChainsBase
namespace Go.Proofs.Ytggeadnjikpjnaa.satChains
set_option linter.unusedVariables false
set_option maxRecDepth 100000
theorem not30_25 : ups 5 25 (notOk 30) = true := by kernel_rfl
theorem once31 : once 31 = true := by kernel_rfl
theorem some31_1 : ups 13 1 (someOk 31) = true := by kernel_rfl
theorem some31_14 : ups 9 14 (someOk 31) = true := by kernel_rfl
theorem some31_23 : ups 8 23 (someOk 31) = true := by kernel_rfl
theorem not31_1 : ups 7 1 (notOk 31) = true := by kernel_rfl
theorem not31_8 : ups 7 8 (notOk 31) = true := by kernel_rfl
theorem not31_15 : ups 7 15 (notOk 31) = true := by kernel_rfl
theorem not31_22 : ups 7 22 (notOk 31) = true := by kernel_rfl
theorem not31_29 : ups 2 29 (notOk 31) = true := by kernel_rfl
end Go.Proofs.Ytggeadnjikpjnaa.satChains
