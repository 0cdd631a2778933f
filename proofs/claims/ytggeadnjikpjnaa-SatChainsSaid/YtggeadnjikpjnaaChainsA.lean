/- Chains of clauses: what is told of them, evaluated, lot 1. No condition. -/
import Derived.Test.YtggeadnjikpjnaaChainsBase
namespace Go.Proofs.Ytggeadnjikpjnaa.satChains
set_option linter.unusedVariables false
set_option maxRecDepth 100000
theorem once2 : once 2 = true := by kernel_rfl
theorem some2_1 : ups 1 1 (someOk 2) = true := by kernel_rfl
theorem not2_1 : ups 1 1 (notOk 2) = true := by kernel_rfl
theorem once3 : once 3 = true := by kernel_rfl
theorem some3_1 : ups 2 1 (someOk 3) = true := by kernel_rfl
theorem not3_1 : ups 2 1 (notOk 3) = true := by kernel_rfl
theorem once4 : once 4 = true := by kernel_rfl
theorem some4_1 : ups 3 1 (someOk 4) = true := by kernel_rfl
theorem not4_1 : ups 3 1 (notOk 4) = true := by kernel_rfl
theorem once5 : once 5 = true := by kernel_rfl
theorem some5_1 : ups 4 1 (someOk 5) = true := by kernel_rfl
theorem not5_1 : ups 4 1 (notOk 5) = true := by kernel_rfl
theorem once6 : once 6 = true := by kernel_rfl
theorem some6_1 : ups 5 1 (someOk 6) = true := by kernel_rfl
theorem not6_1 : ups 5 1 (notOk 6) = true := by kernel_rfl
theorem once7 : once 7 = true := by kernel_rfl
theorem some7_1 : ups 6 1 (someOk 7) = true := by kernel_rfl
theorem not7_1 : ups 6 1 (notOk 7) = true := by kernel_rfl
theorem once8 : once 8 = true := by kernel_rfl
theorem some8_1 : ups 7 1 (someOk 8) = true := by kernel_rfl
theorem not8_1 : ups 7 1 (notOk 8) = true := by kernel_rfl
theorem once9 : once 9 = true := by kernel_rfl
theorem some9_1 : ups 8 1 (someOk 9) = true := by kernel_rfl
theorem not9_1 : ups 8 1 (notOk 9) = true := by kernel_rfl
theorem once10 : once 10 = true := by kernel_rfl
theorem some10_1 : ups 9 1 (someOk 10) = true := by kernel_rfl
theorem not10_1 : ups 9 1 (notOk 10) = true := by kernel_rfl
theorem once11 : once 11 = true := by kernel_rfl
theorem some11_1 : ups 10 1 (someOk 11) = true := by kernel_rfl
theorem not11_1 : ups 10 1 (notOk 11) = true := by kernel_rfl
theorem once12 : once 12 = true := by kernel_rfl
theorem some12_1 : ups 11 1 (someOk 12) = true := by kernel_rfl
theorem not12_1 : ups 11 1 (notOk 12) = true := by kernel_rfl
theorem once13 : once 13 = true := by kernel_rfl
theorem some13_1 : ups 12 1 (someOk 13) = true := by kernel_rfl
theorem not13_1 : ups 12 1 (notOk 13) = true := by kernel_rfl
end Go.Proofs.Ytggeadnjikpjnaa.satChains
