/- Chains of clauses: what is told of them, evaluated, lot 6. No condition. -/
import Derived.Test.YtggeadnjikpjnaaChainsBase
namespace Go.Proofs.Ytggeadnjikpjnaa.satChains
set_option linter.unusedVariables false
set_option maxRecDepth 100000
theorem some25_16 : ups 9 16 (someOk 25) = true := by kernel_rfl
theorem not25_1 : ups 9 1 (notOk 25) = true := by kernel_rfl
theorem not25_10 : ups 9 10 (notOk 25) = true := by kernel_rfl
theorem not25_19 : ups 6 19 (notOk 25) = true := by kernel_rfl
theorem once26 : once 26 = true := by kernel_rfl
theorem some26_1 : ups 15 1 (someOk 26) = true := by kernel_rfl
theorem some26_16 : ups 10 16 (someOk 26) = true := by kernel_rfl
theorem not26_1 : ups 9 1 (notOk 26) = true := by kernel_rfl
theorem not26_10 : ups 9 10 (notOk 26) = true := by kernel_rfl
end Go.Proofs.Ytggeadnjikpjnaa.satChains
