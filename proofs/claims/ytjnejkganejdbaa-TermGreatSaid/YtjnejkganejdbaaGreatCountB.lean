/- Terms within terms: how many nodes, evaluated, lot 2. No condition. -/
import Derived.Test.YtjnejkganejdbaaGreatBase
namespace Go.Proofs.Ytjnejkganejdbaa.termGreat
set_option linter.unusedVariables false
set_option maxRecDepth 100000
open Vm hiding Id Told
theorem count234 : allFrom 14 234 checkC = true := by kernel_rfl
theorem count248 : allFrom 13 248 checkC = true := by kernel_rfl
theorem count261 : allFrom 13 261 checkC = true := by kernel_rfl
theorem count274 : allFrom 12 274 checkC = true := by kernel_rfl
theorem count286 : allFrom 12 286 checkC = true := by kernel_rfl
theorem count298 : allFrom 11 298 checkC = true := by kernel_rfl
theorem count309 : allFrom 11 309 checkC = true := by kernel_rfl
theorem count320 : allFrom 10 320 checkC = true := by kernel_rfl
end Go.Proofs.Ytjnejkganejdbaa.termGreat
