/- Terms within terms: how many nodes, evaluated, lot 1. No condition. -/
import Derived.Test.YtjnejkganejdbaaGreatBase
namespace Go.Proofs.Ytjnejkganejdbaa.termGreat
set_option linter.unusedVariables false
set_option maxRecDepth 100000
open Vm hiding Id Told
theorem count0 : allFrom 83 0 checkC = true := by kernel_rfl
theorem count83 : allFrom 34 83 checkC = true := by kernel_rfl
theorem count117 : allFrom 26 117 checkC = true := by kernel_rfl
theorem count143 : allFrom 22 143 checkC = true := by kernel_rfl
theorem count165 : allFrom 20 165 checkC = true := by kernel_rfl
theorem count185 : allFrom 18 185 checkC = true := by kernel_rfl
theorem count203 : allFrom 16 203 checkC = true := by kernel_rfl
theorem count219 : allFrom 15 219 checkC = true := by kernel_rfl
end Go.Proofs.Ytjnejkganejdbaa.termGreat
