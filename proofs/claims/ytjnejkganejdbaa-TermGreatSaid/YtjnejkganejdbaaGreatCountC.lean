/- Terms within terms: how many nodes, evaluated, lot 3. No condition. -/
import Derived.Test.YtjnejkganejdbaaGreatBase
namespace Go.Proofs.Ytjnejkganejdbaa.termGreat
set_option linter.unusedVariables false
set_option maxRecDepth 100000
open Vm hiding Id Told
theorem count330 : allFrom 10 330 checkC = true := by kernel_rfl
theorem count340 : allFrom 10 340 checkC = true := by kernel_rfl
theorem count350 : allFrom 9 350 checkC = true := by kernel_rfl
theorem count359 : allFrom 9 359 checkC = true := by kernel_rfl
theorem count368 : allFrom 9 368 checkC = true := by kernel_rfl
theorem count377 : allFrom 9 377 checkC = true := by kernel_rfl
theorem count386 : allFrom 9 386 checkC = true := by kernel_rfl
theorem count395 : allFrom 6 395 checkC = true := by kernel_rfl
end Go.Proofs.Ytjnejkganejdbaa.termGreat
