/- Terms beside terms: the calls that are told of them, the law, evaluated. No condition. -/
import Derived.Test.YtjnejkganejdbaaGreatDefs
namespace Go.Proofs.Ytjnejkganejdbaa.termGreat
set_option linter.unusedVariables false
set_option maxRecDepth 100000
open Vm hiding Id Told
theorem wide_count0 : checkFC 0 = true := by kernel_rfl
theorem wide_count1 : checkFC 1 = true := by kernel_rfl
theorem wide_count2 : checkFC 2 = true := by kernel_rfl
theorem wide_nodes0 : checkFN 0 = true := by kernel_rfl
theorem wide_nodes1 : checkFN 1 = true := by kernel_rfl
theorem wide_made0 : checkFM 0 = true := by kernel_rfl
theorem wide_made1 : checkFM 1 = true := by kernel_rfl
theorem wide_made2 : checkFM 2 = true := by kernel_rfl
theorem wide0 (x : Int) : rest x false 0 = true := by kernel_rfl
theorem wide1 (x : Int) : rest x false 1 = true := by kernel_rfl
theorem wide2 (x : Int) : rest x false 2 = true := by kernel_rfl
end Go.Proofs.Ytjnejkganejdbaa.termGreat
