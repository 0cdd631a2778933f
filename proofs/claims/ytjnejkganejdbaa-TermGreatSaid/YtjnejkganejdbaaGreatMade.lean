/- Terms within terms: what is made of them, evaluated. No condition. -/
import Derived.Test.YtjnejkganejdbaaGreatBase
namespace Go.Proofs.Ytjnejkganejdbaa.termGreat
set_option linter.unusedVariables false
set_option maxRecDepth 100000
open Vm hiding Id Told
theorem made0 : allFrom 25 0 checkM = true := by kernel_rfl
theorem made25 : allFrom 25 25 checkM = true := by kernel_rfl
theorem made50 : allFrom 25 50 checkM = true := by kernel_rfl
theorem made75 : allFrom 25 75 checkM = true := by kernel_rfl
theorem made100 : allFrom 25 100 checkM = true := by kernel_rfl
theorem made125 : allFrom 25 125 checkM = true := by kernel_rfl
theorem made150 : allFrom 25 150 checkM = true := by kernel_rfl
theorem made175 : allFrom 25 175 checkM = true := by kernel_rfl
theorem made200 : allFrom 25 200 checkM = true := by kernel_rfl
theorem made225 : allFrom 25 225 checkM = true := by kernel_rfl
theorem made250 : allFrom 25 250 checkM = true := by kernel_rfl
theorem made275 : allFrom 25 275 checkM = true := by kernel_rfl
theorem made300 : allFrom 25 300 checkM = true := by kernel_rfl
theorem made325 : allFrom 25 325 checkM = true := by kernel_rfl
theorem made350 : allFrom 25 350 checkM = true := by kernel_rfl
theorem made375 : allFrom 25 375 checkM = true := by kernel_rfl
end Go.Proofs.Ytjnejkganejdbaa.termGreat
