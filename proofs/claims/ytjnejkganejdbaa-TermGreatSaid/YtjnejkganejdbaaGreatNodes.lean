/- Terms within terms: whether they are any, and what is made of them, evaluated. No condition. -/
import Derived.Test.YtjnejkganejdbaaGreatBase
namespace Go.Proofs.Ytjnejkganejdbaa.termGreat
set_option linter.unusedVariables false
set_option maxRecDepth 100000
open Vm hiding Id Told
theorem known_true : ((qevP pkAll code M (.ofNat 6) [] .empty).on false fun v _ => like v (.bool true)) = true := by kernel_rfl
theorem nodes_first : checkN0 = true := by kernel_rfl
theorem nodes0 : allFrom 25 0 checkN = true := by kernel_rfl
theorem nodes25 : allFrom 25 25 checkN = true := by kernel_rfl
theorem nodes50 : allFrom 25 50 checkN = true := by kernel_rfl
theorem nodes75 : allFrom 25 75 checkN = true := by kernel_rfl
theorem nodes100 : allFrom 25 100 checkN = true := by kernel_rfl
theorem nodes125 : allFrom 25 125 checkN = true := by kernel_rfl
theorem nodes150 : allFrom 25 150 checkN = true := by kernel_rfl
theorem nodes175 : allFrom 25 175 checkN = true := by kernel_rfl
theorem nodes200 : allFrom 25 200 checkN = true := by kernel_rfl
theorem nodes225 : allFrom 25 225 checkN = true := by kernel_rfl
theorem nodes250 : allFrom 25 250 checkN = true := by kernel_rfl
theorem nodes275 : allFrom 25 275 checkN = true := by kernel_rfl
theorem nodes300 : allFrom 25 300 checkN = true := by kernel_rfl
theorem nodes325 : allFrom 25 325 checkN = true := by kernel_rfl
theorem nodes350 : allFrom 25 350 checkN = true := by kernel_rfl
theorem nodes375 : allFrom 24 375 checkN = true := by kernel_rfl
end Go.Proofs.Ytjnejkganejdbaa.termGreat
