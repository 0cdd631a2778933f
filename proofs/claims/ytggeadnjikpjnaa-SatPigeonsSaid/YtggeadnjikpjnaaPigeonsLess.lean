/- So many things into as many places, or into one fewer: the abstract machine's answers, evaluated. No condition. -/
import Derived.Test.YtggeadnjikpjnaaPigeonsFive
namespace Go.Proofs.Ytggeadnjikpjnaa.satPigeons
set_option linter.unusedVariables false
set_option maxRecDepth 100000
theorem known_true : ((Vm.ev code 1000000 (.ofNat 9) [] .empty).on false fun v _ => Vm.like v (.bool true)) = true := by kernel_rfl
theorem two_one : ((Vm.ev code 1000000 (.ofNat 16) [i64 2, i64 1] .empty).on false fun v _ => Vm.like v (.bool false)) = true := by kernel_rfl
theorem two_two : ((Vm.ev code 1000000 (.ofNat 16) [i64 2, i64 2] .empty).on false fun v _ => Vm.like v (.bool true)) = true := by kernel_rfl
theorem three_two : ((Vm.ev code 1000000 (.ofNat 16) [i64 3, i64 2] .empty).on false fun v _ => Vm.like v (.bool false)) = true := by kernel_rfl
theorem three_three : ((Vm.ev code 1000000 (.ofNat 16) [i64 3, i64 3] .empty).on false fun v _ => Vm.like v (.bool true)) = true := by kernel_rfl
theorem four_three : ((Vm.ev code 1000000 (.ofNat 16) [i64 4, i64 3] .empty).on false fun v _ => Vm.like v (.bool false)) = true := by kernel_rfl
theorem four_four : ((Vm.ev code 1000000 (.ofNat 16) [i64 4, i64 4] .empty).on false fun v _ => Vm.like v (.bool true)) = true := by kernel_rfl
theorem five_five : ((Vm.ev code 1000000 (.ofNat 16) [i64 5, i64 5] .empty).on false fun v _ => Vm.like v (.bool true)) = true := by kernel_rfl
end Go.Proofs.Ytggeadnjikpjnaa.satPigeons
