/- Five things do not go into four places: the abstract machine's answer, evaluated. No condition. -/
import Derived.Test.YtggeadnjikpjnaaProg
import Derived.KernelRfl
import Derived.Test.YtggeadnjikpjnaaVmD
namespace Go.Proofs.Ytggeadnjikpjnaa.satPigeons
set_option linter.unusedVariables false
/-- The program, compiled for the abstract machine. -/
noncomputable def code : Vm.Tab Vm.CF := Vm.prog Try.prog
noncomputable def i64 (n : Nat) : Vm.AV := .int .i64 (.ofNat n)
set_option maxRecDepth 100000 in
theorem five_four : ((Vm.ev code 1000000 (.ofNat 16) [i64 5, i64 4] .empty).on false fun v _ => Vm.like v (.bool false)) = true := by kernel_rfl
end Go.Proofs.Ytggeadnjikpjnaa.satPigeons
