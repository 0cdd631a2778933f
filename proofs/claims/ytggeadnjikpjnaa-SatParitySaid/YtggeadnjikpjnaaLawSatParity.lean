/- The row of SatParity, proved: for every input it returns true, and the input reads as it did. No condition beyond the row's own. -/
import Derived.Test.YtggeadnjikpjnaaRows
import Derived.Test.YtggeadnjikpjnaaVmZG
import Derived.Test.YtggeadnjikpjnaaParityRounds
import Derived.WalkKit
import Derived.ProofKit
import Derived.OpenShut
import Derived.ShutString
import Derived.ChangeOld
import Derived.Below
import Derived.SizedLaws
namespace Go.Proofs.Ytggeadnjikpjnaa.satParity
open Go.ChangeShapes Go.WideShapes Go.ChangeAt Go.RowKit
open Go.ChangeMaps (open_string shut_string)
set_option linter.unusedVariables false
theorem follows : Try.prog.follows .mixedOrders = true := by kernel_rfl
theorem said_checks : Vm.checks base said = true := by
  have h : Vm.check1 base (.ofNat 9) ([], .bool true) = true := Vm.check1_of rfl rfl known_true
  unfold Vm.checks said
  simp only [List.all_cons, List.all_nil, Bool.and_true, h]
theorem table_sound : Vm.SoundCall Try.prog table := Vm.checked_sound (Vm.sound follows 1000000) (Vm.sound follows 1000000) said_checks
theorem walk (n : Int) (hn : (Lit.int .u8 n).wf = true) (W : World) : Calls Try.prog 8 #[.int .u8 n] W fun e W' => e = .returned (.bool true) ∧ Below W.heap.size W W' := by
  have h1 : 0 ≤ n ∧ n < 256 := by
    have h2 : IntKind.u8.min = 0 := rfl
    have h3 : IntKind.u8.max = 255 := rfl
    simp [Lit.wf] at hn
    omega
  obtain ⟨m, rfl⟩ := Int.eq_ofNat_of_zero_le h1.1
  exact Vm.calls_true table_sound (Vm.drawn_ok follows) (g := .ofNat 8) (fun _ => Vm.RL.cons (.int _ _) (Vm.RL.nil _ _)) (all_at m) W
theorem own : ownKnob Try.prog.godebug = none := by kernel_rfl
set_option maxRecDepth 100000 in
theorem lifted (os : Os) (started : os.Started) (H : Type) (enc : TypeId × Value → H) :
    ReturnsInHanded {} Try.checked os 8 .any (Rows.satParitySpec.pre6 enc Try.prog Try.f8 Rows.satParityRow.domain false) (Rows.satParitySpec.post enc Try.prog Try.f8 false true false false) := by
  refine returnsInHanded_of_change_sized (C := Try.checked) own started (by kernel_rfl) Try.func8
    (ChangeSpec.witness6 (enc := enc) (C := Try.checked) false ⟨#[], #[.int .u8 0], []⟩ 8 (by kernel_rfl) (by kernel_rfl) (by kernel_rfl) (by kernel_rfl)) ?_
  intro W base args ds gs before hval0 hW hcnd hsz0 _
  have hval : ∀ (j : Nat) t v, Try.f8.params[j]? = some t → args[j]? = some v → Value.okWide Try.prog W .any base t v := hval0
  have hW' := hW
  obtain ⟨p, q, hA0, hV, rfl, hfz, hnd⟩ := hW
  have hA : DataW.TrodAll enc Try.prog W 0 (fun _ => true) true Try.f8.params.toList args.toList ds p := hA0
  rw [Try.params8] at hA hval
  obtain ⟨v0, vs0, d0, ds0, p0, q0, hargs, rfl, rfl, h0, r0⟩ := trodAll_cons hA
  obtain ⟨rfl, rfl, rfl⟩ := trodAll_nil r0
  obtain rfl : args = #[v0] := by cases args; simp_all
  obtain ⟨rfl, rfl⟩ := trodVars_none hV
  obtain ⟨a0, rfl, rfl, rfl, w0⟩ := open_int Try.underlying5 (hval 0 5 v0 rfl rfl) h0
  clear hA0 hval0 hsz0
  refine (walk a0 w0 W).mono fun e W' ⟨he, bel⟩ => ?_
  subst he
  exact ⟨_, rfl, _, _, _, [], _, [], hW', trodAll_mk1 (shut_bool Try.underlying4 _), (trodAll_cons_mk (shut_int Try.underlying5 w0) trodAll_mk0), rfl, bel.frame _, fun h => by cases h⟩
theorem over : Rows.satParityRow.holds Try.pinned (OpenSpec.ofChange Rows.satParitySpec) :=
  OpenClaim.holds_of_wide 8 Try.f8 rfl rfl rfl rfl rfl rfl rfl ⟨rfl, rfl, rfl, rfl, rfl⟩ rfl rfl rfl rfl rfl (by kernel_rfl) Try.func8 (by kernel_rfl)
    (of_decide_eq_true (by kernel_rfl)) (by unfold Func.isWrapper; first | (rw [if_pos (by decide +kernel)]; kernel_rfl) | (rw [if_neg (by decide +kernel)]; exact ⟨rfl, rfl⟩))
    (fun os started H enc _ => lifted os started H enc)
theorem proved : Rows.SatParitySaid := over
#print axioms proved
end Go.Proofs.Ytggeadnjikpjnaa.satParity
namespace Go.Proofs.Ytggeadnjikpjnaa
/-- The row, under a short name, for the claim. -/
theorem satParity_holds : Rows.SatParitySaid := satParity.proved
end Go.Proofs.Ytggeadnjikpjnaa
