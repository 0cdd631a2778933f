/- The row of SatChains, proved: for every input it returns true, and the inputs read as they did. No condition beyond the row's own. -/
import Derived.Test.YtggeadnjikpjnaaRows
import Derived.Test.YtggeadnjikpjnaaChainsLaw
import Derived.WalkKit
import Derived.ProofKit
import Derived.OpenShut
import Derived.ShutString
import Derived.ChangeOld
import Derived.Below
import Derived.SizedLaws
namespace Go.Proofs.Ytggeadnjikpjnaa.satChains
open Go.ChangeShapes Go.WideShapes Go.ChangeAt Go.RowKit
open Go.ChangeMaps (open_string shut_string)
set_option linter.unusedVariables false
theorem walk (n0 : Int) (h0 : (Lit.int .u8 n0).wf = true) (n1 : Int) (h1 : (Lit.int .u8 n1).wf = true) (W : World) : Calls Try.prog 7 #[.int .u8 n0, .int .u8 n1] W fun e W' => e = .returned (.bool true) ∧ Below W.heap.size W W' := by
  have h0' : 0 ≤ n0 ∧ n0 ≤ 255 := by
    have h2 : IntKind.u8.min = 0 := rfl
    have h3 : IntKind.u8.max = 255 := rfl
    simp [Lit.wf] at h0
    omega
  obtain ⟨m0, rfl⟩ := Int.eq_ofNat_of_zero_le h0'.1
  have h1' : 0 ≤ n1 ∧ n1 ≤ 255 := by
    have h2 : IntKind.u8.min = 0 := rfl
    have h3 : IntKind.u8.max = 255 := rfl
    simp [Lit.wf] at h1
    omega
  obtain ⟨m1, rfl⟩ := Int.eq_ofNat_of_zero_le h1'.1
  have hm : m0 % 30 < 30 := Nat.mod_lt _ (by decide)
  exact Vm.calls_true (sound (m0 % 30 + 2) (by omega) (by omega)) (Vm.drawn_ok follows) (g := .ofNat 7) (fun _ => Vm.RL.cons (.int _ _) (Vm.RL.cons (.int _ _) (Vm.RL.nil _ _))) (all_at m0 m1 (by omega)) W
theorem own : ownKnob Try.prog.godebug = none := by kernel_rfl
set_option maxRecDepth 100000 in
theorem lifted (os : Os) (started : os.Started) (H : Type) (enc : TypeId × Value → H) :
    ReturnsInHanded {} Try.checked os 7 .any (Rows.satChainsSpec.pre6 enc Try.prog Try.f7 Rows.satChainsRow.domain false) (Rows.satChainsSpec.post enc Try.prog Try.f7 false true false false) := by
  refine returnsInHanded_of_change_sized (C := Try.checked) own started (by kernel_rfl) Try.func7
    (ChangeSpec.witness6 (enc := enc) (C := Try.checked) false ⟨#[], #[.int .u8 0, .int .u8 0], []⟩ 8 (by kernel_rfl) (by kernel_rfl) (by kernel_rfl) (by kernel_rfl)) ?_
  intro W base args ds gs before hval0 hW hcnd hsz0 _
  have hval : ∀ (j : Nat) t v, Try.f7.params[j]? = some t → args[j]? = some v → Value.okWide Try.prog W .any base t v := hval0
  have hW' := hW
  obtain ⟨p, q, hA0, hV, rfl, hfz, hnd⟩ := hW
  have hA : DataW.TrodAll enc Try.prog W 0 (fun _ => true) true Try.f7.params.toList args.toList ds p := hA0
  rw [Try.params7] at hA hval
  obtain ⟨v0, vs0, d0, ds0, p0, q0, hargs, rfl, rfl, h0, r0⟩ := trodAll_cons hA
  obtain ⟨v1, vs1, d1, ds1, p1, q1, rfl, rfl, rfl, h1, r1⟩ := trodAll_cons r0
  obtain ⟨rfl, rfl, rfl⟩ := trodAll_nil r1
  obtain rfl : args = #[v0, v1] := by cases args; simp_all
  obtain ⟨rfl, rfl⟩ := trodVars_none hV
  obtain ⟨a0, rfl, rfl, rfl, w0⟩ := open_int Try.underlying5 (hval 0 5 v0 rfl rfl) h0
  obtain ⟨a1, rfl, rfl, rfl, w1⟩ := open_int Try.underlying5 (hval 1 5 v1 rfl rfl) h1
  clear hA0 hval0 hsz0
  refine (walk a0 w0 a1 w1 W).mono fun e W' ⟨he, bel⟩ => ?_
  subst he
  exact ⟨_, rfl, _, _, _, [], _, [], hW', trodAll_mk1 (shut_bool Try.underlying4 _), (trodAll_cons_mk (shut_int Try.underlying5 w0) (trodAll_cons_mk (shut_int Try.underlying5 w1) trodAll_mk0)), rfl, bel.frame _, fun h => by cases h⟩
theorem over : Rows.satChainsRow.holds Try.pinned (OpenSpec.ofChange Rows.satChainsSpec) :=
  OpenClaim.holds_of_wide 7 Try.f7 rfl rfl rfl rfl rfl rfl rfl ⟨rfl, rfl, rfl, rfl, rfl⟩ rfl rfl rfl rfl rfl (by kernel_rfl) Try.func7 (by kernel_rfl)
    (of_decide_eq_true (by kernel_rfl)) (by unfold Func.isWrapper; first | (rw [if_pos (by decide +kernel)]; kernel_rfl) | (rw [if_neg (by decide +kernel)]; exact ⟨rfl, rfl⟩))
    (fun os started H enc _ => lifted os started H enc)
theorem proved : Rows.SatChainsSaid := over
#print axioms proved
end Go.Proofs.Ytggeadnjikpjnaa.satChains
namespace Go.Proofs.Ytggeadnjikpjnaa
/-- The row, under a short name, for the claim. -/
theorem satChains_holds : Rows.SatChainsSaid := satChains.proved
end Go.Proofs.Ytggeadnjikpjnaa
