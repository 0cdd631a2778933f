/- The row of TermNames, proved: for every input it returns true, and the inputs read as they did. No condition beyond the row's own. -/
import Derived.Test.YtjnejkganejdbaaRows
import Derived.Test.YtjnejkganejdbaaLibH
import Derived.Test.YtjnejkganejdbaaLibP
import Derived.Test.YtjnejkganejdbaaLibB
import Derived.WalkKit
import Derived.ProofKit
import Derived.OpenShut
import Derived.ShutString
import Derived.ChangeOld
import Derived.Below
import Derived.SizedLaws
namespace Go.Proofs.Ytjnejkganejdbaa.termNames
open Go.ChangeShapes Go.WideShapes Go.ChangeAt Go.RowKit
open Go.ChangeMaps (open_string shut_string)
set_option linter.unusedVariables false
theorem own : ownKnob Try.prog.godebug = none := by kernel_rfl
set_option maxRecDepth 100000 in
theorem lifted (os : Os) (started : os.Started) (H : Type) (enc : TypeId × Value → H) :
    ReturnsInHanded {} Try.checked os 5 .any (Rows.termNamesSpec.pre6 enc Try.prog Try.f5 Rows.termNamesRow.domain false) (Rows.termNamesSpec.post enc Try.prog Try.f5 false true false false) := by
  refine returnsInHanded_of_change_sized (C := Try.checked) own started (by kernel_rfl) Try.func5
    (ChangeSpec.witness6 (enc := enc) (C := Try.checked) false ⟨#[], #[.int .u8 0, .bool false], []⟩ 8 (by kernel_rfl) (by kernel_rfl) (by kernel_rfl) (by kernel_rfl)) ?_
  intro W base args ds gs before hval0 hW hcnd hsz0 _
  have hsz : (DataW.weightsEach Try.prog (Try.f5.params.toList ++ Rows.termNamesSpec.plain.varTypes Try.prog) (ds ++ gs)).all (· ≤ reachBytes) = true := hsz0
  have hval : ∀ (j : Nat) t v, Try.f5.params[j]? = some t → args[j]? = some v → Value.okWide Try.prog W .any base t v := hval0
  have hW' := hW
  obtain ⟨p, q, hA0, hV, rfl, hfz, hnd⟩ := hW
  have hA : DataW.TrodAll enc Try.prog W 0 (fun _ => true) true Try.f5.params.toList args.toList ds p := hA0
  rw [Try.params5] at hA hval hsz
  have hback := hA
  obtain ⟨v0, vs0, d0, ds0, p0, q0, hargs, rfl, rfl, h0, r0⟩ := trodAll_cons hA
  obtain ⟨v1, vs1, d1, ds1, p1, q1, rfl, rfl, rfl, h1, r1⟩ := trodAll_cons r0
  obtain ⟨rfl, rfl, rfl⟩ := trodAll_nil r1
  obtain rfl : args = #[v0, v1] := by cases args; simp_all
  obtain ⟨rfl, rfl⟩ := trodVars_none hV
  have sz : ∀ (j : Nat) (t : TypeId) (d : DataW H), ([5, 4] : List TypeId)[j]? = some t → [d0, d1][j]? = some d → Vm.sized Try.prog t d := by
    intro j t d h1 h2 q hq
    have h3 := List.all_eq_true.1 hsz q (DataW.weights_mem_each (j := j) (t := t) (d := d) ?_ ?_ q hq)
    · simpa using h3
    · rw [List.getElem?_append_left (by exact (List.getElem?_eq_some_iff.mp h1).1)]; exact h1
    · simpa using h2
  obtain ⟨a0, rfl, rfl, rfl, w0⟩ := open_int Try.underlying5 (hval 0 5 v0 rfl rfl) h0
  obtain ⟨a1, rfl, rfl, rfl⟩ := open_bool Try.underlying4 (hval 1 4 v1 rfl rfl) h1
  clear hA0 hval0 hsz0
  have hc := (show CA F.law10_TermNames [Vm.AV.int .u8 a0, Vm.AV.bool a1] Vm.St.empty = Vm.R.ok (Vm.AV.bool true) Vm.St.empty by
    have hb := bounds_u8 w0
    have e : ((a0.toNat : Nat) : Int) = a0 := by omega
    have q := TermNames_ok .empty a0.toNat a1 Vm.room_empty (by show (0 : Nat) ≤ _; omega) (by omega)
    rw [e] at q
    exact q)
  have hf : F.law10_TermNames.val = 5 := by kernel_rfl
  have hcalls := (ca_sound _ _ _ _ _ hc).2 (Vm.E1 W) W _ (Vm.rel_in W) (Vm.RL.cons (.int .u8 a0) (Vm.RL.cons (.bool a1) (Vm.RL.nil _ _)))
  rw [hf] at hcalls
  refine Calls.mono hcalls ?_
  rintro e W' ⟨E', v, rfl, k1, k2⟩
  have k3 := Vm.rv_bool k1
  subst k3
  have bel := Vm.below_of k2.ext
  exact ⟨_, rfl, _, _, _, [], _, [], hW', trodAll_mk1 (shut_bool Try.underlying4 _), Vm.trodAll_back (by kernel_rfl) (by kernel_rfl) (by kernel_rfl) bel (by decide) hback, rfl, bel.frame _, fun h => by cases h⟩
theorem over : Rows.termNamesRow.holds Try.pinned (OpenSpec.ofChange Rows.termNamesSpec) :=
  OpenClaim.holds_of_wide 5 Try.f5 rfl rfl rfl rfl rfl rfl rfl ⟨rfl, rfl, rfl, rfl, rfl⟩ rfl rfl rfl rfl rfl (by kernel_rfl) Try.func5 (by kernel_rfl)
    (of_decide_eq_true (by kernel_rfl)) (by unfold Func.isWrapper; first | (rw [if_pos (by decide +kernel)]; kernel_rfl) | (rw [if_neg (by decide +kernel)]; exact ⟨rfl, rfl⟩))
    (fun os started H enc _ => lifted os started H enc)
theorem proved : Rows.TermNamesSaid := over
#print axioms proved
end Go.Proofs.Ytjnejkganejdbaa.termNames
namespace Go.Proofs.Ytjnejkganejdbaa
/-- The row, under a short name, for the claim. -/
theorem termNames_holds : Rows.TermNamesSaid := termNames.proved
end Go.Proofs.Ytjnejkganejdbaa

