/- The row of SatSolves, proved: for every input it returns true, and the inputs read as they did. No condition beyond the row's own. -/
import Derived.Test.YtggeadnjikpjnaaRows
import Derived.Test.YtggeadnjikpjnaaLibH
import Derived.Test.YtggeadnjikpjnaaLibK
import Derived.WalkKit
import Derived.ProofKit
import Derived.OpenShut
import Derived.ShutString
import Derived.ChangeOld
import Derived.Below
import Derived.SizedLaws
namespace Go.Proofs.Ytggeadnjikpjnaa.satSolves
open Go.ChangeShapes Go.WideShapes Go.ChangeAt Go.RowKit
open Go.ChangeMaps (open_string shut_string)
set_option linter.unusedVariables false
theorem own : ownKnob Try.prog.godebug = none := by kernel_rfl
set_option maxRecDepth 100000 in
theorem lifted (os : Os) (started : os.Started) (H : Type) (enc : TypeId × Value → H) :
    ReturnsInHanded {} Try.checked os 3 .any (Rows.satSolvesSpec.pre6 enc Try.prog Try.f3 Rows.satSolvesRow.domain false) (Rows.satSolvesSpec.post enc Try.prog Try.f3 false true false false) := by
  refine returnsInHanded_of_change_sized (C := Try.checked) own started (by kernel_rfl) Try.func3
    (ChangeSpec.witness6 (enc := enc) (C := Try.checked) false ⟨#[], #[.slice none 0 0, .int .u8 0, .slice none 0 0], []⟩ 8 (by kernel_rfl) (by kernel_rfl) (by kernel_rfl) (by kernel_rfl)) ?_
  intro W base args ds gs before hval0 hW hcnd hsz0 _
  have hsz : (DataW.weightsEach Try.prog (Try.f3.params.toList ++ Rows.satSolvesSpec.plain.varTypes Try.prog) (ds ++ gs)).all (· ≤ reachBytes) = true := hsz0
  have hval : ∀ (j : Nat) t v, Try.f3.params[j]? = some t → args[j]? = some v → Value.okWide Try.prog W .any base t v := hval0
  have hW' := hW
  obtain ⟨p, q, hA0, hV, rfl, hfz, hnd⟩ := hW
  have hA : DataW.TrodAll enc Try.prog W 0 (fun _ => true) true Try.f3.params.toList args.toList ds p := hA0
  rw [Try.params3] at hA hval hsz
  have hback := hA
  obtain ⟨v0, vs0, d0, ds0, p0, q0, hargs, rfl, rfl, h0, r0⟩ := trodAll_cons hA
  obtain ⟨v1, vs1, d1, ds1, p1, q1, rfl, rfl, rfl, h1, r1⟩ := trodAll_cons r0
  obtain ⟨v2, vs2, d2, ds2, p2, q2, rfl, rfl, rfl, h2, r2⟩ := trodAll_cons r1
  obtain ⟨rfl, rfl, rfl⟩ := trodAll_nil r2
  obtain rfl : args = #[v0, v1, v2] := by cases args; simp_all
  obtain ⟨rfl, rfl⟩ := trodVars_none hV
  have sz : ∀ (j : Nat) (t : TypeId) (d : DataW H), ([22, 5, 23] : List TypeId)[j]? = some t → [d0, d1, d2][j]? = some d → Vm.sized Try.prog t d := by
    intro j t d h1 h2 q hq
    have h3 := List.all_eq_true.1 hsz q (DataW.weights_mem_each (j := j) (t := t) (d := d) ?_ ?_ q hq)
    · simpa using h3
    · rw [List.getElem?_append_left (by exact (List.getElem?_eq_some_iff.mp h1).1)]; exact h1
    · simpa using h2
  obtain ⟨a0, b0, c0, rfl⟩ := okWide_slice Try.underlying22 (hval 0 22 v0 rfl rfl)
  obtain ⟨n0, h0⟩ := h0
  obtain ⟨u0, w0, l0, e0, g0, k0, m0⟩ := Vm.got_rows2 Try.underlying22 Try.underlying31 Try.underlying3 c31 b31 c3 b3 h0 (sz 0 22 d0 rfl rfl)
  have e0' : Value.slice a0 b0 c0 = u0 := by simpa [Value.cells] using e0
  subst e0'
  obtain ⟨a1, rfl, rfl, rfl, w1⟩ := open_int Try.underlying5 (hval 1 5 v1 rfl rfl) h1
  obtain ⟨a2, b2, c2, rfl⟩ := okWide_slice Try.underlying23 (hval 2 23 v2 rfl rfl)
  obtain ⟨n2, h2⟩ := h2
  obtain ⟨u2, w2, l2, e2, g2, k2⟩ := Vm.got_bools Try.underlying23 Try.underlying4 c4 b4 h2 (sz 2 23 d2 rfl rfl)
  have e2' : Value.slice a2 b2 c2 = u2 := by simpa [Value.cells] using e2
  subst e2'
  clear hA0 hval0 hsz0
  have hc := (show CA F.law18_SatSolves [w0, Vm.AV.int .u8 a1, w2] Vm.St.empty = Vm.R.ok (Vm.AV.bool true) Vm.St.empty by
    have hb := Vm.bounds_u8 w1
    have e : ((a1.toNat : Nat) : Int) = a1 := by omega
    have q := solves_true .empty Vm.room_empty k0 m0 k2 a1.toNat (by omega)
    rw [e] at q
    exact q)
  have hf : F.law18_SatSolves.val = 3 := by kernel_rfl
  have hcalls := (ca_sound _ _ _ _ _ hc).2 (Vm.E1 W) W _ (Vm.rel_in (fun k p h => by cases h)) (Vm.RL.cons (g0) (Vm.RL.cons (.int .u8 a1) (Vm.RL.cons (g2) (Vm.RL.nil _ _))))
  rw [hf] at hcalls
  refine Calls.mono hcalls ?_
  rintro e W' ⟨E', v, rfl, k1, k2⟩
  have k3 := Vm.rv_bool k1
  subst k3
  have bel := Vm.below_of k2.ext
  exact ⟨_, rfl, _, _, _, [], _, [], hW', trodAll_mk1 (shut_bool Try.underlying4 _), Vm.trodAll_back (by kernel_rfl) (by kernel_rfl) (by kernel_rfl) bel (by decide) hback, rfl, bel.frame _, fun h => by cases h⟩
theorem over : Rows.satSolvesRow.holds Try.pinned (OpenSpec.ofChange Rows.satSolvesSpec) :=
  OpenClaim.holds_of_wide 3 Try.f3 rfl rfl rfl rfl rfl rfl rfl ⟨rfl, rfl, rfl, rfl, rfl⟩ rfl rfl rfl rfl rfl (by kernel_rfl) Try.func3 (by kernel_rfl)
    (of_decide_eq_true (by kernel_rfl)) (by unfold Func.isWrapper; first | (rw [if_pos (by decide +kernel)]; kernel_rfl) | (rw [if_neg (by decide +kernel)]; exact ⟨rfl, rfl⟩))
    (fun os started H enc _ => lifted os started H enc)
theorem proved : Rows.SatSolvesSaid := over
#print axioms proved
end Go.Proofs.Ytggeadnjikpjnaa.satSolves
namespace Go.Proofs.Ytggeadnjikpjnaa
/-- The row, under a short name, for the claim. -/
theorem satSolves_holds : Rows.SatSolvesSaid := satSolves.proved
end Go.Proofs.Ytggeadnjikpjnaa

