/- The row of TermTells, proved: for every input it returns true, and the inputs read as they did. No condition beyond the row's own. -/
import Derived.Test.YtjnejkganejdbaaGreatRows
import Derived.Test.YtjnejkganejdbaaGreatLibH
import Derived.Test.YtjnejkganejdbaaGreatLibP
import Derived.Test.YtjnejkganejdbaaGreatLibB
import Derived.WalkKit
import Derived.ProofKit
import Derived.OpenShut
import Derived.ShutString
import Derived.ChangeOld
import Derived.Below
import Derived.SizedLaws
namespace Go.Proofs.YtjnejkganejdbaaGreat.termTells
open Go.ChangeShapes Go.WideShapes Go.ChangeAt Go.RowKit
open Go.ChangeMaps (open_string shut_string)
set_option linter.unusedVariables false
theorem own : ownKnob Tryz.prog.godebug = none := by kernel_rfl
set_option maxRecDepth 100000 in
theorem lifted (os : Os) (started : os.Started) (H : Type) (enc : TypeId × Value → H) :
    ReturnsInHanded {} Tryz.checked os 4 .any (Rows.termTellsSpec.pre6 enc Tryz.prog Tryz.f4 Rows.termTellsRow.domain false) (Rows.termTellsSpec.post enc Tryz.prog Tryz.f4 false true false false) := by
  refine returnsInHanded_of_change_sized (C := Tryz.checked) own started (by kernel_rfl) Tryz.func4
    (ChangeSpec.witness6 (enc := enc) (C := Tryz.checked) false ⟨#[], #[.agg #[.int .i64 0, .bool false, .slice none 0 0, .string ByteArray.empty, .int .i64 0, .slice none 0 0], .agg #[.int .i64 0, .bool false, .slice none 0 0, .string ByteArray.empty, .int .i64 0, .slice none 0 0]], []⟩ 8 (by kernel_rfl) (by kernel_rfl) (by kernel_rfl) (by kernel_rfl)) ?_
  intro W base args ds gs before hval0 hW hcnd hsz0 _
  have hsz : (DataW.weightsEach Tryz.prog (Tryz.f4.params.toList ++ Rows.termTellsSpec.plain.varTypes Tryz.prog) (ds ++ gs)).all (· ≤ reachBytes) = true := hsz0
  have hval : ∀ (j : Nat) t v, Tryz.f4.params[j]? = some t → args[j]? = some v → Value.okWide Tryz.prog W .any base t v := hval0
  have hW' := hW
  obtain ⟨p, q, hA0, hV, rfl, hfz, hnd⟩ := hW
  have hA : DataW.TrodAll enc Tryz.prog W 0 (fun _ => true) true Tryz.f4.params.toList args.toList ds p := hA0
  rw [Tryz.params4] at hA hval hsz
  have hback := hA
  obtain ⟨v0, vs0, d0, ds0, p0, q0, hargs, rfl, rfl, h0, r0⟩ := trodAll_cons hA
  obtain ⟨v1, vs1, d1, ds1, p1, q1, rfl, rfl, rfl, h1, r1⟩ := trodAll_cons r0
  obtain ⟨rfl, rfl, rfl⟩ := trodAll_nil r1
  obtain rfl : args = #[v0, v1] := by cases args; simp_all
  obtain ⟨rfl, rfl⟩ := trodVars_none hV
  have sz : ∀ (j : Nat) (t : TypeId) (d : DataW H), ([33, 33] : List TypeId)[j]? = some t → [d0, d1][j]? = some d → Vm.sized Tryz.prog t d := by
    intro j t d h1 h2 q hq
    have h3 := List.all_eq_true.1 hsz q (DataW.weights_mem_each (j := j) (t := t) (d := d) ?_ ?_ q hq)
    · simpa using h3
    · rw [List.getElem?_append_left (by exact (List.getElem?_eq_some_iff.mp h1).1)]; exact h1
    · simpa using h2
  obtain ⟨us0, rfl, _⟩ := okWide_struct Tryz.underlying33 (hval 0 33 v0 rfl rfl)
  obtain ⟨n0, h0⟩ := h0
  obtain ⟨y0, x0, g0⟩ := Vm.got_term tys n0 _ _ h0 (sz 0 33 d0 rfl rfl)
  obtain ⟨us1, rfl, _⟩ := okWide_struct Tryz.underlying33 (hval 1 33 v1 rfl rfl)
  obtain ⟨n1, h1⟩ := h1
  obtain ⟨y1, x1, g1⟩ := Vm.got_term tys n1 _ _ h1 (sz 1 33 d1 rfl rfl)
  clear hA0 hval0 hsz0
  have hc := TermTells_ok .empty x0 x1 y0 y1 Vm.room_empty (by show (0 : Nat) ≤ _; omega) (Vm.rt6_of g0) (Vm.rt6_of g1)
  have hf : F.law10_TermTells.val = 4 := by kernel_rfl
  have hcalls := (ca_sound _ _ _ _ _ hc).2 (Vm.E1 W) W _ (Vm.rel_in W) (Vm.RL.cons (Vm.rv_agg_of g0.rl g0.one) (Vm.RL.cons (Vm.rv_agg_of g1.rl g1.one) (Vm.RL.nil _ _)))
  rw [hf] at hcalls
  refine Calls.mono hcalls ?_
  rintro e W' ⟨E', v, rfl, k1, k2⟩
  have k3 := Vm.rv_bool k1
  subst k3
  have bel := Vm.below_of k2.ext
  exact ⟨_, rfl, _, _, _, [], _, [], hW', trodAll_mk1 (shut_bool Tryz.underlying4 _), Vm.trodAll_back (by kernel_rfl) (by kernel_rfl) (by kernel_rfl) bel (by decide) hback, rfl, bel.frame _, fun h => by cases h⟩
theorem over : Rows.termTellsRow.holds Tryz.pinned (OpenSpec.ofChange Rows.termTellsSpec) :=
  OpenClaim.holds_of_wide 4 Tryz.f4 rfl rfl rfl rfl rfl rfl rfl ⟨rfl, rfl, rfl, rfl, rfl⟩ rfl rfl rfl rfl rfl (by kernel_rfl) Tryz.func4 (by kernel_rfl)
    (of_decide_eq_true (by kernel_rfl)) (by unfold Func.isWrapper; first | (rw [if_pos (by decide +kernel)]; kernel_rfl) | (rw [if_neg (by decide +kernel)]; exact ⟨rfl, rfl⟩))
    (fun os started H enc _ => lifted os started H enc)
theorem proved : Rows.TermTellsSaid := over
#print axioms proved
end Go.Proofs.YtjnejkganejdbaaGreat.termTells
namespace Go.Proofs.YtjnejkganejdbaaGreat
/-- The row, under a short name, for the claim. -/
theorem termTells_holds : Rows.TermTellsSaid := termTells.proved
end Go.Proofs.YtjnejkganejdbaaGreat

