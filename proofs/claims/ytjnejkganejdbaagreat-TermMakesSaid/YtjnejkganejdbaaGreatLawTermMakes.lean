/- The row of TermMakes, proved: for every input it returns true, and the inputs read as they did. No condition beyond the row's own. -/
import Derived.Test.YtjnejkganejdbaaGreatRows
import Derived.Test.YtjnejkganejdbaaGreatLibH
import Derived.Test.YtjnejkganejdbaaGreatLibK
import Derived.Test.YtjnejkganejdbaaGreatLibB
import Derived.WalkKit
import Derived.ProofKit
import Derived.OpenShut
import Derived.ShutString
import Derived.ChangeOld
import Derived.Below
import Derived.SizedLaws
namespace Go.Proofs.YtjnejkganejdbaaGreat.termMakes
open Go.ChangeShapes Go.WideShapes Go.ChangeAt Go.RowKit
open Go.ChangeMaps (open_string shut_string)
set_option linter.unusedVariables false
theorem own : ownKnob Tryz.prog.godebug = none := by kernel_rfl
set_option maxRecDepth 100000 in
theorem lifted (os : Os) (started : os.Started) (H : Type) (enc : TypeId × Value → H) :
    ReturnsInHanded {} Tryz.checked os 3 .any (Rows.termMakesSpec.pre6 enc Tryz.prog Tryz.f3 Rows.termMakesRow.domain false) (Rows.termMakesSpec.post enc Tryz.prog Tryz.f3 false true false false) := by
  refine returnsInHanded_of_change_sized (C := Tryz.checked) own started (by kernel_rfl) Tryz.func3
    (ChangeSpec.witness6 (enc := enc) (C := Tryz.checked) false ⟨#[], #[.int .i64 0, .agg #[.string ByteArray.empty, .slice none 0 0, .int .i64 0], .slice none 0 0, .agg #[.bool false, .slice none 0 0], .bool false], []⟩ 8 (by kernel_rfl) (by kernel_rfl) (by kernel_rfl) (by kernel_rfl)) ?_
  intro W base args ds gs before hval0 hW hcnd hsz0 _
  have hsz : (DataW.weightsEach Tryz.prog (Tryz.f3.params.toList ++ Rows.termMakesSpec.plain.varTypes Tryz.prog) (ds ++ gs)).all (· ≤ reachBytes) = true := hsz0
  have hval : ∀ (j : Nat) t v, Tryz.f3.params[j]? = some t → args[j]? = some v → Value.okWide Tryz.prog W .any base t v := hval0
  have hW' := hW
  obtain ⟨p, q, hA0, hV, rfl, hfz, hnd⟩ := hW
  have hA : DataW.TrodAll enc Tryz.prog W 0 (fun _ => true) true Tryz.f3.params.toList args.toList ds p := hA0
  rw [Tryz.params3] at hA hval hsz
  have hback := hA
  obtain ⟨v0, vs0, d0, ds0, p0, q0, hargs, rfl, rfl, h0, r0⟩ := trodAll_cons hA
  obtain ⟨v1, vs1, d1, ds1, p1, q1, rfl, rfl, rfl, h1, r1⟩ := trodAll_cons r0
  obtain ⟨v2, vs2, d2, ds2, p2, q2, rfl, rfl, rfl, h2, r2⟩ := trodAll_cons r1
  obtain ⟨v3, vs3, d3, ds3, p3, q3, rfl, rfl, rfl, h3, r3⟩ := trodAll_cons r2
  obtain ⟨v4, vs4, d4, ds4, p4, q4, rfl, rfl, rfl, h4, r4⟩ := trodAll_cons r3
  obtain ⟨rfl, rfl, rfl⟩ := trodAll_nil r4
  obtain rfl : args = #[v0, v1, v2, v3, v4] := by cases args; simp_all
  obtain ⟨rfl, rfl⟩ := trodVars_none hV
  have sz : ∀ (j : Nat) (t : TypeId) (d : DataW H), ([3, 24, 25, 28, 4] : List TypeId)[j]? = some t → [d0, d1, d2, d3, d4][j]? = some d → Vm.sized Tryz.prog t d := by
    intro j t d h1 h2 q hq
    have h3 := List.all_eq_true.1 hsz q (DataW.weights_mem_each (j := j) (t := t) (d := d) ?_ ?_ q hq)
    · simpa using h3
    · rw [List.getElem?_append_left (by exact (List.getElem?_eq_some_iff.mp h1).1)]; exact h1
    · simpa using h2
  obtain ⟨a0, rfl, rfl, rfl, w0⟩ := open_int Tryz.underlying3 (hval 0 3 v0 rfl rfl) h0
  obtain ⟨us1, rfl, _⟩ := okWide_struct Tryz.underlying24 (hval 1 24 v1 rfl rfl)
  obtain ⟨n1, h1⟩ := h1
  obtain ⟨x1, y1, g1, k1, o1, m1⟩ := Vm.got_sig tys h1 (sz 1 24 d1 rfl rfl)
  obtain ⟨a2, b2, c2, rfl⟩ := okWide_slice Tryz.underlying25 (hval 2 25 v2 rfl rfl)
  obtain ⟨n2, h2⟩ := h2
  obtain ⟨u2, w2, l2, e2, g2, k2⟩ := Vm.got_terms tys h2 (sz 2 25 d2 rfl rfl)
  have e2' : Value.slice a2 b2 c2 = u2 := by simpa [Value.cells] using e2
  subst e2'
  obtain ⟨us3, rfl, _⟩ := okWide_struct Tryz.underlying28 (hval 3 28 v3 rfl rfl)
  obtain ⟨n3, h3⟩ := h3
  obtain ⟨x3, y3, z3, g3, k3⟩ := Vm.got_z tys h3 (sz 3 28 d3 rfl rfl)
  obtain ⟨a4, rfl, rfl, rfl⟩ := open_bool Tryz.underlying4 (hval 4 4 v4 rfl rfl) h4
  clear hA0 hval0 hsz0
  have hc := TermMakes_ok .empty a0 y1 x1 w2 x3 y3 l2 z3 a4 Vm.room_empty (by show (0 : Nat) ≤ _; omega) m1 k1 k2 k3
  have hf : F.law10_TermMakes.val = 3 := by kernel_rfl
  have hcalls := (ca_sound _ _ _ _ _ hc).2 (Vm.E1 W) W _ (Vm.rel_in W) (Vm.RL.cons (.int .i64 a0) (Vm.RL.cons (Vm.rv_agg_of g1 (by simp; exact ⟨rfl, o1, rfl⟩)) (Vm.RL.cons (g2) (Vm.RL.cons (Vm.rv_agg_of g3 (by have := k3.one; simp; exact this)) (Vm.RL.cons (.bool a4) (Vm.RL.nil _ _))))))
  rw [hf] at hcalls
  refine Calls.mono hcalls ?_
  rintro e W' ⟨E', v, rfl, k1, k2⟩
  have k3 := Vm.rv_bool k1
  subst k3
  have bel := Vm.below_of k2.ext
  exact ⟨_, rfl, _, _, _, [], _, [], hW', trodAll_mk1 (shut_bool Tryz.underlying4 _), Vm.trodAll_back (by kernel_rfl) (by kernel_rfl) (by kernel_rfl) bel (by decide) hback, rfl, bel.frame _, fun h => by cases h⟩
theorem over : Rows.termMakesRow.holds Tryz.pinned (OpenSpec.ofChange Rows.termMakesSpec) :=
  OpenClaim.holds_of_wide 3 Tryz.f3 rfl rfl rfl rfl rfl rfl rfl ⟨rfl, rfl, rfl, rfl, rfl⟩ rfl rfl rfl rfl rfl (by kernel_rfl) Tryz.func3 (by kernel_rfl)
    (of_decide_eq_true (by kernel_rfl)) (by unfold Func.isWrapper; first | (rw [if_pos (by decide +kernel)]; kernel_rfl) | (rw [if_neg (by decide +kernel)]; exact ⟨rfl, rfl⟩))
    (fun os started H enc _ => lifted os started H enc)
theorem proved : Rows.TermMakesSaid := over
#print axioms proved
end Go.Proofs.YtjnejkganejdbaaGreat.termMakes
namespace Go.Proofs.YtjnejkganejdbaaGreat
/-- The row, under a short name, for the claim. -/
theorem termMakes_holds : Rows.TermMakesSaid := termMakes.proved
end Go.Proofs.YtjnejkganejdbaaGreat

