/- The row of SatLearns, proved: for every input it returns true, and the inputs read as they did. No condition beyond the row's own. -/
import Derived.Test.YtggeadnjikpjnaaRows
import Derived.Test.YtggeadnjikpjnaaLibH
import Derived.Test.YtggeadnjikpjnaaLibK
import Derived.WalkKit
import Derived.ProofKit
import Derived.OpenShut
import Derived.ShutString
import Derived.ChangeOld
import Derived.Below
import Derived.SizedLaws
namespace Go.Proofs.Ytggeadnjikpjnaa.satLearns
open Go.ChangeShapes Go.WideShapes Go.ChangeAt Go.RowKit
open Go.ChangeMaps (open_string shut_string)
set_option linter.unusedVariables false
theorem own : ownKnob Try.prog.godebug = none := by kernel_rfl
set_option maxRecDepth 100000 in
theorem lifted (os : Os) (started : os.Started) (H : Type) (enc : TypeId × Value → H) :
    ReturnsInHanded {} Try.checked os 5 .any (Rows.satLearnsSpec.pre6 enc Try.prog Try.f5 Rows.satLearnsRow.domain false) (Rows.satLearnsSpec.post enc Try.prog Try.f5 false true false false) := by
  refine returnsInHanded_of_change_sized (C := Try.checked) own started (by kernel_rfl) Try.func5
    (ChangeSpec.witness6 (enc := enc) (C := Try.checked) false ⟨#[], #[.slice none 0 0, .slice none 0 0, .int .u8 0, .slice none 0 0], []⟩ 8 (by kernel_rfl) (by kernel_rfl) (by kernel_rfl) (by kernel_rfl)) ?_
  intro W base args ds gs before hval0 hW hcnd hsz0 _
  have hsz : (DataW.weightsEach Try.prog (Try.f5.params.toList ++ Rows.satLearnsSpec.plain.varTypes Try.prog) (ds ++ gs)).all (· ≤ reachBytes) = true := hsz0
  have hval : ∀ (j : Nat) t v, Try.f5.params[j]? = some t → args[j]? = some v → Value.okWide Try.prog W .any base t v := hval0
  have hW' := hW
  obtain ⟨p, q, hA0, hV, rfl, hfz, hnd⟩ := hW
  have hA : DataW.TrodAll enc Try.prog W 0 (fun _ => true) true Try.f5.params.toList args.toList ds p := hA0
  rw [Try.params5] at hA hval hsz
  have hback := hA
  obtain ⟨v0, vs0, d0, ds0, p0, q0, hargs, rfl, rfl, h0, r0⟩ := trodAll_cons hA
  obtain ⟨v1, vs1, d1, ds1, p1, q1, rfl, rfl, rfl, h1, r1⟩ := trodAll_cons r0
  obtain ⟨v2, vs2, d2, ds2, p2, q2, rfl, rfl, rfl, h2, r2⟩ := trodAll_cons r1
  obtain ⟨v3, vs3, d3, ds3, p3, q3, rfl, rfl, rfl, h3, r3⟩ := trodAll_cons r2
  obtain ⟨rfl, rfl, rfl⟩ := trodAll_nil r3
  obtain rfl : args = #[v0, v1, v2, v3] := by cases args; simp_all
  obtain ⟨rfl, rfl⟩ := trodVars_none hV
  have sz : ∀ (j : Nat) (t : TypeId) (d : DataW H), ([22, 31, 5, 23] : List TypeId)[j]? = some t → [d0, d1, d2, d3][j]? = some d → Vm.sized Try.prog t d := by
    intro j t d h1 h2 q hq
    have h3 := List.all_eq_true.1 hsz q (DataW.weights_mem_each (j := j) (t := t) (d := d) ?_ ?_ q hq)
    · simpa using h3
    · rw [List.getElem?_append_left (by exact (List.getElem?_eq_some_iff.mp h1).1)]; exact h1
    · simpa using h2
  obtain ⟨a0, b0, c0, rfl⟩ := okWide_slice Try.underlying22 (hval 0 22 v0 rfl rfl)
  obtain ⟨n0, h0⟩ := h0
  obtain ⟨u0, w0, l0, e0, g0, k0, m0⟩ := Vm.got_rows2 Try.underlying22 Try.underlying31 Try.underlying3 c31 b31 c3 b3 h0 (sz 0 22 d0 rfl rfl)
  have e0' : Value.slice a0 b0 c0 = u0 := by simpa [Value.cells] using e0
  subst e0'
  obtain ⟨a1, b1, c1, rfl⟩ := okWide_slice Try.underlying31 (hval 1 31 v1 rfl rfl)
  obtain ⟨n1, h1⟩ := h1
  obtain ⟨u1, w1, l1, e1, g1, k1⟩ := Vm.got_ints6 Try.underlying31 Try.underlying3 c3 b3 h1 (sz 1 31 d1 rfl rfl)
  have e1' : Value.slice a1 b1 c1 = u1 := by simpa [Value.cells] using e1
  subst e1'
  obtain ⟨a2, rfl, rfl, rfl, w2⟩ := open_int Try.underlying5 (hval 2 5 v2 rfl rfl) h2
  obtain ⟨a3, b3, c3, rfl⟩ := okWide_slice Try.underlying23 (hval 3 23 v3 rfl rfl)
  obtain ⟨n3, h3⟩ := h3
  obtain ⟨u3, w3, l3, e3, g3, k3⟩ := Vm.got_bools Try.underlying23 Try.underlying4 c4 b4 h3 (sz 3 23 d3 rfl rfl)
  have e3' : Value.slice a3 b3 c3 = u3 := by simpa [Value.cells] using e3
  subst e3'
  clear hA0 hval0 hsz0
  have hc := (show CA F.law18_SatLearns [w0, w1, Vm.AV.int .u8 a2, w3] Vm.St.empty = Vm.R.ok (Vm.AV.bool true) Vm.St.empty by
    have hb := Vm.bounds_u8 w2
    have e : ((a2.toNat : Nat) : Int) = a2 := by omega
    have q := learns_true .empty Vm.room_empty k0 m0 (Vm.ints_of k1).1 (Vm.ints_of k1).2 k3 a2.toNat (by omega)
    rw [e] at q
    exact q)
  have hf : F.law18_SatLearns.val = 5 := by kernel_rfl
  have hcalls := (ca_sound _ _ _ _ _ hc).2 (Vm.E1 W) W _ (Vm.rel_in (fun k p h => by cases h)) (Vm.RL.cons (g0) (Vm.RL.cons (g1) (Vm.RL.cons (.int .u8 a2) (Vm.RL.cons (g3) (Vm.RL.nil _ _)))))
  rw [hf] at hcalls
  refine Calls.mono hcalls ?_
  rintro e W' ⟨E', v, rfl, k1, k2⟩
  have k3 := Vm.rv_bool k1
  subst k3
  have bel := Vm.below_of k2.ext
  exact ⟨_, rfl, _, _, _, [], _, [], hW', trodAll_mk1 (shut_bool Try.underlying4 _), Vm.trodAll_back (by kernel_rfl) (by kernel_rfl) (by kernel_rfl) bel (by decide) hback, rfl, bel.frame _, fun h => by cases h⟩
theorem over : Rows.satLearnsRow.holds Try.pinned (OpenSpec.ofChange Rows.satLearnsSpec) :=
  OpenClaim.holds_of_wide 5 Try.f5 rfl rfl rfl rfl rfl rfl rfl ⟨rfl, rfl, rfl, rfl, rfl⟩ rfl rfl rfl rfl rfl (by kernel_rfl) Try.func5 (by kernel_rfl)
    (of_decide_eq_true (by kernel_rfl)) (by unfold Func.isWrapper; first | (rw [if_pos (by decide +kernel)]; kernel_rfl) | (rw [if_neg (by decide +kernel)]; exact ⟨rfl, rfl⟩))
    (fun os started H enc _ => lifted os started H enc)
theorem proved : Rows.SatLearnsSaid := over
#print axioms proved
end Go.Proofs.Ytggeadnjikpjnaa.satLearns
namespace Go.Proofs.Ytggeadnjikpjnaa
/-- The row, under a short name, for the claim. -/
theorem satLearns_holds : Rows.SatLearnsSaid := satLearns.proved
end Go.Proofs.Ytggeadnjikpjnaa

