/- The row of DigitsLong, proved: for every input it returns true, and the inputs read as they did; its card, tied. No condition beyond the row's own. -/
import Derived.Test.YtkdkojnlimadnaaDoorTie
import Derived.Test.YtkdkojnlimadnaaDoorCards
import Derived.Test.YtkdkojnlimadnaaDoorLibH
import Derived.Test.YtkdkojnlimadnaaDoorLibT
import Derived.WalkKit
import Derived.ProofKit
import Derived.OpenShut
import Derived.ShutString
import Derived.ChangeOld
import Derived.Below
import Derived.SizedLaws
import Derived.ChangeSame
import Derived.ChangeVars
import Derived.JoinedOf
import Derived.RowKit
import Derived.RowKitTokens
import Derived.LaidLaws
import Derived.LaidHandle
import Derived.LaidMore
import Derived.Stop.Joined
import Derived.SevenTiedAt
namespace Go.Proofs.YtkdkojnlimadnaaDoor.digitsLong
open Go Go.ChangeShapes Go.WideShapes Go.ChangeAt Go.RowKit
open Go.ChangeMaps (open_string shut_string)
set_option linter.unusedVariables false
theorem own : ownKnob Tryd.prog.godebug = none := by kernel_rfl
theorem door_met (os : Os) (args : Array Value) : laidMetH Tryd.prog Rows.digitsLongRow.laid ((World.doorLaid Tryd.prog 400 os).forCall (fun _ _ => 0) ⟨#[], args, []⟩).memory :=
  laidMetH_of_parts3 (fuel := 8) (laidMet_of_run' 8 (by kernel_rfl) (by kernel_rfl)) (by kernel_rfl) (by kernel_rfl)
set_option maxRecDepth 100000 in
theorem lifted (os : Os) (started : os.Started) (H : Type) (enc : TypeId × Value → H) :
    ReturnsInHanded {} Tryd.checked os 5 .any (fun w args => (Rows.digitsLongSpec.pre enc Tryd.prog Tryd.f5 [] false w args ∧ laidMetH Tryd.prog Rows.digitsLongRow.laid w) ∧ sizedMet enc Tryd.prog Tryd.f5 (OpenSpec.ofChange Rows.digitsLongSpec) false w args) (Rows.digitsLongSpec.post enc Tryd.prog Tryd.f5 false true false false) := by
  refine returnsInHanded_of_change_and (C := Tryd.checked) (X := fun w _ => laidMetH Tryd.prog Rows.digitsLongRow.laid w) (fun _ _ _ hh h => h.of_heap hh) own started (by kernel_rfl) Tryd.func5
    (ChangeSpec.witness_shaped (enc := enc) (C := Tryd.checked) (os := os) (X := fun w _ => laidMetH Tryd.prog Rows.digitsLongRow.laid w) false (World.doorLaid Tryd.prog 400 os) #[.int .u8 0, .int .u8 0, .bool false] 8 rfl (World.shaped_of_RefB (by kernel_rfl) (by kernel_rfl)) (by kernel_rfl) (by kernel_rfl) (by kernel_rfl) (door_met os _)) ?_
  intro W base args ds gs before hval0 hW _ hsz0 hL _
  have hval : ∀ (j : Nat) t v, Tryd.f5.params[j]? = some t → args[j]? = some v → Value.okWide Tryd.prog W .any base t v := hval0
  have hW' := hW
  obtain ⟨p, q, hA0, hV, rfl, hfz, hnd⟩ := hW
  have hA : DataW.TrodAll enc Tryd.prog W 0 (fun _ => true) true Tryd.f5.params.toList args.toList ds p := hA0
  rw [Tryd.params5] at hA hval
  have hback := hA
  obtain ⟨v0, vs0, d0, ds0, p0, q0, hargs, rfl, rfl, h0, r0⟩ := trodAll_cons hA
  obtain ⟨v1, vs1, d1, ds1, p1, q1, rfl, rfl, rfl, h1, r1⟩ := trodAll_cons r0
  obtain ⟨v2, vs2, d2, ds2, p2, q2, rfl, rfl, rfl, h2, r2⟩ := trodAll_cons r1
  obtain ⟨rfl, rfl, rfl⟩ := trodAll_nil r2
  obtain rfl : args = #[v0, v1, v2] := by cases args; simp_all
  obtain ⟨rfl, rfl⟩ := trodVars_none hV
  have hsz : (DataW.weightsEach Tryd.prog (Tryd.f5.params.toList ++ Rows.digitsLongSpec.plain.varTypes Tryd.prog) ([d0, d1, d2] ++ [])).all (· ≤ reachBytes) = true := hsz0
  rw [Tryd.params5] at hsz
  have sz : ∀ (j : Nat) (t : TypeId) (d : DataW H), ([5, 5, 4] : List TypeId)[j]? = some t → [d0, d1, d2][j]? = some d → Vm.sized Tryd.prog t d := by
    intro j t d h1 h2 q hq
    have h3 := List.all_eq_true.1 hsz q (DataW.weights_mem_each (j := j) (t := t) (d := d) ?_ ?_ q hq)
    · simpa using h3
    · rw [List.getElem?_append_left (by exact (List.getElem?_eq_some_iff.mp h1).1)]; exact h1
    · simpa using h2
  obtain ⟨a0, rfl, rfl, rfl, w0⟩ := open_int Tryd.underlying5 (hval 0 5 v0 rfl rfl) h0
  obtain ⟨a1, rfl, rfl, rfl, w1⟩ := open_int Tryd.underlying5 (hval 1 5 v1 rfl rfl) h1
  obtain ⟨a2, rfl, rfl, rfl⟩ := open_bool Tryd.underlying4 (hval 2 4 v2 rfl rfl) h2
  clear hA0 hval0 hsz0
  have hc := long_row a2 w0 w1
  have hf : F.law3_DigitsLong.val = 5 := by kernel_rfl
  have hcalls := (ca2_sound _ _ _ _ _ hc).2 (Vm.E1 W) W _ (Vm.rel_in (lay_of (tab_laid hL))) (Vm.RL.cons (.int .u8 a0) (Vm.RL.cons (.int .u8 a1) (Vm.RL.cons (.bool a2) (Vm.RL.nil _ _))))
  rw [hf] at hcalls
  refine Calls.mono hcalls ?_
  rintro e W' ⟨E', v, rfl, k1, k2⟩
  have k3 := Vm.rv_bool k1
  subst k3
  have bel := Vm.below_of k2.ext
  exact ⟨_, rfl, _, _, _, [], _, [], hW', trodAll_mk1 (shut_bool Tryd.underlying4 _), Vm.trodAll_back (by kernel_rfl) (by kernel_rfl) (by decide +kernel) bel (by decide) hback, rfl, bel.frame _, fun h => by cases h⟩
theorem over : Rows.digitsLongRow.holds Tryd.pinned (OpenSpec.ofChange Rows.digitsLongSpec) :=
  OpenClaim.holds_of_wide 5 Tryd.f5 rfl rfl rfl rfl rfl rfl rfl ⟨rfl, rfl, rfl, rfl, rfl⟩ rfl rfl rfl rfl rfl (by kernel_rfl) Tryd.func5 (by kernel_rfl)
    (of_decide_eq_true (by kernel_rfl)) (by unfold Func.isWrapper; first | (rw [if_pos (by decide +kernel)]; kernel_rfl) | (rw [if_neg (by decide +kernel)]; exact ⟨rfl, rfl⟩))
    (fun os started H enc _ => lifted os started H enc)
theorem proved : Rows.DigitsLongCardSaid := by
  unfold Rows.DigitsLongCardSaid
  refine Claim7.holds_tied_plain_at .later [] [.data, .data, .data, .sentinel, .sentinel] true (true, "74449a1df23bf8042e364c3f532fafc9134eb398d8618cbc9c0031ef9882c8a5") true
    over (fun _ h => by cases h) (by kernel_rfl) (fun _ h => by cases h) digitsLong_row_tie rfl ⟨rfl, rfl⟩ (by kernel_rfl) rfl
    (fun f fn hf hfn => ?_) (by kernel_rfl)
  obtain rfl : f = 5 := Option.some.inj ((show Tryd.prog.funcNamed "mullion/mullionlaw3.DigitsLong" = some 5 by kernel_rfl).symm.trans hf) |>.symm
  obtain rfl : fn = Tryd.f5 := (Option.some.inj (Tryd.func5.symm.trans hfn)).symm
  refine ⟨by kernel_rfl, fun j t ht => ?_⟩
  rw [Tryd.params5] at ht
  have hall : ∀ t ∈ ([5, 5, 4] : List TypeId), Tryd.prog.wantsStandIn t = false := by decide +kernel
  exact hall t (List.mem_of_getElem? (by simpa using ht))
#print axioms proved
end Go.Proofs.YtkdkojnlimadnaaDoor.digitsLong
namespace Go.Proofs.YtkdkojnlimadnaaDoor
/-- The card, under a short name, for the claim. -/
theorem digitsLong_holds : Rows.DigitsLongCardSaid := digitsLong.proved
end Go.Proofs.YtkdkojnlimadnaaDoor
