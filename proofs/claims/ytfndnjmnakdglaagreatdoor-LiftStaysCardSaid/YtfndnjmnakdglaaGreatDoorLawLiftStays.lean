/- The row of LiftStays, proved: for every input it returns true, and the inputs read as they did; its card, tied. No condition beyond the row's own. -/
import Derived.Test.YtfndnjmnakdglaaGreatDoorTie
import Derived.Test.YtfndnjmnakdglaaGreatDoorCards
import Derived.Test.YtfndnjmnakdglaaGreatDoorLibV
import Derived.Test.YtfndnjmnakdglaaGreatDoorLibR
import Derived.Test.YtfndnjmnakdglaaGreatDoorLibH
import Derived.WalkKit
import Derived.ProofKit
import Derived.OpenShut
import Derived.ShutString
import Derived.ChangeOld
import Derived.Below
import Derived.SizedLaws
import Derived.ChangeSame
import Derived.ChangeVars
import Derived.JoinedOf
import Derived.RowKit
import Derived.RowKitTokens
import Derived.LaidLaws
import Derived.LaidHandle
import Derived.LaidMore
import Derived.Stop.Joined
import Derived.SevenTiedAt
namespace Go.Proofs.YtfndnjmnakdglaaGreatDoor.liftStays
open Go Go.ChangeShapes Go.WideShapes Go.ChangeAt Go.RowKit
open Go.ChangeMaps (open_string shut_string)
set_option linter.unusedVariables false
theorem own : ownKnob Tryz.prog.godebug = none := by kernel_rfl
theorem door_met (os : Os) (args : Array Value) : laidMetH Tryz.prog Rows.liftStaysRow.laid ((World.doorLaid Tryz.prog 400 os).forCall (fun _ _ => 0) ⟨#[], args, []⟩).memory :=
  laidMetH_of_parts3 (fuel := 8) (laidMet_of_run' 8 (by kernel_rfl) (by kernel_rfl)) (by kernel_rfl) (by kernel_rfl)
set_option maxRecDepth 100000 in
theorem lifted (os : Os) (started : os.Started) (H : Type) (enc : TypeId × Value → H) :
    ReturnsInHanded {} Tryz.checked os 7 .any (fun w args => (Rows.liftStaysSpec.pre enc Tryz.prog Tryz.f7 [] false w args ∧ laidMetH Tryz.prog Rows.liftStaysRow.laid w) ∧ sizedMet enc Tryz.prog Tryz.f7 (OpenSpec.ofChange Rows.liftStaysSpec) false w args) (Rows.liftStaysSpec.post enc Tryz.prog Tryz.f7 false true false false) := by
  refine returnsInHanded_of_change_and (C := Tryz.checked) (X := fun w _ => laidMetH Tryz.prog Rows.liftStaysRow.laid w) (fun _ _ _ hh h => h.of_heap hh) own started (by kernel_rfl) Tryz.func7
    (ChangeSpec.witness_shaped (enc := enc) (C := Tryz.checked) (os := os) (X := fun w _ => laidMetH Tryz.prog Rows.liftStaysRow.laid w) false (World.doorLaid Tryz.prog 400 os) #[.agg #[.int .i64 0, .bool false, .slice none 0 0, .string ByteArray.empty, .int .i64 0, .slice none 0 0], .int .u8 0] 8 rfl (World.shaped_of_RefB (by kernel_rfl) (by kernel_rfl)) (by kernel_rfl) (by kernel_rfl) (by kernel_rfl) (door_met os _)) ?_
  intro W base args ds gs before hval0 hW _ hsz0 hL _
  have hval : ∀ (j : Nat) t v, Tryz.f7.params[j]? = some t → args[j]? = some v → Value.okWide Tryz.prog W .any base t v := hval0
  have hW' := hW
  obtain ⟨p, q, hA0, hV, rfl, hfz, hnd⟩ := hW
  have hA : DataW.TrodAll enc Tryz.prog W 0 (fun _ => true) true Tryz.f7.params.toList args.toList ds p := hA0
  rw [Tryz.params7] at hA hval
  have hback := hA
  obtain ⟨v0, vs0, d0, ds0, p0, q0, hargs, rfl, rfl, h0, r0⟩ := trodAll_cons hA
  obtain ⟨v1, vs1, d1, ds1, p1, q1, rfl, rfl, rfl, h1, r1⟩ := trodAll_cons r0
  obtain ⟨rfl, rfl, rfl⟩ := trodAll_nil r1
  obtain rfl : args = #[v0, v1] := by cases args; simp_all
  obtain ⟨rfl, rfl⟩ := trodVars_none hV
  have hsz : (DataW.weightsEach Tryz.prog (Tryz.f7.params.toList ++ Rows.liftStaysSpec.plain.varTypes Tryz.prog) ([d0, d1] ++ [])).all (· ≤ reachBytes) = true := hsz0
  rw [Tryz.params7] at hsz
  have sz : ∀ (j : Nat) (t : TypeId) (d : DataW H), ([27, 5] : List TypeId)[j]? = some t → [d0, d1][j]? = some d → Vm.sized Tryz.prog t d := by
    intro j t d h1 h2 q hq
    have h3 := List.all_eq_true.1 hsz q (DataW.weights_mem_each (j := j) (t := t) (d := d) ?_ ?_ q hq)
    · simpa using h3
    · rw [List.getElem?_append_left (by exact (List.getElem?_eq_some_iff.mp h1).1)]; exact h1
    · simpa using h2
  obtain ⟨us0, rfl, _⟩ := okWide_struct Tryz.underlying27 (hval 0 27 v0 rfl rfl)
  obtain ⟨n0, h0⟩ := h0
  obtain ⟨y0, x0, g0⟩ := Vm.got_term tys n0 _ _ h0 (sz 0 27 d0 rfl rfl)
  obtain ⟨a1, rfl, rfl, rfl, w1⟩ := open_int Tryz.underlying5 (hval 1 5 v1 rfl rfl) h1
  clear hA0 hval0 hsz0
  have hc := stays_ok .empty x0 y0 a1 Vm.room_empty (by show (0 : Nat) ≤ _; omega) (Vm.rt6_of g0) (bounds_u8 w1).1 (bounds_u8 w1).2
  have hf : F.law13_LiftStays.val = 7 := by kernel_rfl
  have hcalls := (ca3_sound _ _ _ _ _ hc).2 (Vm.E1 W) W _ (Vm.rel_in (lay_of (tab_laid hL))) (Vm.RL.cons (Vm.rv_agg_of g0.rl g0.one) (Vm.RL.cons (.int .u8 a1) (Vm.RL.nil _ _)))
  rw [hf] at hcalls
  refine Calls.mono hcalls ?_
  rintro e W' ⟨E', v, rfl, k1, k2⟩
  have k3 := Vm.rv_bool k1
  subst k3
  have bel := Vm.below_of k2.ext
  exact ⟨_, rfl, _, _, _, [], _, [], hW', trodAll_mk1 (shut_bool Tryz.underlying4 _), Vm.trodAll_back (by kernel_rfl) (by kernel_rfl) (by decide +kernel) bel (by decide) hback, rfl, bel.frame _, fun h => by cases h⟩
theorem over : Rows.liftStaysRow.holds Tryz.pinned (OpenSpec.ofChange Rows.liftStaysSpec) :=
  OpenClaim.holds_of_wide 7 Tryz.f7 rfl rfl rfl rfl rfl rfl rfl ⟨rfl, rfl, rfl, rfl, rfl⟩ rfl rfl rfl rfl rfl (by kernel_rfl) Tryz.func7 (by kernel_rfl)
    (of_decide_eq_true (by kernel_rfl)) (by unfold Func.isWrapper; first | (rw [if_pos (by decide +kernel)]; kernel_rfl) | (rw [if_neg (by decide +kernel)]; exact ⟨rfl, rfl⟩))
    (fun os started H enc _ => lifted os started H enc)
theorem proved : Rows.LiftStaysCardSaid := by
  unfold Rows.LiftStaysCardSaid
  refine Claim7.holds_tied_plain_at .later [] [.data, .data, .data] true (true, "ba8935c9ebb46c29e973df191e6e4c17d4467f80b68f1ec7cc8eb819c494023a") false
    over (fun _ h => by cases h) (by kernel_rfl) (fun _ h => by cases h) liftStays_row_tie rfl ⟨rfl, rfl⟩ (by kernel_rfl) rfl
    (fun f fn hf hfn => ?_) (by kernel_rfl)
  obtain rfl : f = 7 := Option.some.inj ((show Tryz.prog.funcNamed "mullion/mullionlaw13.LiftStays" = some 7 by kernel_rfl).symm.trans hf) |>.symm
  obtain rfl : fn = Tryz.f7 := (Option.some.inj (Tryz.func7.symm.trans hfn)).symm
  refine ⟨by kernel_rfl, fun j t ht => ?_⟩
  rw [Tryz.params7] at ht
  have hall : ∀ t ∈ ([27, 5] : List TypeId), Tryz.prog.wantsStandIn t = false := by decide +kernel
  exact hall t (List.mem_of_getElem? (by simpa using ht))
#print axioms proved
end Go.Proofs.YtfndnjmnakdglaaGreatDoor.liftStays
namespace Go.Proofs.YtfndnjmnakdglaaGreatDoor
/-- The card, under a short name, for the claim. -/
theorem liftStays_holds : Rows.LiftStaysCardSaid := liftStays.proved
end Go.Proofs.YtfndnjmnakdglaaGreatDoor
