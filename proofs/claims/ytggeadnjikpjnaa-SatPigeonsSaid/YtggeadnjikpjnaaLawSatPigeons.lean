/- The row of SatPigeons, proved: for every input it returns true, and the input reads as it did. No condition beyond the row's own. -/
import Derived.Test.YtggeadnjikpjnaaRows
import Derived.Test.YtggeadnjikpjnaaVmZG
import Derived.Test.YtggeadnjikpjnaaPigeonsLess
import Derived.WalkKit
import Derived.ProofKit
import Derived.OpenShut
import Derived.ShutString
import Derived.ChangeOld
import Derived.Below
import Derived.SizedLaws
namespace Go.Proofs.Ytggeadnjikpjnaa.satPigeons
open Go.ChangeShapes Go.WideShapes Go.ChangeAt Go.RowKit
open Go.ChangeMaps (open_string shut_string)
set_option linter.unusedVariables false
/-- What is evaluated once. -/
noncomputable def said : Vm.Told := [(.ofNat 9, [([], .bool true)]), (.ofNat 16, [([i64 2, i64 1], .bool false), ([i64 2, i64 2], .bool true), ([i64 3, i64 2], .bool false), ([i64 3, i64 3], .bool true), ([i64 4, i64 3], .bool false), ([i64 4, i64 4], .bool true), ([i64 5, i64 4], .bool false), ([i64 5, i64 5], .bool true)])]
noncomputable def never : Vm.CallT := fun _ _ _ => .no
theorem follows : Try.prog.follows .mixedOrders = true := by kernel_rfl
theorem one_of {g : Vm.Id} {l : List Vm.AV} {r : Vm.AV} (hl : Vm.flats l = true) (hr : r.flat = true) (h : ((Vm.ev code 1000000 g l .empty).on false fun v _ => Vm.like v r) = true) : Vm.check1 (Vm.ev code 1000000) g (l, r) = true := by
  unfold Vm.check1
  rw [hl, hr, h]; rfl
theorem said_checks : Vm.checks (Vm.ev code 1000000) said = true := by
  unfold Vm.checks said
  simp only [List.all_cons, List.all_nil, Bool.and_true, one_of rfl rfl known_true, one_of rfl rfl two_one, one_of rfl rfl two_two, one_of rfl rfl three_two, one_of rfl rfl three_three, one_of rfl rfl four_three, one_of rfl rfl four_four, one_of rfl rfl five_four, one_of rfl rfl five_five]
noncomputable def table : Vm.CallT := Vm.told said.tab never
theorem table_sound : Vm.SoundCall Try.prog table := Vm.checked_sound (Vm.sound follows 1000000) (fun g args s r s' h => Vm.R.noConfusion h) said_checks
/-- The law, over what is told, at one input. -/
noncomputable def at_ (n : Nat) : Bool := (Vm.evF table 100 ((Vm.Id.ofNat 6).get code) [.int .u8 (.ofNat n)] .empty).on false fun v _ => v.onBool false fun b => b
set_option maxRecDepth 100000 in
theorem all_at : ((List.range 256).all at_) = true := by kernel_rfl
theorem walk (n : Int) (hn : (Lit.int .u8 n).wf = true) (W : World) : Calls Try.prog 6 #[.int .u8 n] W fun e W' => e = .returned (.bool true) ∧ Below W.heap.size W W' := by
  have h1 : 0 ≤ n ∧ n < 256 := by
    have h2 : IntKind.u8.min = 0 := rfl
    have h3 : IntKind.u8.max = 255 := rfl
    simp [Lit.wf] at hn
    omega
  obtain ⟨m, rfl⟩ := Int.eq_ofNat_of_zero_le h1.1
  have hm := List.all_eq_true.mp all_at m (List.mem_range.mpr (by omega))
  unfold at_ at hm
  cases hq : Vm.evF table 100 ((Vm.Id.ofNat 6).get code) [.int .u8 (.ofNat m)] .empty with
  | no => rw [hq] at hm; cases hm
  | ok v s' =>
    rw [hq] at hm
    obtain ⟨_, h2⟩ := Vm.evF_sound table_sound (Vm.drawn_ok follows) 100 (g := .ofNat 6) hq
    have h3 := h2 Vm.E00 W [.int .u8 (m : Int)] (Vm.rel_empty W) (Vm.RL.cons (.int _ _) (Vm.RL.nil _ _))
    refine Calls.mono h3 ?_
    rintro e w' ⟨E', u, rfl, k1, k2⟩
    refine ⟨?_, Vm.below_of k2.ext⟩
    cases v <;> first | (cases hm; done) | skip
    rename_i b
    have hb : b = true := hm
    subst hb
    rw [Vm.rv_bool k1]
theorem own : ownKnob Try.prog.godebug = none := by kernel_rfl
set_option maxRecDepth 100000 in
theorem lifted (os : Os) (started : os.Started) (H : Type) (enc : TypeId × Value → H) :
    ReturnsInHanded {} Try.checked os 6 .any (Rows.satPigeonsSpec.pre6 enc Try.prog Try.f6 Rows.satPigeonsRow.domain false) (Rows.satPigeonsSpec.post enc Try.prog Try.f6 false true false false) := by
  refine returnsInHanded_of_change_sized (C := Try.checked) own started (by kernel_rfl) Try.func6
    (ChangeSpec.witness6 (enc := enc) (C := Try.checked) false ⟨#[], #[.int .u8 0], []⟩ 8 (by kernel_rfl) (by kernel_rfl) (by kernel_rfl) (by kernel_rfl)) ?_
  intro W base args ds gs before hval0 hW hcnd hsz0 _
  have hval : ∀ (j : Nat) t v, Try.f6.params[j]? = some t → args[j]? = some v → Value.okWide Try.prog W .any base t v := hval0
  have hW' := hW
  obtain ⟨p, q, hA0, hV, rfl, hfz, hnd⟩ := hW
  have hA : DataW.TrodAll enc Try.prog W 0 (fun _ => true) true Try.f6.params.toList args.toList ds p := hA0
  rw [Try.params6] at hA hval
  obtain ⟨v0, vs0, d0, ds0, p0, q0, hargs, rfl, rfl, h0, r0⟩ := trodAll_cons hA
  obtain ⟨rfl, rfl, rfl⟩ := trodAll_nil r0
  obtain rfl : args = #[v0] := by cases args; simp_all
  obtain ⟨rfl, rfl⟩ := trodVars_none hV
  obtain ⟨a0, rfl, rfl, rfl, w0⟩ := open_int Try.underlying5 (hval 0 5 v0 rfl rfl) h0
  clear hA0 hval0 hsz0
  refine (walk a0 w0 W).mono fun e W' ⟨he, bel⟩ => ?_
  subst he
  exact ⟨_, rfl, _, _, _, [], _, [], hW', trodAll_mk1 (shut_bool Try.underlying4 _), (trodAll_cons_mk (shut_int Try.underlying5 w0) trodAll_mk0), rfl, bel.frame _, fun h => by cases h⟩
theorem over : Rows.satPigeonsRow.holds Try.pinned (OpenSpec.ofChange Rows.satPigeonsSpec) :=
  OpenClaim.holds_of_wide 6 Try.f6 rfl rfl rfl rfl rfl rfl rfl ⟨rfl, rfl, rfl, rfl, rfl⟩ rfl rfl rfl rfl rfl (by kernel_rfl) Try.func6 (by kernel_rfl)
    (of_decide_eq_true (by kernel_rfl)) (by unfold Func.isWrapper; first | (rw [if_pos (by decide +kernel)]; kernel_rfl) | (rw [if_neg (by decide +kernel)]; exact ⟨rfl, rfl⟩))
    (fun os started H enc _ => lifted os started H enc)
theorem proved : Rows.SatPigeonsSaid := over
#print axioms proved
end Go.Proofs.Ytggeadnjikpjnaa.satPigeons
namespace Go.Proofs.Ytggeadnjikpjnaa
/-- The row, under a short name, for the claim. -/
theorem satPigeons_holds : Rows.SatPigeonsSaid := satPigeons.proved
end Go.Proofs.Ytggeadnjikpjnaa
