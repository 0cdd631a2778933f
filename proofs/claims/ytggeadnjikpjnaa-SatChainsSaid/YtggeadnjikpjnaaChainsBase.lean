/- Chains of clauses: what is told of them, for the abstract machine. No condition. -/
import Derived.Test.YtggeadnjikpjnaaProg
import Derived.KernelRfl
import Derived.Test.YtggeadnjikpjnaaVmQ2
import Derived.Test.YtggeadnjikpjnaaVmZK
namespace Go.Proofs.Ytggeadnjikpjnaa.satChains
set_option linter.unusedVariables false
set_option maxRecDepth 100000
open Vm (AV)
/-- The program, compiled for the abstract machine. -/
noncomputable def code : Vm.Tab Vm.CF := Vm.prog Try.prog
noncomputable def base : Vm.CallT := Vm.qev code 1000000
noncomputable def num (n : Nat) : AV := .int .i64 (.ofNat n)
noncomputable def neg (n : Nat) : AV := .int .i64 (.negSucc n)
noncomputable def unit1 : AV := .ts [num 1] 1 1 false
noncomputable def clause (i : Nat) : AV := .ts [neg (i - 1), num (i + 1)] 2 2 false
noncomputable def clauses (n : Nat) : Nat → List AV := Nat.rec (motive := fun _ => Nat → List AV) (fun _ => []) (fun _ ih i => clause i :: ih (i + 1)) n
noncomputable def nums (n : Nat) : Nat → List AV := Nat.rec (motive := fun _ => Nat → List AV) (fun _ => []) (fun _ ih i => num i :: ih (i + 1)) n
noncomputable def trues (n : Nat) : List AV := Nat.rec (motive := fun _ => List AV) [] (fun _ ih => .bool true :: ih) n
noncomputable def chain (k : Nat) : AV := .ts (unit1 :: clauses (k - 1) 1) k k false
noncomputable def full (k : Nat) : AV := .ts (unit1 :: Vm.apd (clauses (k - 1) 1) [.ts [neg (k - 1)] 1 1 false]) (k + 1) (k + 1) false
noncomputable def less (k j : Nat) : AV := .ts (unit1 :: Vm.apd (clauses (j - 1) 1) (clauses (k - 1 - j) (j + 1))) (k - 1) (k - 1) false
noncomputable def last (k : Nat) : AV := .ts [num k] 1 1 false
abbrev En := List AV × AV
noncomputable def enKnown : En := ([], .bool true)
noncomputable def enUnits (k : Nat) : En := ([chain k, num k], .tup [.ts (nums k 1) k k false, .bool true])
noncomputable def enSolve (k : Nat) : En := ([chain k, num k], .tup [.ts (trues k) k k false, .bool true])
noncomputable def enNone (k : Nat) : En := ([full k, num k], .tup [.nils, .bool false])
noncomputable def enLearn (k : Nat) : En := ([chain k, last k, num k], .bool true)
noncomputable def enSome (k j : Nat) : En := ([less k j, num k], .tup [.ts (nums j 1) j j false, .bool true])
noncomputable def enNot (k j : Nat) : En := ([less k j, last k, num k], .bool false)
noncomputable def ups (n : Nat) : Nat → (Nat → Bool) → Bool := Nat.rec (motive := fun _ => Nat → (Nat → Bool) → Bool) (fun _ _ => true) (fun _ ih i p => Vm.brB (p i) (ih (i + 1) p) false) n
theorem ups_at {n i : Nat} {p : Nat → Bool} (h : ups n i p = true) (j : Nat) (h1 : i ≤ j) (h2 : j < i + n) : p j = true := by
  induction n generalizing i with
  | zero => omega
  | succ n ih =>
    have h' : Vm.brB (p i) (ups n (i + 1) p) false = true := h
    rw [Vm.brB_and, Bool.and_eq_true] at h'
    by_cases e : i = j
    · rw [← e]; exact h'.1
    · exact ih h'.2 (by omega) (by omega)
/-- What is told of one length. -/
noncomputable def once (k : Nat) : Bool := Vm.brB (Vm.sees base (.ofNat 14) (enUnits k)) (Vm.brB (Vm.sees base (.ofNat 12) (enSolve k)) (Vm.brB (Vm.sees base (.ofNat 12) (enNone k)) (Vm.sees base (.ofNat 15) (enLearn k)) false) false) false
noncomputable def someOk (k j : Nat) : Bool := Vm.sees base (.ofNat 14) (enSome k j)
noncomputable def notOk (k j : Nat) : Bool := Vm.sees base (.ofNat 15) (enNot k j)
noncomputable def table (k : Nat) : Vm.Tab (List En) :=
  (Vm.Id.ofNat 9).set [enKnown] ((Vm.Id.ofNat 12).set [enSolve k, enNone k] ((Vm.Id.ofNat 14).set (enUnits k :: (List.range (k - 1)).map fun i => enSome k (i + 1))
    ((Vm.Id.ofNat 15).set (enLearn k :: (List.range (k - 1)).map fun i => enNot k (i + 1)) (.rep []))))
theorem known_ok : Vm.sees base (.ofNat 9) enKnown = true := by kernel_rfl
theorem follows : Try.prog.follows .mixedOrders = true := by kernel_rfl
theorem base_sound : Vm.SoundCall Try.prog base := by
  unfold base
  rw [Vm.qev_eq]
  exact Vm.sound follows 1000000
noncomputable def never : Vm.CallT := fun _ _ _ => .no
noncomputable def call (k : Nat) : Vm.CallT := Vm.views (table k) never
theorem call_sound (k : Nat) (h1 : once k = true) (h2 : ∀ j, 1 ≤ j → j < k → someOk k j = true) (h3 : ∀ j, 1 ≤ j → j < k → notOk k j = true) : Vm.SoundCall Try.prog (call k) := by
  unfold once at h1
  simp only [Vm.brB_and, Bool.and_eq_true] at h1
  refine Vm.views_sound base_sound (fun g args s r s' h => Vm.R.noConfusion h) fun g e he => ?_
  unfold table at he
  simp only [Vm.Id.get_set, Vm.Id.get_rep] at he
  split at he
  · rename_i hg
    subst hg
    simp only [List.mem_cons, List.not_mem_nil, or_false] at he
    subst he
    exact known_ok
  split at he
  · rename_i hg
    subst hg
    simp only [List.mem_cons, List.not_mem_nil, or_false] at he
    rcases he with rfl | rfl
    · exact h1.2.1
    · exact h1.2.2.1
  split at he
  · rename_i hg
    subst hg
    simp only [List.mem_cons, List.mem_map, List.mem_range] at he
    rcases he with rfl | ⟨i, hi, rfl⟩
    · exact h1.1
    · exact h2 (i + 1) (by omega) (by omega)
  split at he
  · rename_i hg
    subst hg
    simp only [List.mem_cons, List.mem_map, List.mem_range] at he
    rcases he with rfl | ⟨i, hi, rfl⟩
    · exact h1.2.2.2
    · exact h3 (i + 1) (by omega) (by omega)
  · cases he
end Go.Proofs.Ytggeadnjikpjnaa.satChains
