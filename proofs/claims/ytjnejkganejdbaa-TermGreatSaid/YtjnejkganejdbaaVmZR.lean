/- The abstract machine: what is seen of calls, told by a number. No condition. -/
import Derived.Test.YtjnejkganejdbaaVmZQ
namespace Go.Vm
set_option linter.unusedVariables false
variable {P : Program}
/-- There is such a function. -/
def Has (P : Program) (g : Nat) : Prop := ∃ fn, P.funcs[g]? = some fn ∧ fn.body.isNone = false ∧ fn.name ≠ "runtime.NumGoroutine"
theorem seen_of {base : CallT} (hb : SoundCall P base) {g : Id} {args : List AV} {ret : AV} (h : sees base g (args, ret) = true) : Has P g.val ∧ Seen P g.val args ret := by
  obtain ⟨r0, s', h1, h2⟩ := sees_ok h
  have h3 := hb g args .empty r0 s' h1
  exact ⟨h3.1, fun F w vals rel hrl => Calls.mono (h3.2 F w vals rel hrl) fun e w' ⟨E', v, q1, q2, q3⟩ => ⟨r0, s', E', v, h2, q1, q2, q3⟩⟩
/-- Calls of a function, told by a number that the arguments tell. -/
noncomputable def pkBy (gid : Id) (num : List AV → St → Nat) (most : Nat) (pat : Nat → List AV) (res : Nat → AV) : Id → List AV → St → Option (List AV × AV) := fun g args s =>
  br (decide (g = gid)) (br (brB (Nat.ble (num args s) most) (mt.mts s false (pat (num args s)) args) false) (some (pat (num args s), res (num args s))) none) none
theorem pkBy_sound {gid : Id} {num : List AV → St → Nat} {most : Nat} {pat : Nat → List AV} {res : Nat → AV} (hg : Has P gid.val) (h : ∀ d, d ≤ most → Seen P gid.val (pat d) (res d)) (call : CallT) (hc : SoundCall P call) : SoundCall P (picks (pkBy gid num most pat res) call) := by
  refine seen_sound hc (fun g args s en hen => ?_)
  unfold pkBy at hen
  by_cases hgg : g = gid
  · rw [decide_eq_true hgg, br_true] at hen
    rw [brB_and] at hen
    cases hq : (Nat.ble (num args s) most && mt.mts s false (pat (num args s)) args) with
    | false => rw [hq] at hen; cases hen
    | true =>
      rw [hq, br_true] at hen
      cases hen
      simp only [Bool.and_eq_true, Nat.ble_eq] at hq
      subst hgg
      exact ⟨hq.2, hg, h _ hq.1⟩
  · rw [decide_eq_false hgg, br_false] at hen; cases hen
/-- One told call. -/
theorem pkOne_sound {gid : Id} {pa : List AV} {r : AV} (hg : Has P gid.val) (h : Seen P gid.val pa r) (call : CallT) (hc : SoundCall P call) : SoundCall P (picks (pkBy gid (fun _ _ => 0) 0 (fun _ => pa) fun _ => r) call) :=
  pkBy_sound hg (fun _ _ => h) call hc
noncomputable def allFrom (n : Nat) : Nat → (Nat → Bool) → Bool := Nat.rec (motive := fun _ => Nat → (Nat → Bool) → Bool) (fun _ _ => true) (fun _ ih i p => brB (p i) (ih (i + 1) p) false) n
theorem from_at {n i : Nat} {p : Nat → Bool} (h : allFrom n i p = true) (j : Nat) (h1 : i ≤ j) (h2 : j < i + n) : p j = true := by
  induction n generalizing i with
  | zero => omega
  | succ n ih =>
    have h' : brB (p i) (allFrom n (i + 1) p) false = true := h
    rw [brB_and, Bool.and_eq_true] at h'
    by_cases e : i = j
    · rw [← e]; exact h'.1
    · exact ih h'.2 (by omega) (by omega)
theorem wr_small (n : Nat) (h : n < 1000) : wr .i64 (.ofNat n) = .ofNat n := by
  rw [wr_eq]
  simp only [IntKind.wrap, IntKind.bits, IntKind.signed]
  simp
  omega
noncomputable def cellsOf (s : St) (v : AV) : List AV := AV.onSl v [] [] (fun b o _ _ _ => dr o (s.obj b).row) fun cs _ _ _ => cs
end Go.Vm
