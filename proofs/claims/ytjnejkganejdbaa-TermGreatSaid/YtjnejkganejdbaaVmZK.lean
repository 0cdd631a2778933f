/- The abstract machine: code taken apart, the quick one. No condition. -/
import Derived.Test.YtjnejkganejdbaaVmQ2
import Derived.Test.YtjnejkganejdbaaVmZJ
namespace Go.Vm
set_option linter.unusedVariables false
noncomputable def RC.isNor (r : RC) : Bool := RC.rec (motive := fun _ => Bool) false (fun _ _ => true) (fun _ _ _ => false) (fun _ _ => false) r
noncomputable def RC.fr (r : RC) : Fr AV := RC.rec (motive := fun _ => Fr AV) (.rep undef) (fun f _ => f) (fun _ f _ => f) (fun f _ => f) r
noncomputable def RC.st (r : RC) : St := RC.rec (motive := fun _ => St) .empty (fun _ s => s) (fun _ _ s => s) (fun _ s => s) r
theorem RC.nor_of {r : RC} (h : r.isNor = true) : r = .nor r.fr r.st := by cases r <;> first | rfl | cases h
theorem qseq_run {call : CallT} {n : Nat} {c : CC} {f : Fr AV} {s : St} (hc : c = .seq c.fst c.snd) : qexcode c call n f s = qseqK (qexcode c.snd call n) (qexcode c.fst call n f s) := by
  conv => lhs; rw [hc]
  rfl
theorem qseq_nor {call : CallT} {n : Nat} {c : CC} {f f1 : Fr AV} {s s1 : St} (hc : c = .seq c.fst c.snd) (h : qexcode c.fst call n f s = .nor f1 s1) : qexcode c call n f s = qexcode c.snd call n f1 s1 := by
  rw [qseq_run hc, h]; rfl
theorem qseq_ret {call : CallT} {n : Nat} {c : CC} {f f1 : Fr AV} {s s1 : St} (hc : c = .seq c.fst c.snd) (h : qexcode c.fst call n f s = .ret f1 s1) : qexcode c call n f s = .ret f1 s1 := by
  rw [qseq_run hc, h]; rfl
theorem qseq_bind {call : CallT} {n : Nat} {c : CC} {r : RC} (hc : c = .seq c.fst c.snd) : qseqK (qexcode c call n) r = qseqK (qexcode c.snd call n) (qseqK (qexcode c.fst call n) r) := by
  cases r with
  | no => rfl
  | nor f s => exact qseq_run hc
  | exit i f s => rfl
  | ret f s => rfl
end Go.Vm
