/- The abstract machine: code taken apart. No condition. -/
import Derived.Test.YtjnejkganejdbaaVmZG
namespace Go.Vm
set_option linter.unusedVariables false
noncomputable def CC.fst : CC → CC := CC.rec .skip (fun _ => .skip) (fun _ => .skip) (fun a _ _ _ => a) (fun _ a _ _ _ => a) (fun _ a _ => a) (fun a _ => a) (fun _ => .skip) .skip
noncomputable def CC.snd : CC → CC := CC.rec .skip (fun _ => .skip) (fun _ => .skip) (fun _ b _ _ => b) (fun _ _ b _ _ => b) (fun _ _ _ => .skip) (fun _ _ => .skip) (fun _ => .skip) .skip
noncomputable def CF.nt : CF → Nat := CF.rec 0 fun n _ _ => n
noncomputable def CF.res : CF → List Res := CF.rec [] fun _ r _ => r
noncomputable def CF.body : CF → CC := CF.rec .skip fun _ _ b => b
theorem seq_nor {call : CallT} {n : Nat} {c : CC} {f f1 : Fr AV} {s s1 : St} (hc : c = .seq c.fst c.snd) (h : excode call n c.fst f s = .nor f1 s1) : excode call n c f s = excode call n c.snd f1 s1 := by
  rw [hc]
  show seqK (excode call n c.snd) (excode call n c.fst f s) = _
  rw [h]; rfl
theorem seq_ret {call : CallT} {n : Nat} {c : CC} {f f1 : Fr AV} {s s1 : St} (hc : c = .seq c.fst c.snd) (h : excode call n c.fst f s = .ret f1 s1) : excode call n c f s = .ret f1 s1 := by
  rw [hc]
  show seqK (excode call n c.snd) (excode call n c.fst f s) = _
  rw [h]; rfl
theorem evF_mk {call : CallT} {n : Nat} {c : CF} {args : List AV} {s : St} (hc : c = .mk c.nt c.res c.body) (hn : Nat.ble (ln args) c.nt = true) : evF call n c args s = fin c.res (excode call n c.body (frame0 args) s) := by
  rw [hc]
  show br (Nat.ble (ln args) c.nt) (fin c.res (excode call n c.body (frame0 args) s)) .no = _
  rw [hn]; rfl
/-- What an answer has to be. -/
noncomputable def says (b : Bool) (r : R) : Bool := r.on false fun v _ => v.onBool false fun c => br b c (br c false true)
theorem check1_of {base : CallT} {g : Id} {l : List AV} {r : AV} (hl : flats l = true) (hr : r.flat = true) (h : ((base g l .empty).on false fun v _ => like v r) = true) : check1 base g (l, r) = true := by
  unfold check1
  rw [hl, hr, h]; rfl
theorem calls_true {P : Program} {call : CallT} (hsc : SoundCall P call) (hdr : ∀ call, SoundCall P call → DrawnOk P call) {n : Nat} {g : Id} {args : List AV} {vals : List Value} (hrl : ∀ W, RL E00 W args vals)
    (h : says true (evF call n (g.get (prog P)) args .empty) = true) (W : World) : Calls P g.val vals.toArray W fun e W' => e = .returned (.bool true) ∧ RowKit.Below W.heap.size W W' := by
  cases hq : evF call n (g.get (prog P)) args .empty with
  | no => rw [hq] at h; cases h
  | ok v s' =>
    rw [hq] at h
    obtain ⟨_, h2⟩ := evF_sound hsc hdr n hq
    refine Calls.mono (h2 E00 W vals (rel_empty W) (hrl W)) ?_
    rintro e w' ⟨E', u, rfl, k1, k2⟩
    refine ⟨?_, below_of k2.ext⟩
    cases v <;> first | (cases h; done) | skip
    rename_i b
    cases b with
    | true => rw [rv_bool k1]
    | false => cases h
end Go.Vm
