/- The abstract machine: calls that come to a value without memory, from nothing. No condition. -/
import Derived.Test.YtjnejkganejdbaaVmZE
import Derived.Below
namespace Go.Vm
open Go.RowKit
set_option linter.unusedVariables false
variable {P : Program}
def E00 : Env := ⟨fun _ => ⟨0, 0, none⟩, fun _ => False, fun _ => False⟩
theorem rel_empty (w : World) : Rel St.empty E00 w := by
  have hd : ∀ b, St.empty.obj b = .dead := empty_obj
  exact ⟨fun b _ h => h, ⟨(fun b cs h => by rw [hd] at h; cases h), (fun b es h => by rw [hd] at h; cases h), fun b h => absurd (hd b) h, fun b c h => absurd (hd b) h, fun b h => absurd (hd b) h, fun k h => h.elim⟩⟩
theorem below_of {n n' : Nat} {E E' : Env} {w w' : World} {o' : Id → AO} (h : ExtH n n' St.empty.obj E w o' E' w') : Below w.heap.size w w' :=
  ⟨h.os, h.tape, h.output, h.size, fun k hk => h.keep k hk (fun b hb => absurd (empty_obj b) hb)⟩
/-- A value without memory. -/
def AV.flat : AV → Bool
  | .bool _ | .int _ _ | .str _ => true
  | _ => false
theorem flat_rv {c : AV} (hf : c.flat = true) {E E' : Env} {w w' : World} {v : Value} (h : RV E w c v) : RV E' w' c v := by
  cases h <;> first | (cases hf; done) | skip
  · exact .bool _
  · exact .int _ _
  · exact .str _ _ (by assumption)
/-- What is evaluated from nothing. -/
theorem call_empty {call : CallT} (hc : SoundCall P call) {g : Id} {args : List AV} {r : AV} {s' : St} (h : call g args .empty = .ok r s') {w : World} {vals : List Value} (hrl : RL E00 w args vals) :
    Calls P g.val vals.toArray w fun e w' => ∃ E' v, e = .returned v ∧ RV E' w' r v ∧ Below w.heap.size w w' := by
  refine Calls.mono ((hc g args .empty r s' h).2 E00 w vals (rel_empty w) hrl) ?_
  rintro e w' ⟨E', v, rfl, h1, h2⟩
  exact ⟨E', v, rfl, h1, below_of h2.ext⟩
/-- A table of calls that are told beforehand. -/
noncomputable def told (T : Tab (List AV → Option AV)) (call : CallT) : CallT := fun g args s => Option.rec (call g args s) (fun r => .ok r s) (g.get T args)
theorem told_sound {T : Tab (List AV → Option AV)} {call base : CallT} (hb : SoundCall P base) (hc : SoundCall P call)
    (h : ∀ g args r, g.get T args = some r → r.flat = true ∧ (∀ c ∈ args, c.flat = true) ∧ ∃ s', base g args .empty = .ok r s') : SoundCall P (told T call) := by
  intro g args s r s' hr
  cases hT : g.get T args with
  | none =>
    have e : told T call g args s = call g args s := by unfold told; rw [hT]
    rw [e] at hr
    exact hc g args s r s' hr
  | some q =>
    have e : told T call g args s = .ok q s := by unfold told; rw [hT]
    rw [e] at hr
    obtain ⟨rfl, rfl⟩ := ok_inj hr
    obtain ⟨h1, h2, s1, h3⟩ := h g args q hT
    have hbg := hb g args .empty q s1 h3
    refine ⟨hbg.1, fun E w vals rel hrl => ?_⟩
    have hrl0 : RL E00 w args vals := ⟨hrl.len, fun j c u hcj hu => flat_rv (h2 c (List.mem_of_getElem? hcj)) (hrl.each j c u hcj hu)⟩
    refine Calls.mono (call_empty hb h3 hrl0) ?_
    rintro e w' ⟨E', v, rfl, k1, k2⟩
    have hle : Le E w E w' := ⟨fun _ h => h, fun _ _ => rfl, fun _ h => h, fun k hk => k2.block k (rel.h.seen k hk), .of_old k2.block⟩
    exact ⟨E, v, rfl, flat_rv h1 k1, ⟨⟨rel.n, rel_keep rel.h hle k2.block k2.size (fun k hk => .inl hk)⟩, Nat.le_refl _, ⟨fun _ h => h, fun _ _ => rfl, fun _ h => .inl h, fun _ h => h, fun _ h => .inl h, k2.os, k2.tape, k2.output, k2.size, fun k hk _ => k2.block k hk, .of_old k2.block, fun b hb => .inl ⟨b, hb, rfl⟩⟩⟩⟩
end Go.Vm
