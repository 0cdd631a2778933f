/- The abstract machine: tables of calls told beforehand, checked. No condition. -/
import Derived.Test.YtjnejkganejdbaaVmZF
namespace Go.Vm
set_option linter.unusedVariables false
variable {P : Program}
/-- A told answer, if the arguments are among those. -/
noncomputable def pick (es : List (List AV × AV)) (args : List AV) : Option AV := List.rec none (fun e _ ih => br (like.likes args e.1) (some e.2) ih) es
theorem pick_some {es : List (List AV × AV)} {args : List AV} {r : AV} (h : pick es args = some r) : (args, r) ∈ es := by
  induction es with
  | nil => cases h
  | cons e es ih =>
    have h' : br (like.likes args e.1) (some e.2) (pick es args) = some r := h
    cases hl : like.likes args e.1 with
    | true =>
      rw [hl, br_true] at h'
      have he := (like_eq (SizeOf.sizeOf args)).2 args e.1 (Nat.le_refl _) hl
      have := Option.some.inj h'
      obtain ⟨e1, e2⟩ := e
      simp only at he this
      rw [he, this]; exact List.mem_cons_self
    | false => rw [hl, br_false] at h'; exact List.mem_cons_of_mem _ (ih h')
abbrev Told := List (Id × List (List AV × AV))
noncomputable def Told.tab (L : Told) : Tab (List AV → Option AV) := List.rec (.rep fun _ => none) (fun e _ ih => e.1.set (pick e.2) ih) L
theorem Told.tab_mem {L : Told} {g : Id} {args : List AV} {r : AV} (h : g.get L.tab args = some r) : ∃ es, (g, es) ∈ L ∧ (args, r) ∈ es := by
  induction L with
  | nil =>
    have h' : g.get (Tab.rep fun _ => none) args = some r := h
    rw [Id.get_rep] at h'; cases h'
  | cons e L ih =>
    have h' : g.get (e.1.set (pick e.2) (Told.tab L)) args = some r := h
    rw [Id.get_set] at h'
    by_cases hg : g = e.1
    · rw [if_pos hg] at h'
      exact ⟨e.2, by rw [hg]; exact List.mem_cons_self, pick_some h'⟩
    · rw [if_neg hg] at h'
      obtain ⟨es, h1, h2⟩ := ih h'
      exact ⟨es, List.mem_cons_of_mem _ h1, h2⟩
noncomputable def flats (l : List AV) : Bool := l.all AV.flat
noncomputable def check1 (base : CallT) (g : Id) (e : List AV × AV) : Bool := e.2.flat && (flats e.1 && (base g e.1 .empty).on false fun v _ => like v e.2)
noncomputable def checks (base : CallT) (L : Told) : Bool := L.all fun p => p.2.all fun e => check1 base p.1 e
theorem checked_sound {L : Told} {base call : CallT} (hb : SoundCall P base) (hc : SoundCall P call) (h : checks base L = true) : SoundCall P (told L.tab call) := by
  refine told_sound hb hc (fun g args r hr => ?_)
  obtain ⟨es, h1, h2⟩ := Told.tab_mem hr
  have h3 := List.all_eq_true.mp (List.all_eq_true.mp h _ h1) _ h2
  simp only [check1, Bool.and_eq_true] at h3
  obtain ⟨h4, h5, h6⟩ := h3
  refine ⟨h4, fun c hc => List.all_eq_true.mp h5 c hc, ?_⟩
  cases hq : base g args .empty with
  | no => rw [hq] at h6; cases h6
  | ok v s1 => rw [hq] at h6; exact ⟨s1, by rw [like_ok h6]⟩
end Go.Vm
