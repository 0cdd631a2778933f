/- Names in order; what is told of calls comes so. No condition. -/
import Derived.Test.YtjnejkganejdbaaLibO
namespace Go.Vm
set_option linter.unusedVariables false
theorem addG_app (es : List Sg) (g : Sg) : ∃ e, (addG es g).1 = es ++ e := by
  unfold addG
  split
  · exact ⟨[], by simp⟩
  · exact ⟨[g], rfl⟩
mutual
theorem namesT_app : ∀ (t : T) (es : List Sg), ∃ e, (namesT es t).1 = es ++ e
  | .mk op n name sort ks, es => by
    rw [namesT]
    by_cases h4 : op = 4
    · simp only [if_pos h4]
      obtain ⟨e1, h1⟩ := addG_app es ⟨name, ks.map T.sort, sort⟩
      obtain ⟨e2, h2⟩ := namesTs_app ks (addG es ⟨name, ks.map T.sort, sort⟩).1
      exact ⟨e1 ++ e2, by rw [h2, h1, List.append_assoc]⟩
    · simp only [if_neg h4]
      exact namesTs_app ks es
theorem namesTs_app : ∀ (l : List T) (es : List Sg), ∃ e, (namesTs es l).1 = es ++ e
  | [], es => ⟨[], by simp [namesTs]⟩
  | t :: l, es => by
    rw [namesTs]
    obtain ⟨e1, h1⟩ := namesT_app t es
    obtain ⟨e2, h2⟩ := namesTs_app l (namesT es t).1
    exact ⟨e1 ++ e2, by simp only; rw [h2, h1, List.append_assoc]⟩
end
theorem app_same {es l : List Sg} (h : ∃ e, l = es ++ e) (hl : l.length ≤ es.length) : l = es := by
  obtain ⟨e, rfl⟩ := h
  rw [List.length_append] at hl
  rw [List.eq_nil_of_length_eq_zero (show e.length = 0 by omega), List.append_nil]
theorem uniq_perm {a b : List Sg} (h : a.Perm b) (hu : (a.map (·.name)).Nodup) : (b.map (·.name)).Nodup := (h.map _).nodup_iff.mp hu
theorem name_at {es : List Sg} (h : (es.map (·.name)).Nodup) {a b : Sg} (ha : a ∈ es) (hb : b ∈ es) (e : a.name = b.name) : a = b := by
  induction es with
  | nil => cases ha
  | cons g es ih =>
    rw [List.map_cons, List.nodup_cons] at h
    rcases List.mem_cons.mp ha with ha' | ha'
    · rcases List.mem_cons.mp hb with hb' | hb'
      · rw [ha', hb']
      · exact absurd (by rw [← ha', e]; exact List.mem_map_of_mem hb') h.1
    · rcases List.mem_cons.mp hb with hb' | hb'
      · exact absurd (by rw [← hb', ← e]; exact List.mem_map_of_mem ha') h.1
      · exact ih h.2 ha' hb'
theorem addG_found {es : List Sg} {g o : Sg} (hu : (es.map (·.name)).Nodup) (ho : o ∈ es) (he : g.name = o.name) : addG es g = (es, decide (o = g)) := by
  unfold addG
  cases hf : es.find? fun o => decide (g.name = o.name) with
  | some p =>
    have h1 := List.find?_some hf
    have h2 := List.mem_of_find?_eq_some hf
    simp only [decide_eq_true_eq] at h1
    rw [name_at hu ho h2 (by rw [← he, h1])]
  | none =>
    have := List.find?_eq_none.mp hf o ho
    simp at this
    exact absurd he this
theorem addG_none {es : List Sg} {g : Sg} (h : ∀ o ∈ es, g.name ≠ o.name) : addG es g = (es ++ [g], true) := by
  unfold addG
  cases hf : es.find? fun o => decide (g.name = o.name) with
  | some p =>
    have h1 := List.find?_some hf
    simp only [decide_eq_true_eq] at h1
    exact absurd h1 (h p (List.mem_of_find?_eq_some hf))
  | none => rfl
theorem addG_perm {a b : List Sg} (h : a.Perm b) (hu : (a.map (·.name)).Nodup) (g : Sg) : (addG a g).1.Perm (addG b g).1 ∧ (addG a g).2 = (addG b g).2 := by
  by_cases hx : ∃ o ∈ a, g.name = o.name
  · obtain ⟨o, ho, he⟩ := hx
    rw [addG_found hu ho he, addG_found (uniq_perm h hu) (h.mem_iff.mp ho) he]
    exact ⟨h, rfl⟩
  · have ha : ∀ o ∈ a, g.name ≠ o.name := fun o ho he => hx ⟨o, ho, he⟩
    rw [addG_none ha, addG_none fun o ho => ha o (h.mem_iff.mpr ho)]
    exact ⟨h.append_right _, rfl⟩
mutual
theorem namesT_perm : ∀ (t : T) (a b : List Sg), a.Perm b → (a.map (·.name)).Nodup → (namesT a t).1.Perm (namesT b t).1 ∧ (namesT a t).2 = (namesT b t).2
  | .mk op n name sort ks, a, b, h, hu => by
    rw [namesT, namesT]
    by_cases h4 : op = 4
    · simp only [if_pos h4]
      obtain ⟨h1, h2⟩ := addG_perm h hu ⟨name, ks.map T.sort, sort⟩
      obtain ⟨h3, h5⟩ := namesTs_perm ks _ _ h1 (addG_names hu)
      exact ⟨h3, by rw [h2, h5]⟩
    · simp only [if_neg h4]
      obtain ⟨h3, h5⟩ := namesTs_perm ks _ _ h hu
      exact ⟨h3, by rw [h5]⟩
theorem namesTs_perm : ∀ (l : List T) (a b : List Sg), a.Perm b → (a.map (·.name)).Nodup → (namesTs a l).1.Perm (namesTs b l).1 ∧ (namesTs a l).2 = (namesTs b l).2
  | [], a, b, h, hu => ⟨h, rfl⟩
  | t :: l, a, b, h, hu => by
    rw [namesTs, namesTs]
    obtain ⟨h1, h2⟩ := namesT_perm t a b h hu
    obtain ⟨h3, h5⟩ := namesTs_perm l _ _ h1 (namesT_uniq t a hu)
    exact ⟨h3, by simp only; rw [h2, h5]⟩
end
end Go.Vm
namespace Go.Proofs.Ytjnejkganejdbaa
open Go Go.Vm
set_option linter.unusedVariables false
theorem sorted_lt {L : List Sg} (hs : sortG L = L) (hu : Uniq L) {i j : Nat} (hj : j < L.length) (hij : i < j) : L[i].name < L[j].name := by
  have h1 := sortG_sorted L
  rw [hs] at h1
  have h2 := List.pairwise_iff_getElem.mp h1 i j (by omega) hj hij
  rcases List.le_iff_lt_or_eq.mp h2 with h3 | h3
  · exact h3
  · exfalso
    have h4 : (L.map (·.name))[i]'(by simp; omega) = (L.map (·.name))[j]'(by simp; omega) := by simpa using h3
    have h5 := (List.nodup_iff_pairwise_ne.mp hu)
    exact (List.pairwise_iff_getElem.mp h5 i j (by simp; omega) (by simp; omega) hij) h4
theorem ins_new {L : List Sg} {g : Sg} {i : Nat} (hs : sortG L = L) (hu : Uniq L) (hi : i ≤ L.length) (hlt : ∀ j (h : j < L.length), j < i → L[j].name < g.name) (hge : ∀ h : i < L.length, g.name < L[i].name) :
    addG L g = (L ++ [g], true) ∧ sortG (L ++ [g]) = L.take i ++ g :: L.drop i := by
  have hgt : ∀ j (h : j < L.length), i ≤ j → g.name < L[j].name := by
    intro j h hij
    by_cases e : i = j
    · subst e; exact hge h
    · exact List.lt_trans (hge (by omega)) (sorted_lt hs hu h (by omega))
  have hne : ∀ o ∈ L, g.name ≠ o.name := by
    intro o ho e
    obtain ⟨j, hj, rfl⟩ := List.getElem_of_mem ho
    by_cases hij : j < i
    · have := hlt j hj hij; rw [e] at this; exact List.lt_irrefl _ this
    · have := hgt j hj (by omega); rw [e] at this; exact List.lt_irrefl _ this
  have ha := addG_none hne
  refine ⟨ha, ?_⟩
  have hu2 : Uniq (L ++ [g]) := by
    have h1 : (L ++ [g]) = (addG L g).1 := by rw [ha]
    rw [h1]; exact addG_names hu
  refine (sorted_uniq hu2 ?_ ?_).symm
  · have h1 : (L.take i ++ g :: L.drop i).Perm (g :: (L.take i ++ L.drop i)) := List.perm_middle
    rw [List.take_append_drop] at h1
    exact h1.trans (List.perm_append_comm (l₁ := [g]) (l₂ := L))
  · have h1 := sortG_sorted L
    rw [hs] at h1
    rw [List.pairwise_append]
    refine ⟨h1.sublist (List.take_sublist _ _), ?_, ?_⟩
    · rw [List.pairwise_cons]
      refine ⟨fun o ho => ?_, h1.sublist (List.drop_sublist _ _)⟩
      obtain ⟨j, hj, rfl⟩ := List.getElem_of_mem ho
      rw [List.getElem_drop]
      exact List.le_of_lt (hgt _ (by rw [List.length_drop] at hj; omega) (by omega))
    · intro a ha b hb
      obtain ⟨j, hj, rfl⟩ := List.getElem_of_mem ha
      have hj' : j < i ∧ j < L.length := by rw [List.length_take] at hj; omega
      rw [List.getElem_take]
      have h2 := hlt j hj'.2 hj'.1
      rcases List.mem_cons.mp hb with rfl | hb
      · exact List.le_of_lt h2
      · obtain ⟨k, hk, rfl⟩ := List.getElem_of_mem hb
        rw [List.getElem_drop]
        exact List.le_of_lt (List.lt_trans h2 (hgt _ (by rw [List.length_drop] at hk; omega) (by omega)))
theorem sort_fix {L : List Sg} (hu : Uniq L) : sortG (sortG L) = sortG L := (sorted_uniq hu ((sortG_perm _).trans (sortG_perm _)) (sortG_sorted _))
end Go.Proofs.Ytjnejkganejdbaa
namespace Go.Proofs.Ytjnejkganejdbaa
open Go Go.Vm
theorem bt_sound : SoundCall Try.prog fun g a s => g.get BT a s := base_set known_sound (base_set index_sound (base_set all_sound base_rep))
theorem ca_sound : SoundCall Try.prog CA := cc_sound (Vm.drawn_ok follows) bt_sound
end Go.Proofs.Ytjnejkganejdbaa
