/- The abstract machine is sound: the statements whose order is open: what holds when some are done. No condition. -/
import Derived.Test.YtjnejkganejdbaaVmY
namespace Go.Vm
set_option linter.unusedVariables false
variable {P : Program}
structure Inv (nt : Nat) (l : List DR) (S : Nat → DS) (s : St) (E0 : Env) (w0 : World) (L : Nat → Prop) (m : Nat) (F : Fr AV) (O : Id → AO) (E : Env) (a : Act) (w : World) : Prop where
  m_le : m ≤ l.length
  cut : ∀ (j : Nat) (d : DR), l[j]? = some d → isMut d (S j) → (L j ↔ j < m)
  rf : RF E w nt F a
  fr : ∀ (t : Sl) (k : Nat), k ≤ l.length → (∀ (j : Nat) (d : DR), l[j]? = some d → d.cr.dst = some t → (L j ↔ j < k)) → t.get F = t.get (S k).f
  rh : RelH O E w
  pend : ∀ (i : Nat) (d : DR), L i → Pending l S m i d → O (S i).b = made d (S i) ∧ (S i).b.get (S m).h = .dead ∧ made d (S i) ≠ .dead
  rest : ∀ b : Id, (∀ (i : Nat) (d : DR), L i → Pending l S m i d → b ≠ (S i).b) → O b = b.get (S m).h
  ids : ∀ b : Id, E.D b → E0.D b ∨ (∃ (i : Nat) (d : DR), l[i]? = some d ∧ isNew d (S i) ∧ L i ∧ b = (S i).b) ∨ (s.n.val + l.length ≤ b.val ∧ b.val < (S m).n.val)
  nn : s.n.val + l.length ≤ (S m).n.val
  ext : ExtH s.n.val (S m).n.val s.obj E0 w0 O E w
section
variable {call : CallT} {nt : Nat} {ops : Array Oper} {l : List DR} {S : Nat → DS} {s : St} {E0 E : Env} {w0 w : World} {L : Nat → Prop} {m : Nat} {F : Fr AV} {O : Id → AO} {a : Act}
/-- What an operation looks at is as it was in the text's order. -/
theorem Inv.names (I : Inv nt l S s E0 w0 L m F O E a w) (Op : Opn P nt ops l) (hL : ∀ (j : Nat) (d : DR), l[j]? = some d → L j → ∀ i, i < l.length → bit d.pre i = true → L i) {i : Nat} {d : DR} (hd : l[i]? = some d) (hi : ¬ L i)
    (hpre : ∀ j, j < l.length → bit d.pre j = true → L j) : ∀ t ∈ d.cr.names, t.get F = t.get (S i).f := by
  intro t ht
  have hlt : i < l.length := (List.getElem?_eq_some_iff.mp hd).1
  refine I.fr t i (by omega) (fun j e he hdst => ?_)
  have hj : j < l.length := (List.getElem?_eq_some_iff.mp he).1
  constructor
  · intro hLj
    apply Decidable.byContradiction
    intro hge
    by_cases hij : i = j
    · subst hij; exact hi hLj
    · rcases Op.apart i j d e (by omega) hd he with hb | ⟨_, h2⟩
      · exact hi (hL j e he hLj i hlt hb)
      · exact h2 t hdst ht
  · intro hji
    rcases Op.apart j i e d hji he hd with hb | ⟨h1, _⟩
    · exact hpre j hj hb
    · exact absurd ht (h1 t hdst)
theorem names_dst {c : CR} {t : Sl} (h : c.dst = some t) : t ∈ c.names := by
  obtain ⟨cd, op, g⟩ := c
  cases cd with
  | none => cases h
  | d s => cases h; exact List.mem_append_left _ (List.mem_singleton.mpr rfl)
/-- .. and what it writes fits. -/
theorem Inv.frame_next (I : Inv nt l S s E0 w0 L m F O E a w) (C : Chain call l S) (Op : Opn P nt ops l) {i : Nat} {d : DR} (hd : l[i]? = some d) (hi : ¬ L i) (hL : ∀ (j : Nat) (d : DR), l[j]? = some d → L j → ∀ i, i < l.length → bit d.pre i = true → L i)
    {v : AV} (hv : (S (i + 1)).f = putD d.cr.cd v (S i).f) :
    ∀ (t : Sl) (k : Nat), k ≤ l.length → (∀ (j : Nat) (e : DR), l[j]? = some e → e.cr.dst = some t → ((L j ∨ j = i) ↔ j < k)) → t.get (putD d.cr.cd v F) = t.get (S k).f := by
  intro t k hk hc
  have hlt : i < l.length := (List.getElem?_eq_some_iff.mp hd).1
  rw [putD_get]
  by_cases hdt : d.cr.dst = some t
  · rw [if_pos hdt]
    have hik : i < k := (hc i d hd hdt).mp (.inr rfl)
    have h1 : t.get (S (i + 1)).f = v := by rw [hv, putD_get, if_pos hdt]
    rw [← h1]
    refine (C.frame k hik hk (fun j e he h2 h3 hdst => ?_)).symm
    have hLj : L j := ((hc j e he hdst).mpr h3).resolve_right (by omega)
    rcases Op.apart i j d e (by omega) hd he with hb | ⟨h4, _⟩
    · exact hi (hL j e he hLj i hlt hb)
    · exact h4 t hdt (names_dst hdst)
  · rw [if_neg hdt]
    refine I.fr t k hk (fun j e he hdst => ?_)
    have hji : j ≠ i := fun h => by subst h; rw [hd] at he; cases he; exact hdt hdst
    constructor
    · intro h; exact (hc j e he hdst).mp (.inl h)
    · intro h; exact ((hc j e he hdst).mpr h).resolve_right hji
theorem Chain.name_inj (C : Chain call l S) {i j : Nat} (hi : i ≤ l.length) (hj : j ≤ l.length) (h : (S i).b = (S j).b) : i = j := by
  have h1 := C.name i hi
  have h2 := C.name j hj
  rw [h] at h1; omega
/-- A step that is no write. -/
theorem Inv.next (I : Inv nt l S s E0 w0 L m F O E a w) (C : Chain call l S) (Op : Opn P nt ops l) {i : Nat} {d : DR} {o : Oper} (ho : ops[i]? = some o) (hd : l[i]? = some d) (hi : ¬ L i) (hL : ∀ (j : Nat) (d : DR), l[j]? = some d → L j → ∀ i, i < l.length → bit d.pre i = true → L i)
    (hdst : DstOk nt o.dst d.cr.cd) (hnm : ¬ isMut d (S i)) {v : AV} (hv : (S (i + 1)).f = putD d.cr.cd v (S i).f) {E' : Env} {w' : World} {O' : Id → AO} {u : Value} (hru : RV E' w' v u) (hrh : RelH O' E' w') {n1 n2 : Nat} (hext : ExtH n1 n2 O E w O' E' w')
    (hD : ∀ b, E'.D b → E.D b ∨ (isNew d (S i) ∧ b = (S i).b)) (hO : (¬ isNew d (S i) ∧ O' = O) ∨ (isNew d (S i) ∧ made d (S i) ≠ .dead ∧ (S i).b.get (S m).h = .dead ∧ O' (S i).b = made d (S i) ∧ ∀ b, b ≠ (S i).b → O' b = O b)) (hb0 : (S 0).b = s.n) :
    Inv nt l S s E0 w0 (fun j => L j ∨ j = i) m (putD d.cr.cd v F) O' E' (a.put o.dst u) w' := by
  have hlt : i < l.length := (List.getElem?_eq_some_iff.mp hd).1
  have hle := hext.le I.rh
  have hname := C.name i (by omega)
  rw [hb0] at hname
  refine ⟨I.m_le, ?_, (I.rf.mono hle).put hdst hru, I.frame_next C Op hd hi hL hv, hrh, ?_, ?_, ?_, I.nn, ?_⟩
  · intro j e he hm
    have hji : j ≠ i := fun h => by subst h; rw [hd] at he; cases he; exact hnm hm
    rw [← I.cut j e he hm]
    exact ⟨fun h => h.resolve_right hji, .inl⟩
  · intro j e hj hp
    rcases hO with ⟨hnn, rfl⟩ | ⟨hnew, hne, hdead, hOi, hOo⟩
    · have hji : j ≠ i := fun h => by subst h; have := hp.1; rw [hd] at this; cases this; exact hnn hp.2.1
      exact I.pend j e (hj.resolve_right hji) hp
    · by_cases hji : j = i
      · subst hji
        have := hp.1; rw [hd] at this; cases this
        exact ⟨hOi, hdead, hne⟩
      · obtain ⟨g1, g2, g3⟩ := I.pend j e (hj.resolve_right hji) hp
        refine ⟨?_, g2, g3⟩
        rw [hOo _ (fun h => hji (C.name_inj (by have := (List.getElem?_eq_some_iff.mp hp.1).1; omega) (by omega) h))]; exact g1
  · intro b hb
    rcases hO with ⟨hnn, rfl⟩ | ⟨hnew, hne, hdead, hOi, hOo⟩
    · exact I.rest b (fun j e hj hp => hb j e (.inl hj) hp)
    · have hbi : b ≠ (S i).b := hb i d (.inr rfl) ⟨hd, hnew, fun j e he hm h1 h2 => by
        cases hbit : bit e.pre i with
        | false => rfl
        | true => exact absurd (hL j e he ((I.cut j e he hm).mpr h2) i hlt hbit) hi⟩
      rw [hOo b hbi]; exact I.rest b (fun j e hj hp => hb j e (.inl hj) hp)
  · intro b hb
    rcases hD b hb with h | ⟨hnew, rfl⟩
    · rcases I.ids b h with h1 | ⟨j, e, h1, h2, h3, h4⟩ | h1
      · exact .inl h1
      · exact .inr (.inl ⟨j, e, h1, h2, .inl h3, h4⟩)
      · exact .inr (.inr h1)
    · exact .inr (.inl ⟨i, d, hd, hnew, .inr rfl, rfl⟩)
  · have := I.nn
    have hext' : ExtH s.n.val (S m).n.val O E w O' E' w' := { hext with ids := fun b hb => (hD b hb).imp id (fun ⟨_, h⟩ => by rw [h]; omega) }
    exact I.ext.trans hext' (Nat.le_refl _) (Nat.le_refl _)
end
end Go.Vm
