/- The abstract machine is sound. No condition. -/
import Derived.Test.YtjnejkganejdbaaVmZC
namespace Go.Vm
set_option linter.unusedVariables false
variable {P : Program}
theorem ups_ok : ∀ (m : Nat) (n : Id) (k : Id → RC), ups m n k = .no ∨ ∃ n' : Id, n'.val = n.val + m ∧ ups m n k = k n' := by
  intro m
  induction m with
  | zero => intro n k; exact .inr ⟨n, rfl, rfl⟩
  | succ m ih =>
    intro n k
    have e : ups (m + 1) n k = n.up .no fun n => ups m n k := rfl
    rw [e]
    rcases Id.up_spec n RC.no (fun n => ups m n k) with h | ⟨y, hy, h⟩
    · exact .inl h
    · rw [h]
      rcases ih y k with h1 | ⟨n', h1, h2⟩
      · exact .inl h1
      · exact .inr ⟨n', by omega, h2⟩
section
variable {call : CallT} {nt : Nat} {ops : Array Oper} {l : List DR} {S : Nat → DS} {s : St} {E0 E : Env} {w0 w : World} {L : Nat → Prop} {m : Nat} {F : Fr AV} {O : Id → AO} {a : Act}
/-- All done. -/
theorem Inv.all (I : Inv nt l S s E0 w0 L m F O E a w) (C : Chain call l S) (rel0 : Rel s E0 w0) (hb0 : (S 0).b = s.n) (hL : ∀ j, j < l.length → L j) :
    CodePost nt s E0 w0 (.nor (S l.length).f (.mk (flush (S l.length).ps (S l.length).h) (S l.length).n)) .normal a w := by
  have hnone : ∀ j (e : DR), l[j]? = some e → m ≤ j → j < l.length → ¬ isMut e (S j) := fun j e he h1 h2 h3 => by
    have := (I.cut j e he h3).mp (hL j h2); omega
  obtain ⟨hh, hn⟩ := C.heap l.length I.m_le (Nat.le_refl _) hnone
  have hfwd : ∀ (j : Nat) (e : DR), Pending l S l.length j e → Pending l S m j e := fun j e hp => ⟨hp.1, hp.2.1, fun k q hq hqm h1 h2 => hp.2.2 k q hq hqm h1 (by have := I.m_le; omega)⟩
  have hbwd : ∀ (j : Nat) (e : DR), Pending l S m j e → Pending l S l.length j e := fun j e hp => ⟨hp.1, hp.2.1, fun k q hq hqm h1 h2 => hp.2.2 k q hq hqm h1 ((I.cut k q hq hqm).mp (hL k h2))⟩
  have hobj : (St.mk (flush (S l.length).ps (S l.length).h) (S l.length).n).obj = O := by
    funext b
    show b.get (flush (S l.length).ps (S l.length).h) = O b
    rcases flush_get (S l.length).ps (S l.length).h b with ⟨p, hp, h1, h2⟩ | ⟨h1, h2⟩
    · obtain ⟨j, e, h3, h4, h5⟩ := (C.pend l.length (Nat.le_refl _) p).mp hp
      rw [h5] at h1 h2
      rw [h2, ← h1]; exact (I.pend j e (hL j h3) (hfwd j e h4)).1.symm
    · rw [h2, hh]
      refine (I.rest b (fun j e hj hp hbe => ?_)).symm
      exact h1 _ ((C.pend l.length (Nat.le_refl _) _).mpr ⟨j, e, (List.getElem?_eq_some_iff.mp hp.1).1, hbwd j e hp, rfl⟩) hbe.symm
  refine ⟨_, _, E, rfl, ⟨fun t ht => ?_, I.rf.size, I.rf.defers⟩, ⟨⟨fun b hb hD => ?_, by rw [hobj]; exact I.rh⟩, ?_, ?_⟩⟩
  · rw [← I.fr (Sl.ofNat t) l.length (Nat.le_refl _) (fun j d hd _ => ⟨fun _ => (List.getElem?_eq_some_iff.mp hd).1, fun h => hL j h⟩)]
    exact I.rf.slot t ht
  · have hb' : (S l.length).n.val ≤ b.val := hb
    rw [hn] at hb'
    have := I.nn
    rcases I.ids b hD with h | ⟨j, e, h1, h2, h3, h4⟩ | h
    · exact rel0.n b (by omega) h
    · have h6 := (List.getElem?_eq_some_iff.mp h1).1
      have h5 := C.name j (by omega)
      rw [hb0] at h5
      rw [h4] at hb'; omega
    · omega
  · show s.n.val ≤ (S l.length).n.val
    rw [hn]; have := I.nn; omega
  · show ExtH s.n.val (S l.length).n.val s.obj E0 w0 _ E w
    rw [hobj, hn]; exact I.ext
/-- What is listed. -/
def Lst (listed : Array Bool) (j : Nat) : Prop := listed.getD j false = true
theorem ready_mem {listed : Array Bool} {i : Nat} (h : i ∈ Region.ready .any ops listed) : i < ops.size ∧ listed.getD i true = false ∧ ∀ o, ops[i]? = some o → ∀ e ∈ o.after.toList, Region.binds .any e = true → Lst listed e.on := by
  unfold Region.ready at h
  rw [List.mem_filter, List.mem_range, Bool.and_eq_true] at h
  refine ⟨h.1, by simpa using h.2.1, fun o ho e he hb => ?_⟩
  have h2 := h.2.2
  rw [ho] at h2
  simp only [Option.map_some, Option.getD_some] at h2
  rw [Array.all_eq_true'] at h2
  have h3 := h2 e (Array.mem_toList_iff.mp he)
  rw [hb] at h3
  simpa [Lst] using h3
theorem ready_nil {nt : Nat} (Op : Opn P nt ops l) {listed : Array Bool} (hsz : listed.size = ops.size) (h : Region.ready .any ops listed = []) : ∀ n j, j ≤ n → j < ops.size → Lst listed j := by
  intro n
  induction n with
  | zero =>
    intro j hj hlt
    cases hq : listed.getD j false with
    | true => exact hq
    | false =>
      exfalso
      have : j ∈ Region.ready .any ops listed := by
        unfold Region.ready
        rw [List.mem_filter, List.mem_range, Bool.and_eq_true]
        refine ⟨hlt, ?_, ?_⟩
        · have : listed.getD j true = false := by simpa [Array.getD, hsz, hlt] using hq
          rw [this]; rfl
        · rw [Array.getElem?_eq_getElem hlt]
          simp only [Option.map_some, Option.getD_some]
          rw [Array.all_eq_true']
          intro e he
          cases hb : Region.binds .any e with
          | false => rfl
          | true =>
            have := Op.back j _ (Array.getElem?_eq_getElem hlt) e (Array.mem_toList_iff.mpr he) hb
            omega
      rw [h] at this; cases this
  | succ n ih =>
    intro j hj hlt
    cases hq : listed.getD j false with
    | true => exact hq
    | false =>
      exfalso
      have : j ∈ Region.ready .any ops listed := by
        unfold Region.ready
        rw [List.mem_filter, List.mem_range, Bool.and_eq_true]
        refine ⟨hlt, ?_, ?_⟩
        · have : listed.getD j true = false := by simpa [Array.getD, hsz, hlt] using hq
          rw [this]; rfl
        · rw [Array.getElem?_eq_getElem hlt]
          simp only [Option.map_some, Option.getD_some]
          rw [Array.all_eq_true']
          intro e he
          cases hb : Region.binds .any e with
          | false => rfl
          | true =>
            have h1 := Op.back j _ (Array.getElem?_eq_getElem hlt) e (Array.mem_toList_iff.mpr he) hb
            have h2 := ih e.on (by omega) (by omega)
            simpa [Lst] using h2
      rw [h] at this; cases this
end
end Go.Vm
