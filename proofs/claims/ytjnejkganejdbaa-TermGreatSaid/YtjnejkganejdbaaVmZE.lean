/- THE ABSTRACT MACHINE IS SOUND. No condition. -/
import Derived.Test.YtjnejkganejdbaaVmZD
namespace Go.Vm
set_option linter.unusedVariables false
variable {P : Program}
/-- Those not listed yet. -/
def unl (n : Nat) (listed : Array Bool) : List Nat := (List.range n).filter fun j => !listed.getD j false
theorem unl_set {n : Nat} {listed : Array Bool} {i : Nat} (hi : i < n) (hs : i < listed.size) (h : listed.getD i false = false) : (unl n (listed.setIfInBounds i true)).length < (unl n listed).length := by
  have e : unl n (listed.setIfInBounds i true) = (unl n listed).filter fun j => j != i := by
    unfold unl
    rw [List.filter_filter]
    apply List.filter_congr
    intro j _
    by_cases hj : j = i
    · subst hj; simp [Array.getD, hs]
    · have : (listed.setIfInBounds i true).getD j false = listed.getD j false := by
        simp [Array.getD_eq_getD_getElem?, Ne.symm hj]
      rw [this]; simp [hj]
  rw [e]
  refine List.length_filter_lt_length_iff_exists.mpr ⟨i, ?_, by simp⟩
  unfold unl
  rw [List.mem_filter, List.mem_range]
  exact ⟨hi, by rw [h]; rfl⟩
theorem lst_set {listed : Array Bool} {i : Nat} (hs : i < listed.size) (j : Nat) : Lst (listed.setIfInBounds i true) j ↔ Lst listed j ∨ j = i := by
  unfold Lst
  by_cases hj : j = i
  · subst hj; simp [Array.getD, hs]
  · have : (listed.setIfInBounds i true).getD j false = listed.getD j false := by
      simp [Array.getD_eq_getD_getElem?, Ne.symm hj]
    rw [this]; simp [hj]
section
variable {call : CallT} {nt : Nat} {ops : Array Oper} {l : List DR} {S : Nat → DS} {s : St} {E0 : Env} {w0 : World}
theorem Inv.lift {L L' : Nat → Prop} (h : ∀ j, L j ↔ L' j) {m : Nat} {F : Fr AV} {O : Id → AO} {E : Env} {a : Act} {w : World} (I : Inv nt l S s E0 w0 L m F O E a w) : Inv nt l S s E0 w0 L' m F O E a w := by
  have : L = L' := funext fun j => propext (h j)
  rw [← this]; exact I
theorem any_ok (hsc : SoundCall P call) (C : Chain call l S) (Op : Opn P nt ops l) (hb0 : (S 0).b = s.n) (rel0 : Rel s E0 w0) {rc : RC} (hrc : rc = .nor (S l.length).f (.mk (flush (S l.length).ps (S l.length).h) (S l.length).n)) :
    ∀ (fuel : Nat) (listed : Array Bool) (a : Act) (w : World), listed.size = ops.size → (unl ops.size listed).length ≤ fuel → (∀ (j : Nat) (o : Oper), ops[j]? = some o → Lst listed j → ∀ e ∈ o.after.toList, Region.binds .any e = true → Lst listed e.on) →
      (∃ m F O E, Inv nt l S s E0 w0 (Lst listed) m F O E a w) → wpAny P .any ops (CodePost nt s E0 w0 rc) fuel listed a w := by
  intro fuel
  have fin : ∀ (listed : Array Bool) (a : Act) (w : World), listed.size = ops.size → (∃ m F O E, Inv nt l S s E0 w0 (Lst listed) m F O E a w) → Region.ready .any ops listed = [] → CodePost nt s E0 w0 rc .normal a w := by
    rintro listed a w hsz ⟨m, F, O, E, I⟩ hr
    rw [hrc]
    exact I.all C rel0 hb0 (fun j hj => ready_nil Op hsz hr j j (Nat.le_refl _) (by rw [← Op.len]; exact hj))
  induction fuel with
  | zero =>
    intro listed a w hsz hu hcl hI
    have hr : Region.ready .any ops listed = [] := by
      rw [List.eq_nil_iff_forall_not_mem]
      intro i hi
      obtain ⟨h1, h2, _⟩ := ready_mem hi
      have : i ∈ unl ops.size listed := by
        unfold unl
        rw [List.mem_filter, List.mem_range]
        refine ⟨h1, ?_⟩
        have : listed.getD i false = false := by simpa [Array.getD, hsz, h1] using h2
        rw [this]; rfl
      rw [List.eq_nil_of_length_eq_zero (by omega : (unl ops.size listed).length = 0)] at this
      cases this
    exact ⟨hr, fin listed a w hsz hI hr⟩
  | succ fuel ih =>
    intro listed a w hsz hu hcl hI
    refine ⟨fun hr => fin listed a w hsz hI hr, fun i hi => ?_⟩
    obtain ⟨hlt, hni, hready⟩ := ready_mem hi
    have hni' : listed.getD i false = false := by simpa [Array.getD, hsz, hlt] using hni
    have hnL : ¬ Lst listed i := by unfold Lst; rw [hni']; simp
    have hlt' : i < l.length := by rw [Op.len]; exact hlt
    obtain ⟨m, F, O, E, I⟩ := hI
    have ho : ops[i]? = some ops[i] := Array.getElem?_eq_getElem hlt
    have hd : l[i]? = some l[i] := List.getElem?_eq_getElem hlt'
    have hclose := Op.closed hcl
    have hL : ∀ (j : Nat) (d : DR), l[j]? = some d → Lst listed j → ∀ i, i < l.length → bit d.pre i = true → Lst listed i := fun j d hd' hj i' hi' hb => (hclose j j d (Nat.le_refl _) hd' (fun o ho' => hcl j o ho' hj) i' hi' hb).1
    have hpre : ∀ j, j < l.length → bit l[i].pre j = true → Lst listed j ∧ j < i := fun j hj hb => hclose i i l[i] (Nat.le_refl _) hd hready j hj hb
    have hK : ∀ m' F' O' E' a' w', Inv nt l S s E0 w0 (fun j => Lst listed j ∨ j = i) m' F' O' E' a' w' → wpAny P .any ops (CodePost nt s E0 w0 rc) fuel (listed.setIfInBounds i true) a' w' := by
      intro m' F' O' E' a' w' I'
      have hset := lst_set (listed := listed) (i := i) (by rw [hsz]; exact hlt)
      refine ih _ a' w' (by simp [hsz]) (by have := unl_set (listed := listed) hlt (by rw [hsz]; exact hlt) hni'; omega) ?_ ⟨m', F', O', E', I'.lift (fun j => (hset j).symm)⟩
      intro j o ho' hj e he hb
      rw [hset] at hj ⊢
      rcases hj with hj | rfl
      · exact .inl (hcl j o ho' hj e he hb)
      · exact .inl (hready o ho' e he hb)
    have hstep : if Region.wanted ops[i] (yielded ops a.tmps) = true then ops[i].wp P a w (wpAny P .any ops (CodePost nt s E0 w0 rc) fuel (listed.setIfInBounds i true)) (CodePost nt s E0 w0 rc) else wpAny P .any ops (CodePost nt s E0 w0 rc) fuel (listed.setIfInBounds i true) (a.put ops[i].dst Go.undef) w := by
      by_cases hm : isMut l[i] (S i)
      · exact I.step_mut hsc C Op ho hd hnL hL hpre hb0 rel0 hm hK
      · exact I.step_still C Op ho hd hnL hL (fun j h1 h2 => (hpre j h1 h2).1) hb0 rel0 hm hK
    unfold wpOp
    rw [ho]
    dsimp only
    by_cases hw : Region.wanted ops[i] (yielded ops a.tmps) = true
    · rw [if_pos hw] at hstep ⊢; exact .inl hstep
    · rw [if_neg hw] at hstep ⊢; exact hstep
end
/-- The statements whose order is open. -/
theorem drawn_ok (hm : P.follows .mixedOrders = true) (call : CallT) (hsc : SoundCall P call) : DrawnOk P call := by
  intro nt id ops c h
  obtain ⟨l, rfl, Op⟩ := open_of_cc h
  refine ⟨l, rfl, ?_⟩
  intro f s a E w rf rel hne
  have e0 : exdrawn call l f s = ups l.length s.n fun n => exdraw call l s.n f s.h n [] [] [] := rfl
  rw [e0] at hne ⊢
  rcases ups_ok l.length s.n (fun n => exdraw call l s.n f s.h n [] [] []) with hu | ⟨n', hn', hu⟩
  · rw [hu] at hne; exact absurd rfl hne
  rw [hu] at hne ⊢
  obtain ⟨S, h0, hS, hend⟩ := exdraw_chain ⟨s.n, f, s.h, n', [], [], []⟩ hne
  have C : Chain call l S := ⟨hS, fun j d hd => (Op.op j d hd).elim fun o ho => ho.2.1, by rw [h0], by rw [h0], by rw [h0]⟩
  refine wp_region_any hm (any_ok hsc C Op (by rw [h0]) rel hend ops.size _ a w.drew (by simp) ?_ ?_ ⟨0, f, s.obj, E, ?_⟩)
  · unfold unl
    exact Nat.le_trans (List.length_filter_le _ _) (by simp)
  · intro j o ho hj
    exfalso
    unfold Lst at hj
    simp [Array.getD_eq_getD_getElem?, Array.getElem?_replicate] at hj
    split at hj <;> simp at hj
  · have hno : ∀ j, ¬ Lst (Array.replicate ops.size false) j := fun j hj => by
      unfold Lst at hj
      simp [Array.getD_eq_getD_getElem?, Array.getElem?_replicate] at hj
      split at hj <;> simp at hj
    refine ⟨Nat.zero_le _, fun j d hd hmm => ⟨fun h => absurd h (hno j), fun h => by omega⟩, rf.mono (.drew E w), fun t k hk hc => ?_, rel_keep rel.h (.drew E w) (fun _ _ => rfl) (Nat.le_refl _) (fun k hk => .inl hk), fun i d hi => absurd hi (hno i), fun b _ => ?_, fun b hb => .inl hb, ?_, ?_⟩
    · have := C.frame (t := t) (j := 0) k (Nat.zero_le _) hk (fun i d hd _ hik hdst => hno i ((hc i d hd hdst).mpr hik))
      rw [this, h0]
    · rw [h0]; rfl
    · rw [h0]; show _ ≤ n'.val; omega
    · exact ⟨fun _ h => h, fun _ _ => rfl, fun _ h => .inl h, fun _ h => h, fun _ h => .inl h, rfl, rfl, rfl, Nat.le_refl _, fun _ _ _ => rfl, .of_old fun _ _ => rfl, fun b hb => .inl ⟨b, hb, rfl⟩⟩
/-- THE ABSTRACT MACHINE IS SOUND. -/
theorem sound (hm : P.follows .mixedOrders = true) (k : Nat) : SoundCall P (ev (prog P) k) := ev_sound (drawn_ok hm) k
end Go.Vm
