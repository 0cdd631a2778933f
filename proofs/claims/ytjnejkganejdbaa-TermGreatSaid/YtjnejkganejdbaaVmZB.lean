/- The abstract machine is sound: the statements whose order is open: one more done. No condition. -/
import Derived.Test.YtjnejkganejdbaaVmZ
namespace Go.Vm
set_option linter.unusedVariables false
variable {P : Program}
section
variable {call : CallT} {nt : Nat} {ops : Array Oper} {l : List DR} {S : Nat → DS} {s : St} {E0 E : Env} {w0 w : World} {L : Nat → Prop} {m : Nat} {F : Fr AV} {O : Id → AO} {a : Act}
theorem first_mut (S : Nat → DS) (l : List DR) (j : Nat) : ∀ k, (∀ i (d : DR), l[i]? = some d → j ≤ i → i < k → ¬ isMut d (S i)) ∨ ∃ i d, l[i]? = some d ∧ j ≤ i ∧ i < k ∧ isMut d (S i) ∧ ∀ i' (d' : DR), l[i']? = some d' → j ≤ i' → i' < i → ¬ isMut d' (S i') := by
  intro k
  induction k with
  | zero => exact .inl (fun i d _ _ h => by omega)
  | succ k ih =>
    rcases ih with ih | ⟨i, d, h1, h2, h3, h4, h5⟩
    · by_cases hm : ∃ d, l[k]? = some d ∧ j ≤ k ∧ isMut d (S k)
      · obtain ⟨d, h1, h2, h3⟩ := hm
        exact .inr ⟨k, d, h1, h2, by omega, h3, ih⟩
      · refine .inl (fun i d hd h1 h2 h3 => ?_)
        by_cases hik : i = k
        · subst hik; exact hm ⟨d, hd, h1, h3⟩
        · exact ih i d hd h1 (by omega) h3
    · exact .inr ⟨i, d, h1, h2, by omega, h4, h5⟩
theorem last_mut (S : Nat → DS) (l : List DR) (j : Nat) : ∀ k, (∀ i (d : DR), l[i]? = some d → j ≤ i → i < k → ¬ isMut d (S i)) ∨ ∃ i d, l[i]? = some d ∧ j ≤ i ∧ i < k ∧ isMut d (S i) ∧ ∀ i' (d' : DR), l[i']? = some d' → i < i' → i' < k → ¬ isMut d' (S i') := by
  intro k
  induction k with
  | zero => exact .inl (fun i d _ _ h => by omega)
  | succ k ih =>
    by_cases hm : ∃ d, l[k]? = some d ∧ j ≤ k ∧ isMut d (S k)
    · obtain ⟨d, h1, h2, h3⟩ := hm
      exact .inr ⟨k, d, h1, h2, by omega, h3, fun i' d' _ h4 h5 => by omega⟩
    · rcases ih with ih | ⟨i, d, h1, h2, h3, h4, h5⟩
      · refine .inl (fun i d hd h1 h2 h3 => ?_)
        by_cases hik : i = k
        · subst hik; exact hm ⟨d, hd, h1, h3⟩
        · exact ih i d hd h1 (by omega) h3
      · refine .inr ⟨i, d, h1, h2, by omega, h4, fun i' d' hd' h6 h7 h8 => ?_⟩
        by_cases hik : i' = k
        · subst hik; exact hm ⟨d', hd', by omega, h8⟩
        · exact h5 i' d' hd' h6 (by omega) h8
/-- A reading comes to the same at whatever stage. -/
theorem Inv.reads (I : Inv nt l S s E0 w0 L m F O E a w) (C : Chain call l S) {i : Nat} {d : DR} (hd : l[i]? = some d) (hi : ¬ L i) (hL : ∀ (j : Nat) (d : DR), l[j]? = some d → L j → ∀ i, i < l.length → bit d.pre i = true → L i)
    (hpre : ∀ j, j < l.length → bit d.pre j = true → L j) (hk : d.kind = .read) (hw : d.want (S i) = true) {v : AV} (hv : (S (i + 1)).f = putD d.cr.cd v (S i).f) (hs : KStep call d (S i) (S (i + 1)) v d.kind) :
    ∃ n s1, exop d.cr.cop noCall (S i).f (.mk (S m).h n) = .ok v s1 := by
  rw [hk] at hs
  obtain ⟨hx, hws, _⟩ := hs
  have hlt : i < l.length := (List.getElem?_eq_some_iff.mp hd).1
  by_cases hmi : m ≤ i
  · rcases first_mut S l m i with hn | ⟨j, e, he, h1, h2, h3, h4⟩
    · have := (C.heap i hmi (by omega) hn).1
      rw [← this]
      obtain ⟨s1, hx⟩ := hx
      exact ⟨_, s1, hx⟩
    · have hh := (C.heap j h1 (by omega) h4).1
      have hnb : bit d.pre j = false := by
        cases hb : bit d.pre j with
        | false => rfl
        | true => have := (I.cut j e he h3).mp (hpre j (by omega) hb); omega
      have := writesOk_mem hws (C.wrote he h3 h2 (by omega)) hnb
      obtain ⟨s1, hx2⟩ := again_ok this
      rw [← hh]
      exact ⟨_, s1, hx2⟩
  · rcases last_mut S l i m with hn | ⟨j, e, he, h1, h2, h3, h4⟩
    · have := (C.heap m (by omega) I.m_le hn).1
      rw [this]
      obtain ⟨s1, hx⟩ := hx
      exact ⟨_, s1, hx⟩
    · have hjl : j < l.length := (List.getElem?_eq_some_iff.mp he).1
      have hij : i ≠ j := fun h => by subst h; rw [hd] at he; cases he; rw [h3.1] at hk; cases hk
      have hh := (C.heap m h2 I.m_le (fun i' d' hd' h5 h6 => h4 i' d' hd' (by omega) h6)).1
      have hnb : bit e.pre i = false := by
        cases hb : bit e.pre i with
        | false => rfl
        | true => exact absurd (hL j e he ((I.cut j e he h3).mpr h2) i hlt hb) hi
      have hrd := C.read (k := j) hd hk hw hv hx (by omega) (by omega)
      have hst := C.step j e he
      rcases hst.2 with ⟨hw', _⟩ | ⟨_, v', _, hkk⟩
      · rw [h3.2] at hw'; cases hw'
      · rw [h3.1] at hkk
        obtain ⟨_, _, hro, _⟩ := hkk
        obtain ⟨s1, hx2⟩ := again_ok (readsOk_mem hro hrd hnb)
        rw [hh]
        exact ⟨_, s1, hx2⟩
theorem empty_obj (b : Id) : St.empty.obj b = .dead := Id.get_rep b _
theorem rep_obj (b c : Id) : (St.mk (.rep .dead) c).obj b = .dead := Id.get_rep b _
theorem out_wp {o : Oper} {v : Value} {w' : World} {K : Act → World → Prop} {Q : Exit → Act → World → Prop} (h : (execOp a.eval o).run P w = .ok (.value v) w' ∨ ((execOp a.eval o).run P w = .ok .skip w' ∧ v = Go.undef)) (hk : K (a.put o.dst v) w') : o.wp P a w K Q := by
  unfold Oper.wp
  rcases h with h | ⟨h, rfl⟩ <;> rw [h] <;> exact hk
/-- The memory, seen in part. -/
theorem Inv.part (I : Inv nt l S s E0 w0 L m F O E a w) (n : Id) : ∀ b, (St.mk (S m).h n).obj b = .dead ∨ (St.mk (S m).h n).obj b = O b := by
  intro b
  show b.get (S m).h = .dead ∨ b.get (S m).h = O b
  by_cases hp : ∃ i d, L i ∧ Pending l S m i d ∧ b = (S i).b
  · obtain ⟨i, d, h1, h2, rfl⟩ := hp
    exact .inl (I.pend i d h1 h2).2.1
  · exact .inr (I.rest b (fun i d h1 h2 h3 => hp ⟨i, d, h1, h2, h3⟩)).symm
theorem names_guard {c : CR} {t : Sl} {b : Bool} (h : c.guard = .g t b) : t ∈ c.names := by
  obtain ⟨cd, op, g⟩ := c
  have h' : g = .g t b := h
  subst h'
  exact List.mem_append_right _ (List.mem_append_left _ (List.mem_singleton.mpr rfl))
theorem names_slots {c : CR} {t : Sl} (h : t ∈ c.cop.slots) : t ∈ c.names := by
  obtain ⟨cd, op, g⟩ := c
  exact List.mem_append_right _ (List.mem_append_right _ h)
/-- One more: no write. -/
theorem Inv.step_still (I : Inv nt l S s E0 w0 L m F O E a w) (C : Chain call l S) (Op : Opn P nt ops l) {i : Nat} {d : DR} {o : Oper} (ho : ops[i]? = some o) (hd : l[i]? = some d) (hi : ¬ L i) (hL : ∀ (j : Nat) (d : DR), l[j]? = some d → L j → ∀ i, i < l.length → bit d.pre i = true → L i)
    (hpre : ∀ j, j < l.length → bit d.pre j = true → L j) (hb0 : (S 0).b = s.n) (rel0 : Rel s E0 w0) (hnm : ¬ isMut d (S i)) {K : Act → World → Prop} {Q : Exit → Act → World → Prop}
    (hK : ∀ m' F' O' E' a' w', Inv nt l S s E0 w0 (fun j => L j ∨ j = i) m' F' O' E' a' w' → K a' w') : if Region.wanted o (yielded ops a.tmps) = true then o.wp P a w K Q else K (a.put o.dst Go.undef) w := by
  obtain ⟨o', ho', hdi, hdst, hcop, hcg, hkind⟩ := Op.op i d hd
  rw [ho] at ho'; cases ho'
  have hlt : i < l.length := (List.getElem?_eq_some_iff.mp hd).1
  have hname := C.name i (by omega)
  rw [hb0] at hname
  have hnames := I.names Op hL hd hi hpre
  have hgn : wanted d.cr.guard F = wanted d.cr.guard (S i).f := wanted_congr (fun t ⟨b, hb⟩ => hnames t (names_guard hb))
  have hslots : ∀ t ∈ d.cr.cop.slots, t.get F = t.get (S i).f := fun t ht => hnames t (names_slots ht)
  have hwe : Region.wanted o (yielded ops a.tmps) = d.want (S i) := (wanted_eq hcg I.rf).trans hgn
  have hs := C.step i d hd
  rcases hs.2 with ⟨hw, hv, _⟩ | ⟨hw, v, hv, hkk⟩
  · rw [hwe, hw, if_neg (by simp)]
    exact hK _ _ _ _ _ _ (I.next C Op ho hd hi hL hdst hnm hv (RV.undef E w) I.rh (n1 := 0) (n2 := 0) .refl (fun b hb => .inl hb) (.inl ⟨(fun h => by rw [h.2] at hw; cases hw), rfl⟩) hb0)
  · rw [hwe, hw, if_pos rfl]
    cases hq : d.kind with
    | quiet =>
      rw [hq] at hkk
      obtain ⟨⟨s1, hx⟩, _⟩ := hkk
      rw [← exop_congr hslots] at hx
      have hg := exop_good (call := noCall) hcop I.rf (I.rh.kill (fun b => .inl (empty_obj b))) hx
      rw [← hkind, hq] at hg
      obtain ⟨rfl, hg⟩ := hg
      obtain ⟨E', w', u, h1, h2, h3, h4⟩ := hg 0 0
      obtain ⟨g1, g2, _⟩ := merge (o' := O) I.rh (fun b => .inl (empty_obj b)) h2 h4 (fun _ _ _ => rfl) (fun b hb => by rcases hb with hb | hb <;> first | exact absurd (empty_obj b) hb | rw [hb, empty_obj])
      exact out_wp h1 (hK _ _ _ _ _ _ (I.next C Op ho hd hi hL hdst hnm hv h3 g1 g2 (fun b hb => .inl ((h4.ids b hb).resolve_right (by omega))) (.inl ⟨(fun h => by rw [h.1] at hq; cases hq), rfl⟩) hb0))
    | read =>
      obtain ⟨n, s1, hx⟩ := I.reads C hd hi hL hpre hq hw hv hkk
      rw [← exop_congr hslots] at hx
      have hg := exop_good (call := noCall) hcop I.rf (I.rh.kill (I.part n)) hx
      rw [← hkind, hq] at hg
      obtain ⟨rfl, hg⟩ := hg
      obtain ⟨E', w', u, h1, h2, h3, h4⟩ := hg 0 0
      obtain ⟨g1, g2, _⟩ := merge (o' := O) I.rh (I.part n) h2 h4 (fun _ _ _ => rfl) (fun b hb => by
        rcases hb with hb | hb
        · rcases I.part n b with h | h
          · rw [hb, h]
          · exact h.symm
        · exact ((I.part n b).resolve_left hb).symm)
      exact out_wp h1 (hK _ _ _ _ _ _ (I.next C Op ho hd hi hL hdst hnm hv h3 g1 g2 (fun b hb => .inl ((h4.ids b hb).resolve_right (by omega))) (.inl ⟨(fun h => by rw [h.1] at hq; cases hq), rfl⟩) hb0))
    | alloc =>
      have hnew : isNew d (S i) := ⟨hq, hw⟩
      rw [hq] at hkk
      obtain ⟨⟨s1, hx⟩, _⟩ := hkk
      have hmade : made d (S i) = (S i).b.get s1.h := by unfold made; rw [hx]; rfl
      rw [← exop_congr hslots] at hx
      obtain ⟨q1, q2⟩ := alloc_one (by rw [← hkind]; exact hq) hx
      have hg := exop_good (call := noCall) hcop I.rf (I.rh.kill (fun b => .inl (rep_obj b _))) hx
      rw [← hkind, hq] at hg
      have hfresh : ¬ E.D (S i).b := by
        intro hD
        rcases I.ids _ hD with h | ⟨j, e, h1, h2, h3, h4⟩ | h
        · exact rel0.n _ (by rw [hname]; omega) h
        · have := C.name_inj (by omega) (by have := (List.getElem?_eq_some_iff.mp h1).1; omega) h4
          subst this; exact hi h3
        · omega
      obtain ⟨_, hg⟩ := hg hfresh
      obtain ⟨E', w', u, h1, h2, h3, h4⟩ := hg
      have hOd : O (S i).b = .dead := by
        by_cases h : O (S i).b = .dead
        · exact h
        · exact absurd (I.rh.old _ h) hfresh
      have hbn : (St.mk (.rep .dead) (S i).b).n = (S i).b := rfl
      rw [hbn] at q1 q2 h4
      have hO' : s1.obj (S i).b = made d (S i) := by rw [hmade]; cases s1; rfl
      obtain ⟨g1, g2, _⟩ := merge (o' := fun b => if b = (S i).b then made d (S i) else O b) I.rh (fun b => .inl (rep_obj b _)) h2 h4 (fun b hb _ => by
          show (if b = (S i).b then made d (S i) else O b) = O b
          rw [if_neg (fun h => hb (by rw [h]; exact hOd))]) (fun b hb => by
          show (if b = (S i).b then made d (S i) else O b) = s1.obj b
          by_cases hbb : b = (S i).b
          · rw [if_pos hbb, hbb, hO']
          · rw [if_neg hbb, q2 b hbb, rep_obj]
            exact hb.resolve_right (fun h => h (rep_obj b _)))
      have hSm : (S i).b.get (S m).h = .dead := by
        rw [← I.rest (S i).b (fun j e hj hp h => hi (by
          have := C.name_inj (by omega) (by have := (List.getElem?_eq_some_iff.mp hp.1).1; omega) h
          rw [this]; exact hj))]
        exact hOd
      refine out_wp h1 (hK _ _ _ _ _ _ (I.next C Op ho hd hi hL hdst hnm hv h3 g1 g2 (fun b hb => ?_) (.inr ⟨hnew, by rw [← hO']; exact q1, hSm, by simp, fun b hb => by simp [hb]⟩) hb0))
      rcases h4.ids b hb with h | h
      · exact .inl h
      · exact .inr ⟨hnew, Id.val_inj (by omega)⟩
    | «mut» => exact absurd ⟨hq, hw⟩ hnm
end
end Go.Vm
