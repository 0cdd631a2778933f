/- What comes by going on; functions of the law. No condition. -/
import Derived.Test.YtggeadnjikpjnaaLibD
namespace Go.Vm
set_option linter.unusedVariables false
/-- What comes by going on. -/
inductive Der (C : List (List Int)) : Int → Prop where
  | step (c : List Int) (x : Int) (hc : c ∈ C) (hx : x ∈ c) (h : ∀ y ∈ c, y ≠ x → Der C (-y)) : Der C x
/-- A clause of which all come turned. -/
def Contra (C : List (List Int)) : Prop := ∃ c ∈ C, ∀ y ∈ c, Der C (-y)
theorem Der.mono {C C' : List (List Int)} (h : ∀ c ∈ C, ∃ c' ∈ C', ∀ x, x ∈ c ↔ x ∈ c') {x : Int} (d : Der C x) : Der C' x := by
  induction d with
  | step c x hc hx hy ih =>
    obtain ⟨c', hc', hm⟩ := h c hc
    exact .step c' x hc' ((hm x).mp hx) fun y hy hne => ih y ((hm y).mpr hy) hne
theorem Contra.mono {C C' : List (List Int)} (h : ∀ c ∈ C, ∃ c' ∈ C', ∀ x, x ∈ c ↔ x ∈ c') (d : Contra C) : Contra C' := by
  obtain ⟨c, hc, hy⟩ := d
  obtain ⟨c', hc', hm⟩ := h c hc
  exact ⟨c', hc', fun y h' => (hy y ((hm y).mpr h')).mono h⟩
theorem Der.sub {C C' : List (List Int)} (h : ∀ c ∈ C, c ∈ C') {x : Int} (d : Der C x) : Der C' x := d.mono fun c hc => ⟨c, h c hc, fun _ => Iff.rfl⟩
theorem known1_nodup {N : Nat} {out : List Int} {x : Int} (h : out.Nodup) : (known1 N out x).Nodup := by
  unfold known1
  split
  · exact h
  · rename_i hn
    refine List.nodup_append.mpr ⟨h, by simp, fun a ha b hb e => ?_⟩
    rw [List.mem_singleton] at hb
    rw [hb] at e; subst e
    exact hn (.inr (.inr ha))
theorem knownL_nodup (N : Nat) (c : List Int) : (knownL N c).Nodup := by
  have key : ∀ (c out : List Int), out.Nodup → (c.foldl (known1 N) out).Nodup := by
    intro c
    induction c with
    | nil => intro out h; exact h
    | cons a c ih => intro out h; exact ih _ (known1_nodup h)
  exact key c [] List.nodup_nil
theorem knownL_mem (N : Nat) (c : List Int) (x : Int) : x ∈ knownL N c ↔ x ∈ c ∧ x ≠ 0 ∧ x.natAbs ≤ N := by
  have key : ∀ (c out : List Int), x ∈ c.foldl (known1 N) out ↔ x ∈ out ∨ (x ∈ c ∧ x ≠ 0 ∧ x.natAbs ≤ N) := by
    intro c
    induction c with
    | nil => intro out; simp
    | cons a c ih =>
      intro out
      rw [List.foldl_cons, ih]
      have h1 : x ∈ known1 N out a ↔ x ∈ out ∨ (x = a ∧ x ≠ 0 ∧ x.natAbs ≤ N) := by
        unfold known1
        split
        · rename_i hh
          constructor
          · exact .inl
          · rintro (h | ⟨rfl, h1, h2⟩)
            · exact h
            · rcases hh with hh | hh | hh
              · exact absurd hh h1
              · omega
              · exact hh
        · rename_i hh
          rw [List.mem_append, List.mem_singleton]
          constructor
          · rintro (h | rfl)
            · exact .inl h
            · exact .inr ⟨rfl, fun e => hh (.inl e), by have := fun e => hh (.inr (.inl e)); omega⟩
          · rintro (h | ⟨h, _⟩)
            · exact .inl h
            · exact .inr h
      rw [h1, List.mem_cons]
      constructor
      · rintro ((h | ⟨h, h2⟩) | ⟨h, h2⟩)
        · exact .inl h
        · exact .inr ⟨.inl h, h2⟩
        · exact .inr ⟨.inr h, h2⟩
      · rintro (h | ⟨h | h, h2⟩)
        · exact .inl (.inl h)
        · exact .inl (.inr ⟨h, h2⟩)
        · exact .inr ⟨h, h2⟩
  have := key c []
  simpa [knownL] using this
theorem entsX_occ (j : Int) (c : List Int) : ∀ (X : SV) (x i : Int), i ∈ lookI (entsX j X c).inn x ↔ i ∈ lookI X.inn x ∨ (x ∈ c ∧ i = j) := by
  induction c with
  | nil => intro X x i; simp [entsX]
  | cons a c ih =>
    intro X x i
    show i ∈ lookI (entsX j (X.aE a j) c).inn x ↔ _
    rw [ih, SV.aE_inn, look_updI, List.mem_cons]
    by_cases h : x = a
    · rw [if_pos h, List.mem_append, List.mem_singleton]
      subst h
      constructor
      · rintro ((h | h) | ⟨_, h⟩)
        · exact .inl h
        · exact .inr ⟨.inl rfl, h⟩
        · exact .inr ⟨.inl rfl, h⟩
      · rintro (h | ⟨_, h⟩)
        · exact .inl (.inl h)
        · exact .inl (.inr h)
    · rw [if_neg h]
      constructor
      · rintro (h | ⟨h1, h2⟩)
        · exact .inl h
        · exact .inr ⟨.inr h1, h2⟩
      · rintro (h' | ⟨h1 | h1, h2⟩)
        · exact .inl h'
        · exact absurd h1 h
        · exact .inr ⟨h1, h2⟩
/-- A clause more: the trail's part is as good as before. -/
theorem Wf.keep {X : SV} (w : Wf X) {c : List Int} (hc : c ≠ [] ∧ c.Nodup ∧ ∀ x ∈ c, x ≠ 0 ∧ x.natAbs ≤ X.n) : Wf (entsX (X.cl.length : Int) (X.aL c) c) := by
  obtain ⟨k1, k2, k3, k4, k5, k6, k7, k8, k9⟩ := entsX_keeps (X.cl.length : Int) c (X.aL c)
  refine ⟨by rw [k5, k1]; exact w.len, by rw [k4]; exact w.nd, by rw [k4, k1]; exact w.rng, by rw [k5]; exact w.vb, by rw [k5, k4, k1]; exact w.vt, ?_, ?_, by rw [k6, k4]; exact w.done⟩
  · intro d hd
    rw [k3, SV.aL_cl, List.mem_append, List.mem_singleton] at hd
    rw [k1]
    rcases hd with hd | rfl
    · exact w.cl d hd
    · exact hc
  · intro x i
    rw [entsX_occ, k3, SV.aL_cl, SV.aL_inn, w.occ]
    constructor
    · rintro (⟨k, rfl, d, hd, hx⟩ | ⟨hx, rfl⟩)
      · exact ⟨k, rfl, d, by rw [List.getElem?_append_left (List.getElem?_eq_some_iff.mp hd).1]; exact hd, hx⟩
      · exact ⟨X.cl.length, rfl, c, by simp, hx⟩
    · rintro ⟨k, rfl, d, hd, hx⟩
      by_cases hk : k < X.cl.length
      · rw [List.getElem?_append_left hk] at hd
        exact .inl ⟨k, rfl, d, hd, hx⟩
      · have hk2 := (List.getElem?_eq_some_iff.mp hd).1
        rw [List.length_append] at hk2
        simp at hk2
        have e : k = X.cl.length := by omega
        subst e
        simp at hd
        subst hd
        exact .inr ⟨hx, rfl⟩
theorem X0_wf (n : Nat) : Wf (X0 n) := by
  have hz : ∀ x, litV (X0 n).val x = 0 := fun x => by
    have : ∀ k, (X0 n).val.getD k 0 = 0 := fun k => by
      rw [List.getD_eq_getElem?_getD]
      show ((List.replicate (n + 1) (0 : Int))[k]?).getD 0 = 0
      rw [List.getElem?_replicate]
      split <;> rfl
    unfold litV
    rw [this]; split <;> rfl
  refine ⟨by simp [X0], by simp [X0], by simp [X0], fun v hv => ?_, fun x h0 hn => ?_, by simp [X0], fun x i => ?_, by simp [X0]⟩
  · have := List.eq_of_mem_replicate (show v ∈ List.replicate (n + 1) (0 : Int) from hv); omega
  · rw [hz]; simp [X0]
  · simp [X0, lookI]
/-- What holds of a solver to which clauses were added, where nothing was tried. -/
structure Fresh (N : Nat) (l : List (List Int)) (X : SV) : Prop where
  wf : Wf X
  n : X.n = N
  st : X.st = []
  done : X.done = 0
  cl : X.cl = (l.map (knownL N)).filter fun c => decide (c ≠ [])
  der : ∀ x ∈ X.tr, Der (l.map (knownL N)) x
  bad : X.closed = true → Contra (l.map (knownL N))
  good : X.closed = false → [] ∉ l.map (knownL N) ∧ ∀ c ∈ X.cl, okC X.tr [] c
  rea : ∀ x ∈ X.tr, [x] ∈ X.cl
theorem newX_fresh (n : Nat) (l : List (List Int)) : Fresh n l (newX n l) := by
  induction hm : l.length generalizing l with
  | zero =>
    have : l = [] := List.eq_nil_of_length_eq_zero hm
    subst this
    exact ⟨X0_wf n, rfl, rfl, rfl, rfl, (by intro x hx; cases hx), (by intro h; cases h), fun _ => ⟨by simp, by intro c hc; cases hc⟩, (by intro x hx; cases hx)⟩
  | succ m ih =>
    obtain ⟨l', c, rfl⟩ : ∃ l' c, l = l' ++ [c] := by
      have hne : l ≠ [] := by intro e; subst e; simp at hm
      exact ⟨l.dropLast, l.getLast hne, (List.dropLast_concat_getLast hne).symm⟩
    have h := ih l' (by simp at hm; exact hm)
    rw [newX_snoc]
    generalize newX n l' = X at *
    have hC : (l' ++ [c]).map (knownL n) = l'.map (knownL n) ++ [knownL n c] := by rw [List.map_append]; rfl
    have hsub : ∀ d ∈ l'.map (knownL n), d ∈ (l' ++ [c]).map (knownL n) := fun d hd => by rw [hC]; exact List.mem_append_left _ hd
    have hmem : knownL n c ∈ (l' ++ [c]).map (knownL n) := by rw [hC]; simp
    unfold addX
    rw [h.n]
    have hkn := knownL_nodup n c
    have hki : ∀ x ∈ knownL n c, x ≠ 0 ∧ x.natAbs ≤ X.n := by rw [h.n]; exact knownL_in n c
    generalize hk : knownL n c = k at *
    by_cases ke : k = []
    · have e : keepX X k = X.sC true := by unfold keepX; rw [if_pos ke]
      rw [e]
      refine ⟨⟨h.wf.len, h.wf.nd, h.wf.rng, h.wf.vb, h.wf.vt, h.wf.cl, h.wf.occ, Nat.zero_le _⟩, h.n, h.st, rfl, ?_, fun x hx => (h.der x hx).sub hsub, fun _ => ⟨k, hmem, by rw [ke]; intro y hy; cases hy⟩, (by intro q; cases q), h.rea⟩
      rw [hC, List.filter_append, ke]
      show X.cl = _
      rw [h.cl]; simp
    · have e : keepX X k = entsX (X.cl.length : Int) ((keep1 X k).aL k) k := by unfold keepX; rw [if_neg ke]
      have hk1 := keep1_keeps X k
      obtain ⟨k1, k2, k3, k4, k5⟩ := hk1
      have hcl2 : (l' ++ [c]).map (knownL n) = l'.map (knownL n) ++ [k] := hC
      have hfil : ((l' ++ [c]).map (knownL n)).filter (fun c => decide (c ≠ [])) = X.cl ++ [k] := by
        rw [hC, List.filter_append, ← h.cl]
        simp [ke]
      -- what the first part makes
      have part : Wf (keep1 X k) ∧ (∀ x ∈ (keep1 X k).tr, x ∈ X.tr ∨ k = [x]) ∧ (∀ x ∈ X.tr, x ∈ (keep1 X k).tr) ∧ ((keep1 X k).closed = true → X.closed = true ∨ ∃ x, k = [x] ∧ -x ∈ X.tr) ∧ ((keep1 X k).closed = false → X.closed = false ∧ okC (keep1 X k).tr [] k) := by
        have two : k.length ≠ 1 → okC X.tr [] k := fun hl => by
          match k, ke, hl, hkn with
          | [], ke, _, _ => exact absurd rfl ke
          | [a], _, hl, _ => exact absurd rfl hl
          | a :: b :: r, _, _, hd =>
            refine .inr ⟨a, by simp, b, by simp, fun e => ?_, by simp, by simp⟩
            subst e
            simp at hd
        by_cases hl : k.length = 1
        · obtain ⟨x, rfl⟩ := List.length_eq_one_iff.mp hl
          have hx := hki x (by simp)
          have hx' : x ≠ 0 ∧ x.natAbs ≤ X.n := hx
          have e1 : keep1 X [x] = (if litV X.val x = -1 then X.sC true else if litV X.val x = 0 then putX X x (-1) else X) := by unfold keep1; rw [if_pos ⟨rfl, h.st⟩]; rfl
          rw [e1]
          by_cases c1 : litV X.val x = -1
          · rw [if_pos c1]
            exact ⟨⟨h.wf.len, h.wf.nd, h.wf.rng, h.wf.vb, h.wf.vt, h.wf.cl, h.wf.occ, h.wf.done⟩, fun y hy => .inl hy, fun y hy => hy, fun _ => .inr ⟨x, rfl, (h.wf.neg hx'.1 hx'.2).mp c1⟩, (by intro q; cases q)⟩
          · rw [if_neg c1]
            by_cases c2 : litV X.val x = 0
            · rw [if_pos c2]
              refine ⟨h.wf.put hx'.1 hx'.2 c2, fun y hy => ?_, fun y hy => ?_, fun q => .inl q, fun q => ⟨q, .inl ⟨x, by simp, ?_⟩⟩⟩
              · rw [putX_tr, List.mem_append, List.mem_singleton] at hy
                exact hy.imp id fun e => by rw [e]
              · rw [putX_tr]; exact List.mem_append_left _ hy
              · rw [putX_tr]; simp
            · rw [if_neg c2]
              have c3 : litV X.val x = 1 := by have := h.wf.lb x; omega
              exact ⟨h.wf, fun y hy => .inl hy, fun y hy => hy, fun q => .inl q, fun q => ⟨q, .inl ⟨x, by simp, (h.wf.vt x hx'.1 hx'.2).mp c3⟩⟩⟩
        · have e1 : keep1 X k = X := by unfold keep1; rw [if_neg (fun q => hl q.1)]
          rw [e1]
          exact ⟨h.wf, fun y hy => .inl hy, fun y hy => hy, fun q => .inl q, fun q => ⟨q, two hl⟩⟩
      obtain ⟨p1, p2, p3, p4, p5⟩ := part
      rw [e]
      generalize keep1 X k = Y at *
      rw [← k3]
      have hw := p1.keep (c := k) ⟨ke, hkn, fun x hx => by rw [k1]; exact hki x hx⟩
      obtain ⟨q1, q2, q3, q4, q5, q6, q7, q8, q9⟩ := entsX_keeps (Y.cl.length : Int) k (Y.aL k)
      refine ⟨⟨hw.len, hw.nd, hw.rng, hw.vb, hw.vt, hw.cl, hw.occ, Nat.zero_le _⟩, ?_, ?_, rfl, ?_, fun x hx => ?_, fun hcl => ?_, fun hcl => ?_, fun x hx => ?_⟩
      · rw [SV.sD_n, q1, SV.aL_n, k1, h.n]
      · rw [SV.sD_st, q2, SV.aL_st, k2, h.st]
      · rw [SV.sD_cl, q3, SV.aL_cl, k3, hfil]
      · rw [SV.sD_tr, q4, SV.aL_tr] at hx
        rcases p2 x hx with hx | hx
        · exact (h.der x hx).sub hsub
        · exact .step k x hmem (by rw [hx]; simp) fun y hy hne => by rw [hx, List.mem_singleton] at hy; exact absurd hy hne
      · rw [SV.sD_closed, q7, SV.aL_closed] at hcl
        rcases p4 hcl with hcl | ⟨x, hx, hn⟩
        · obtain ⟨d, hd, hy⟩ := h.bad hcl
          exact ⟨d, hsub d hd, fun y h' => (hy y h').sub hsub⟩
        · exact ⟨k, hmem, fun y hy => by rw [hx, List.mem_singleton] at hy; rw [hy]; exact (h.der _ hn).sub hsub⟩
      · rw [SV.sD_closed, q7, SV.aL_closed] at hcl
        obtain ⟨r1, r2⟩ := p5 hcl
        obtain ⟨g1, g2⟩ := h.good r1
        refine ⟨?_, fun d hd => ?_⟩
        · rw [hC, List.mem_append, List.mem_singleton]
          rintro (q | q)
          · exact g1 q
          · exact ke q.symm
        · rw [SV.sD_cl, q3, SV.aL_cl, List.mem_append, List.mem_singleton, k3] at hd
          rw [SV.sD_tr, q4, SV.aL_tr]
          rcases hd with hd | rfl
          · exact (g2 d hd).mono p3 fun x hx => hx
          · exact r2
      · rw [SV.sD_tr, q4, SV.aL_tr] at hx
        rw [SV.sD_cl, q3, SV.aL_cl, k3]
        rcases p2 x hx with hx | hx
        · exact List.mem_append_left _ (h.rea x hx)
        · rw [hx]; simp
/-- Going on, told by what comes. -/
def JD (C cl : List (List Int)) (X : SV) : Prop := X.cl = cl ∧ ∀ x ∈ X.tr, Der C x
theorem JD.step {C cl : List (List Int)} (h : ∀ c ∈ cl, c ∈ C) : Step (JD C cl) := by
  refine ⟨fun X k c u w j hc hu hz hy => ⟨j.1, fun x hx => ?_⟩, fun X d j => j⟩
  rw [putX_tr, List.mem_append, List.mem_singleton] at hx
  have hcm := List.mem_of_getElem? hc
  rcases hx with hx | rfl
  · exact j.2 x hx
  · refine .step c x (h c (by rw [← j.1]; exact hcm)) hu fun y hym hne => j.2 _ ?_
    have := (w.cl c hcm).2.2 y hym
    exact (w.neg this.1 this.2).mp (hy y hym hne)
/-- What comes is just what is there, where nothing is left to go on from. -/
theorem closed_der {X : SV} (w : Wf X) (hw : ∀ c ∈ X.cl, okC X.tr X.tr c) {x : Int} (d : Der X.cl x) : x ∈ X.tr := by
  induction d with
  | step c x hc hx hy ih =>
    have hr := (w.cl c hc).2.2
    have no : ∀ y ∈ c, y ∈ X.tr → -y ∈ X.tr → False := fun y hym h1 h2 => by
      have e1 := (w.vt y (hr y hym).1 (hr y hym).2).mpr h1
      have e2 := (w.neg (hr y hym).1 (hr y hym).2).mpr h2
      omega
    rcases hw c hc with ⟨z, hz, hzt⟩ | ⟨a, ha, b, hb, hab, h1, h2⟩
    · by_cases e : z = x
      · rw [← e]; exact hzt
      · exact (no z hz hzt (ih z hz e)).elim
    · by_cases e : a = x
      · have hb2 : b ≠ x := fun e2 => hab (e.trans e2.symm)
        exact absurd (ih b hb hb2) h2
      · exact absurd (ih a ha e) h1
theorem closed_contra {X : SV} (w : Wf X) (hw : ∀ c ∈ X.cl, okC X.tr X.tr c) : ¬ Contra X.cl := by
  rintro ⟨c, hc, hy⟩
  have hr := (w.cl c hc).2.2
  have ih : ∀ y ∈ c, -y ∈ X.tr := fun y hym => closed_der w hw (hy y hym)
  rcases hw c hc with ⟨z, hz, hzt⟩ | ⟨a, ha, b, hb, hab, h1, h2⟩
  · have e1 := (w.vt z (hr z hz).1 (hr z hz).2).mpr hzt
    have e2 := (w.neg (hr z hz).1 (hr z hz).2).mpr (ih z hz)
    omega
  · exact h1 (ih a ha)
end Go.Vm
namespace Go.Vm
set_option linter.unusedVariables false
def RowsO (s τ : St) (own : List Id) : List AV → List (List Int) → Prop
  | [], [] => True
  | e :: l, c :: m => ExS τ e (c.map (.int .i64)) ∧ (∀ i ∈ ids e, s.n.val ≤ i.val ∧ i ∉ own) ∧ RowsO s τ own l m
  | _, _ => False
theorem RowsO.len {s τ : St} {own : List Id} : ∀ {l : List AV} {m : List (List Int)}, RowsO s τ own l m → l.length = m.length
  | [], [], _ => rfl
  | _ :: l, _ :: m, h => by simp [RowsO.len h.2.2]
  | [], _ :: _, h => h.elim
  | _ :: _, [], h => h.elim
theorem RowsO.frame {s τ τ' : St} {own own' : List Id} : ∀ {l : List AV} {m : List (List Int)}, RowsO s τ own l m → (∀ i, i ∉ own → i.val < τ.n.val → τ'.obj i = τ.obj i) → (∀ i, i.val < τ.n.val → i ∈ own' → i ∈ own) → Room τ → RowsO s τ' own' l m
  | [], [], _, _, _, _ => trivial
  | e :: l, c :: m, h, hf, ho, hr => ⟨h.1.frame fun i hi => hf i (h.2.1 i hi).2 (h.1.lt hr i hi), fun i hi => ⟨(h.2.1 i hi).1, fun hm => (h.2.1 i hi).2 (ho i (h.1.lt hr i hi) hm)⟩, RowsO.frame h.2.2 hf ho hr⟩
  | [], _ :: _, h, _, _, _ => h.elim
  | _ :: _, [], h, _, _, _ => h.elim
theorem RowsO.snoc {s τ : St} {own : List Id} {e : AV} {c : List Int} (he : ExS τ e (c.map (.int .i64))) (hi : ∀ i ∈ ids e, s.n.val ≤ i.val ∧ i ∉ own) : ∀ {l : List AV} {m : List (List Int)}, RowsO s τ own l m → RowsO s τ own (l ++ [e]) (m ++ [c])
  | [], [], _ => ⟨he, hi, trivial⟩
  | _ :: l, _ :: m, h => ⟨h.1, h.2.1, RowsO.snoc he hi h.2.2⟩
  | [], _ :: _, h => h.elim
  | _ :: _, [], h => h.elim
theorem RowsO.fz {s τ : St} {own : List Id} : ∀ {l : List AV} {m : List (List Int)}, RowsO s τ own l m → ∀ (j : Nat) (c d : AV), l[j]? = some c → (m.map tsN)[j]? = some d → Fz s.n.val τ c d
  | [], [], _, j, c, d, h, _ => by simp at h
  | e :: l, x :: m, h, j, c, d, h1, h2 => by
    cases j with
    | zero => simp at h1 h2; subst h1; subst h2; exact h.1.fz fun i hi => (h.2.1 i hi).1
    | succ j => exact RowsO.fz h.2.2 j c d (by simpa using h1) (by simpa using h2)
  | [], _ :: _, h, _, _, _, _, _ => h.elim
  | _ :: _, [], h, _, _, _, _, _ => h.elim
theorem tsN_ov (n : Nat) (c : List Int) : Ov n (tsN c) := by
  unfold tsN
  split
  · exact ov_nils _
  · exact ov_ts (fun a ha => by obtain ⟨z, _, rfl⟩ := List.mem_map.mp ha; exact ov_int _ _ _) _ _ _
noncomputable def tsR (m : List (List Int)) : AV := if m = [] then .nils else .ts (m.map tsN) m.length m.length false
theorem tsR_rows (s : St) (m : List (List Int)) (hm : m.length ≤ limit) (hc : ∀ c ∈ m, c.length ≤ limit) : Rows2 s (tsR m) m := by
  unfold tsR
  split
  · rename_i e; subst e; exact ⟨.nils, rfl, fun i hi => by simp at hi⟩
  · refine ⟨.ts _ _ _ _ hm (fun a ha => by obtain ⟨c, _, rfl⟩ := List.mem_map.mp ha; exact tsN_ov _ _), rfl, fun i hi => ?_⟩
    show ∃ a t, (m.map tsN).drop (i * 1) = a :: t ∧ Ints s a m[i]
    rw [Nat.mul_one, List.drop_eq_getElem_cons (by rw [List.length_map]; exact hi), List.getElem_map]
    exact ⟨_, _, rfl, tsN_ints s _ (hc _ (List.getElem_mem hi))⟩
def fewB (l : List (List Int)) : Bool := l.all (fun c => decide (c.length ≤ 8)) && decide (l.length ≤ 40)
def okV (n : Nat) (v : Int) : Bool := decide (v ≠ 0 ∧ -(n : Int) ≤ v ∧ v ≤ (n : Int))
def countL (n : Nat) (l : List (List Int)) : List (List Int) := l.map fun c => c.filter (okV n)
theorem countL_len (n : Nat) (l : List (List Int)) : (countL n l).length = l.length := by unfold countL; rw [List.length_map]
end Go.Vm
namespace Go.Proofs.Ytggeadnjikpjnaa
open Go Go.Vm
set_option linter.unusedVariables false
set_option linter.unusedSimpArgs false
/-- Going on, told plainly. -/
theorem units_spec (s : St) (hr : Room s) {v : AV} {l : List (List Int)} (hv : Rows2 s v l) (hi : ∀ c ∈ l, I64 c) {n : Nat} (hn : n ≤ 1000) (hl : l.length ≤ 1000) (hc : ∀ c ∈ l, c.length ≤ 1000) :
    ∃ (r : AV) (u : List Int) (ok : Bool), CA F.sat_Units [v, .int .i64 (n : Int)] s = .ok (.tup [r, .bool ok]) s ∧ Ints s r u ∧
      ((ok = false ∧ u = [] ∧ Contra (l.map (knownL n))) ∨ (ok = true ∧ ¬ Contra (l.map (knownL n)) ∧ ∃ tr : List Int, u = sortI tr ∧ (tr.map Int.natAbs).Nodup ∧ (∀ x ∈ tr, x ≠ 0 ∧ x.natAbs ≤ n) ∧ ∀ x, x ∈ tr ↔ Der (l.map (knownL n)) x)) := by
  have fr := newX_fresh n l
  have hsub : ∀ c ∈ (newX n l).cl, c ∈ l.map (knownL n) := fun c hc => by rw [fr.cl] at hc; exact (List.mem_filter.mp hc).1
  obtain ⟨r, u, ok, h1, h2, h3⟩ := units_ok s hr hv hi hn hl hc (JD.step hsub) fr.wf fun hcl => ⟨fun c hc => by rw [fr.done, List.take_zero]; exact (fr.good hcl).2 c hc, rfl, fr.der⟩
  refine ⟨r, u, ok, h1, h2, ?_⟩
  rcases h3 with ⟨rfl, rfl, h3⟩ | ⟨rfl, h3, X', g, rfl⟩
  · refine .inl ⟨rfl, rfl, ?_⟩
    rcases h3 with h3 | ⟨i, X', hi, g⟩
    · exact fr.bad h3
    · rcases g.out with ⟨e, _⟩ | ⟨k, c, y, j, rfl, hk, hy, _⟩
      · exact absurd e hi
      · have hcm := List.mem_of_getElem? hk
        refine ⟨c, hsub c (by rw [← g.cl]; exact hcm), fun y hym => g.j.2 _ ?_⟩
        have := (g.wf.cl c hcm).2.2 y hym
        exact (g.wf.neg this.1 this.2).mp (hy y hym)
  · have hne := (fr.good h3).1
    have hcl : ∀ c, c ∈ X'.cl ↔ c ∈ l.map (knownL n) := fun c => by
      rw [g.cl, fr.cl, List.mem_filter]
      constructor
      · exact fun h => h.1
      · exact fun h => ⟨h, by simp; intro e; subst e; exact hne h⟩
    rcases g.out with ⟨_, hw, hd⟩ | ⟨k, _, _, _, e, _⟩
    rotate_left
    · exfalso; omega
    have hok : ∀ c ∈ X'.cl, okC X'.tr X'.tr c := fun c hc => by have := hw c hc; rw [hd, List.take_length] at this; exact this
    refine .inr ⟨rfl, fun hcon => closed_contra g.wf hok (hcon.mono fun c hc => ⟨c, (hcl c).mpr hc, fun _ => Iff.rfl⟩), X'.tr, rfl, g.wf.nd, fun x hx => by have := g.wf.rng x hx; rw [g.n, fr.n] at this; exact this, fun x => ⟨fun hx => g.j.2 x hx, fun hx => closed_der g.wf hok (hx.sub fun c hc => (hcl c).mpr hc)⟩⟩
theorem few_ok (s : St) {v : AV} {l : List (List Int)} (hv : Rows2 s v l) : CA F.law18_few [v] s = .ok (.bool (fewB l)) s := by
  have hm := hv.most
  refine fn_of code_law18_few (by simp) ?_
  simp only [go_sem, ↓reduceIte, Nat.reduceMod, Nat.reduceEqDiff, Nat.reduceAdd, Nat.reduceMul, Nat.reduceSub, Nat.reduceLeDiff, Nat.reduceLT, Int.reduceEq, Int.reduceLT, Int.reduceLE, Int.reduceAdd, Int.reduceSub, Int.reduceNeg, reduceCtorEq, Nat.reduceShiftRight, Nat.reduceAnd, Nat.reduceBNe, Sx_nil]
  refine W_inv (fun k f τ => ∃ i : Nat, τ = s ∧ k = l.length - i ∧ i ≤ l.length ∧ (l.take i).all (fun c => decide (c.length ≤ 8)) = true ∧ (vv 0).get f = v ∧ (vv 3).get f = .int .i64 (i : Int)) ?_ ⟨0, rfl, rfl, by omega, by simp, ?_⟩
  · rintro k f τ ⟨i, rfl, rfl, hi, ha, g0, g3⟩
    by_cases c1 : i < l.length
    · obtain ⟨a, h1, h2⟩ := hv.at c1
      have et : l.take (i + 1) = l.take i ++ [l[i]] := (List.take_append_getElem c1).symm
      by_cases c2 : (8 : Int) < (l[i].length : Int)
      · simp only [go_sem, ↓reduceIte, Nat.reduceMod, Nat.reduceEqDiff, Nat.reduceAdd, Nat.reduceMul, Nat.reduceSub, Nat.reduceLeDiff, Nat.reduceLT, Int.reduceEq, Int.reduceLT, Int.reduceLE, Int.reduceAdd, Int.reduceSub, Int.reduceNeg, reduceCtorEq, Nat.reduceShiftRight, Nat.reduceAnd, Nat.reduceBNe, g0, g3, hv.vlen, Int.ofNat_lt, c1, hv.ia c1, h2, ext_self, h1.vlen, c2]
        refine settled_bool (Ext.refl _) ?_
        unfold fewB
        rw [show l.all (fun c => decide (c.length ≤ 8)) = false by
          rw [Bool.eq_false_iff]; intro h
          have := List.all_eq_true.mp h l[i] (List.getElem_mem c1)
          simp at this; omega]
        rfl
      · simp only [go_sem, ↓reduceIte, Nat.reduceMod, Nat.reduceEqDiff, Nat.reduceAdd, Nat.reduceMul, Nat.reduceSub, Nat.reduceLeDiff, Nat.reduceLT, Int.reduceEq, Int.reduceLT, Int.reduceLE, Int.reduceAdd, Int.reduceSub, Int.reduceNeg, reduceCtorEq, Nat.reduceShiftRight, Nat.reduceAnd, Nat.reduceBNe, g0, g3, hv.vlen, Int.ofNat_lt, c1, hv.ia c1, h2, ext_self, h1.vlen, c2]
        refine ⟨l.length - (i + 1), by omega, i + 1, rfl, by omega, ?_, ?_⟩
        · rw [et, List.all_append, ha]; simp; omega
        · rw [wrap_i64 (by omega) (by omega)]; simp
    · have e : i = l.length := by omega
      subst e
      rw [List.take_length] at ha
      simp only [go_sem, ↓reduceIte, Nat.reduceMod, Nat.reduceEqDiff, Nat.reduceAdd, Nat.reduceMul, Nat.reduceSub, Nat.reduceLeDiff, Nat.reduceLT, Int.reduceEq, Int.reduceLT, Int.reduceLE, Int.reduceAdd, Int.reduceSub, Int.reduceNeg, reduceCtorEq, Nat.reduceShiftRight, Nat.reduceAnd, Nat.reduceBNe, g0, g3, hv.vlen, Int.ofNat_lt, c1]
      refine settled_bool (Ext.refl _) ?_
      unfold fewB
      rw [ha, Bool.true_and, decide_eq_decide]; omega
  · simp only [go_sem, ↓reduceIte, Nat.reduceMod, Nat.reduceEqDiff, Nat.reduceAdd, Nat.reduceMul, Nat.reduceSub, Nat.reduceLeDiff, Nat.reduceLT, Int.reduceEq, Int.reduceLT, Int.reduceLE, Int.reduceAdd, Int.reduceSub, Int.reduceNeg, reduceCtorEq, Nat.reduceShiftRight, Nat.reduceAnd, Nat.reduceBNe]
    simp
theorem count_ok (s : St) (hr : Room s) {v : AV} {l : List (List Int)} (hv : Rows2 s v l) (hi64 : ∀ c ∈ l, I64 c) {n : Nat} (hn : n ≤ 1000) (hl : l.length ≤ 1000) (hc : ∀ c ∈ l, c.length ≤ 1000) : CA F.law18_count [v, .int .i64 (n : Int)] s = .ok (tsR (countL n l)) s := by
  have hm := hv.most
  have ewn : IntKind.wrap .i64 (-(n : Int)) = -(n : Int) := wrap_i64 (by omega) (by omega)
  refine fn_of code_law18_count (by simp) ?_
  simp only [go_sem, ↓reduceIte, Nat.reduceMod, Nat.reduceEqDiff, Nat.reduceAdd, Nat.reduceMul, Nat.reduceSub, Nat.reduceLeDiff, Nat.reduceLT, Int.reduceEq, Int.reduceLT, Int.reduceLE, Int.reduceAdd, Int.reduceSub, Int.reduceNeg, reduceCtorEq, Nat.reduceShiftRight, Nat.reduceAnd, Nat.reduceBNe, Sx_nil]
  refine W_inv (fun k f τ => ∃ (i : Nat) (a : AV) (avs : List AV), k = l.length - i ∧ i ≤ l.length ∧ Room τ ∧ Ext s τ ∧ ExS τ a avs ∧ (∀ j ∈ ids a, s.n.val ≤ j.val) ∧ RowsO s τ (ids a) avs (countL n (l.take i)) ∧ (vv 0).get f = v ∧ (vv 1).get f = .int .i64 (n : Int) ∧ (vv 5).get f = a ∧ (vv 6).get f = .int .i64 (i : Int)) ?_ ⟨0, .nils, [], rfl, by omega, hr, Ext.refl s, .nils, by simp [ids, AV.onSl], trivial, ?_⟩
  · rintro k f τ ⟨i, a, avs, rfl, hi, hr1, hx1, own, hge, rows, g0, g1, g5, g6⟩
    have hv1 := hv.x hx1
    by_cases c1 : i < l.length
    rotate_left
    · have e : i = l.length := by omega
      subst e
      rw [List.take_length] at rows
      simp only [go_sem, ↓reduceIte, Nat.reduceMod, Nat.reduceEqDiff, Nat.reduceAdd, Nat.reduceMul, Nat.reduceSub, Nat.reduceLeDiff, Nat.reduceLT, Int.reduceEq, Int.reduceLT, Int.reduceLE, Int.reduceAdd, Int.reduceSub, Int.reduceNeg, reduceCtorEq, Nat.reduceShiftRight, Nat.reduceAnd, Nat.reduceBNe, g0, g1, g5, g6, hv.vlen, Int.ofNat_lt, c1]
      have hlen := rows.len
      unfold tsR
      cases own with
      | nils =>
        have : countL n l = [] := List.eq_nil_of_length_eq_zero (by rw [← hlen]; rfl)
        rw [if_pos this]
        exact settled_fz hx1 .nils
      | sl q xs h h0 hm =>
        have : countL n l ≠ [] := fun e => h0 (List.eq_nil_of_length_eq_zero (by rw [hlen, e]; rfl))
        rw [if_neg this, ← hlen]
        exact settled_fz hx1 (.slN q 0 _ _ 1 avs _ (hge q (List.mem_singleton.mpr rfl)) h (by rw [List.length_map, List.drop_zero, hlen]) (by rw [List.drop_zero]; exact rows.fz))
    · obtain ⟨cv, h1, h2⟩ := hv1.at c1
      have hcm := List.getElem_mem c1
      have hi2 := hi64 _ hcm
      have hcl := hc _ hcm
      have et : l.take (i + 1) = l.take i ++ [l[i]] := (List.take_append_getElem c1).symm
      simp only [go_sem, ↓reduceIte, Nat.reduceMod, Nat.reduceEqDiff, Nat.reduceAdd, Nat.reduceMul, Nat.reduceSub, Nat.reduceLeDiff, Nat.reduceLT, Int.reduceEq, Int.reduceLT, Int.reduceLE, Int.reduceAdd, Int.reduceSub, Int.reduceNeg, reduceCtorEq, Nat.reduceShiftRight, Nat.reduceAnd, Nat.reduceBNe, g0, g1, g5, g6, hv.vlen, Int.ofNat_lt, c1]
      refine W_inv (fun k f τ' => ∃ (j : Nat) (e : AV), k = l[i].length - j ∧ j ≤ l[i].length ∧ Room τ' ∧ Ext τ τ' ∧ ExS τ' e (((l[i].take j).filter (okV n)).map (.int .i64)) ∧ (∀ q ∈ ids e, τ.n.val ≤ q.val) ∧ (vv 0).get f = v ∧ (vv 1).get f = .int .i64 (n : Int) ∧ (vv 5).get f = a ∧ (vv 6).get f = .int .i64 (i : Int) ∧ (vv 7).get f = e ∧ (vv 8).get f = .int .i64 (j : Int)) ?_ ⟨0, .nils, rfl, by omega, hr1, Ext.refl τ, .nils, by simp [ids, AV.onSl], ?_⟩
      · rintro k f τ' ⟨j, e, rfl, hj, hr2, hx2, own2, hge2, g0, g1, g5, g6, g7, g8⟩
        have h2' := h2 τ' hx2
        have h1' := h1.x hx2
        have hcnt := countL_len n (l.take i)
        rw [List.length_take] at hcnt
        have hfl : ((l[i].take j).filter (okV n)).length ≤ j := Nat.le_trans (List.length_filter_le _ _) (by rw [List.length_take]; omega)
        by_cases d1 : j < l[i].length
        rotate_left
        · have ej : j = l[i].length := by omega
          subst ej
          rw [List.take_length] at own2
          have hrp := hr2.push (.cells [e])
          have hn2 := hx2.n
          have ownp : ExS (τ'.push (.cells [e])) a avs := own.frame fun q hq => by
            have := own.lt hr1 q hq
            rw [push_old (by omega), hx2.old q this]
          have hlen := rows.len
          obtain ⟨a', τ3, i0, q1, q2, q3, q4, q5, q6, q7⟩ := ownp.app hrp (y := τ'.n) (x := e) (push_self _ _) 24 (by unfold limit; omega) (by unfold limit; omega)
          rw [push_n] at q4
          simp only [go_sem, ↓reduceIte, Nat.reduceMod, Nat.reduceEqDiff, Nat.reduceAdd, Nat.reduceMul, Nat.reduceSub, Nat.reduceLeDiff, Nat.reduceLT, Int.reduceEq, Int.reduceLT, Int.reduceLE, Int.reduceAdd, Int.reduceSub, Int.reduceNeg, reduceCtorEq, Nat.reduceShiftRight, Nat.reduceAnd, Nat.reduceBNe, g0, g1, g5, g6, g7, g8, Int.ofNat_lt, d1, hv.ia c1, h2', h1.vlen, vblit_push, own2.ow.one, q1]
          refine ⟨l.length - (i + 1), by omega, i + 1, a', avs ++ [e], rfl, by omega, q3, ?_, q2, ?_, ?_, ?_⟩
          · have hsn := hx1.n
            refine ⟨by omega, fun d hd => ?_⟩
            rw [q7 d (fun hm => by have := hge d hm; omega) (by rw [push_n]; omega), push_old (by omega), hx2.old d (by omega), hx1.old d hd]
          · intro q hq; rw [q5, List.mem_singleton] at hq; rw [hq, q6, push_n]; have := hx1.n; omega
          · have e2 : countL n (l.take (i + 1)) = countL n (l.take i) ++ [l[i].filter (okV n)] := by rw [et]; unfold countL; rw [List.map_append]; rfl
            rw [e2]
            have hnot : ∀ q, q.val < τ'.n.val → q ∉ ids a' := fun q hq hm => by
              rw [q5, List.mem_singleton, q6] at hm
              rw [hm, push_n] at hq; omega
            refine RowsO.snoc (own2.frame fun q hq => ?_) (fun q hq => ⟨by have := hge2 q hq; have := hx1.n; omega, hnot q (own2.lt hr2 q hq)⟩) (rows.frame (fun q hq hqn => ?_) (fun q hq hm => absurd hm (hnot q (by omega))) hr1)
            · have hlt := own2.lt hr2 q hq
              rw [q7 q (fun hm => by have := own.lt hr1 q hm; have := hge2 q hq; omega) (by rw [push_n]; omega), push_old hlt]
            · rw [q7 q hq (by rw [push_n]; omega), push_old (by omega), hx2.old q hqn]
          · rw [wrap_i64 (by omega) (by omega)]; simp
        · have hxj := hi2 _ (List.getElem_mem d1)
          have etj : l[i].take (j + 1) = l[i].take j ++ [l[i][j]] := (List.take_append_getElem d1).symm
          have stay : okV n l[i][j] = false → (l[i].take (j + 1)).filter (okV n) = (l[i].take j).filter (okV n) := fun h => by rw [etj, List.filter_append]; simp [h]
          by_cases e1 : l[i][j] = 0
          · have e2 := stay (by unfold okV; simp [e1])
            simp only [go_sem, ↓reduceIte, Nat.reduceMod, Nat.reduceEqDiff, Nat.reduceAdd, Nat.reduceMul, Nat.reduceSub, Nat.reduceLeDiff, Nat.reduceLT, Int.reduceEq, Int.reduceLT, Int.reduceLE, Int.reduceAdd, Int.reduceSub, Int.reduceNeg, reduceCtorEq, Nat.reduceShiftRight, Nat.reduceAnd, Nat.reduceBNe, g0, g1, g5, g6, g7, g8, Int.ofNat_lt, d1, hv.ia c1, h2', h1.vlen, h1.ia d1, h1'.i64 d1, ext_self, e1, ne_eq, not_true_eq_false, ewn]
            refine ⟨l[i].length - (j + 1), by omega, j + 1, e, rfl, by omega, hr2, hx2, by rw [e2]; exact own2, hge2, ?_⟩
            rw [wrap_i64 (by omega) (by omega)]; simp
          · by_cases e3 : -(n : Int) ≤ l[i][j]
            rotate_left
            · have e2 := stay (by unfold okV; simp [e3])
              simp only [go_sem, ↓reduceIte, Nat.reduceMod, Nat.reduceEqDiff, Nat.reduceAdd, Nat.reduceMul, Nat.reduceSub, Nat.reduceLeDiff, Nat.reduceLT, Int.reduceEq, Int.reduceLT, Int.reduceLE, Int.reduceAdd, Int.reduceSub, Int.reduceNeg, reduceCtorEq, Nat.reduceShiftRight, Nat.reduceAnd, Nat.reduceBNe, g0, g1, g5, g6, g7, g8, Int.ofNat_lt, d1, hv.ia c1, h2', h1.vlen, h1.ia d1, h1'.i64 d1, ext_self, e1, ne_eq, not_false_eq_true, ewn, e3]
              refine ⟨l[i].length - (j + 1), by omega, j + 1, e, rfl, by omega, hr2, hx2, by rw [e2]; exact own2, hge2, ?_⟩
              rw [wrap_i64 (by omega) (by omega)]; simp
            · by_cases e4 : l[i][j] ≤ (n : Int)
              rotate_left
              · have e2 := stay (by unfold okV; simp [e4])
                simp only [go_sem, ↓reduceIte, Nat.reduceMod, Nat.reduceEqDiff, Nat.reduceAdd, Nat.reduceMul, Nat.reduceSub, Nat.reduceLeDiff, Nat.reduceLT, Int.reduceEq, Int.reduceLT, Int.reduceLE, Int.reduceAdd, Int.reduceSub, Int.reduceNeg, reduceCtorEq, Nat.reduceShiftRight, Nat.reduceAnd, Nat.reduceBNe, g0, g1, g5, g6, g7, g8, Int.ofNat_lt, d1, hv.ia c1, h2', h1.vlen, h1.ia d1, h1'.i64 d1, ext_self, e1, ne_eq, not_false_eq_true, ewn, e3, e4]
                refine ⟨l[i].length - (j + 1), by omega, j + 1, e, rfl, by omega, hr2, hx2, by rw [e2]; exact own2, hge2, ?_⟩
                rw [wrap_i64 (by omega) (by omega)]; simp
              · have e2 : (l[i].take (j + 1)).filter (okV n) = (l[i].take j).filter (okV n) ++ [l[i][j]] := by rw [etj, List.filter_append]; simp [okV, e1, e3, e4]
                have hrp := hr2.push (.cells [.int .i64 l[i][j]])
                have ownp : ExS (τ'.push (.cells [.int .i64 l[i][j]])) e (((l[i].take j).filter (okV n)).map (.int .i64)) := own2.frame fun q hq => push_old (own2.lt hr2 q hq)
                obtain ⟨a', τ3, i0, q1, q2, q3, q4, q5, q6, q7⟩ := ownp.app hrp (y := τ'.n) (x := .int .i64 l[i][j]) (push_self _ _) 8 (by rw [List.length_map]; unfold limit; omega) (by rw [List.length_map]; unfold limit; omega)
                rw [push_n] at q4
                simp only [go_sem, ↓reduceIte, Nat.reduceMod, Nat.reduceEqDiff, Nat.reduceAdd, Nat.reduceMul, Nat.reduceSub, Nat.reduceLeDiff, Nat.reduceLT, Int.reduceEq, Int.reduceLT, Int.reduceLE, Int.reduceAdd, Int.reduceSub, Int.reduceNeg, reduceCtorEq, Nat.reduceShiftRight, Nat.reduceAnd, Nat.reduceBNe, g0, g1, g5, g6, g7, g8, Int.ofNat_lt, d1, hv.ia c1, h2', h1.vlen, h1.ia d1, h1'.i64 d1, ext_self, e1, ne_eq, not_false_eq_true, ewn, e3, e4, vblit_push, q1]
                have hn2 := hx2.n
                refine ⟨l[i].length - (j + 1), by omega, j + 1, a', rfl, by omega, q3, ⟨by omega, fun d hd => ?_⟩, by rw [e2]; simpa using q2, ?_, ?_⟩
                · rw [q7 d (fun hm => by have := hge2 d hm; omega) (by rw [push_n]; omega), push_old (by omega)]
                  exact hx2.old d hd
                · intro q hq; rw [q5, List.mem_singleton] at hq; rw [hq, q6, push_n]; omega
                · rw [wrap_i64 (by omega) (by omega)]; simp
      · simp only [go_sem, ↓reduceIte, Nat.reduceMod, Nat.reduceEqDiff, Nat.reduceAdd, Nat.reduceMul, Nat.reduceSub, Nat.reduceLeDiff, Nat.reduceLT, Int.reduceEq, Int.reduceLT, Int.reduceLE, Int.reduceAdd, Int.reduceSub, Int.reduceNeg, reduceCtorEq, Nat.reduceShiftRight, Nat.reduceAnd, Nat.reduceBNe, g0, g1, g5, g6]
        simp
  · simp only [go_sem, ↓reduceIte, Nat.reduceMod, Nat.reduceEqDiff, Nat.reduceAdd, Nat.reduceMul, Nat.reduceSub, Nat.reduceLeDiff, Nat.reduceLT, Int.reduceEq, Int.reduceLT, Int.reduceLE, Int.reduceAdd, Int.reduceSub, Int.reduceNeg, reduceCtorEq, Nat.reduceShiftRight, Nat.reduceAnd, Nat.reduceBNe]
    simp
end Go.Proofs.Ytggeadnjikpjnaa
