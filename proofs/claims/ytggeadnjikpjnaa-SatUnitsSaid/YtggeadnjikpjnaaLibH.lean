/- Functions of the program: more. No condition. -/
import Derived.Test.YtggeadnjikpjnaaLibE
namespace Go.Vm
set_option linter.unusedVariables false
/-- One literal of a clause, by the document: how many are left, which, whether one holds. -/
def ref1 (S : List Int) (p : Int × Int × Bool) (v : Int) : Int × Int × Bool :=
  if S.getD v.natAbs 0 = 0 ∧ v ≠ p.2.1 then (p.1 + 1, v, p.2.2) else (p.1, p.2.1, p.2.2 || (decide (S.getD v.natAbs 0 ≠ 0) && decide (decide (0 < S.getD v.natAbs 0) = decide (0 < v))))
def refC (S : List Int) (c : List Int) : Int × Int × Bool := c.foldl (ref1 S) (0, 0, false)
def stepR (S : List Int) (c : List Int) : List Int := if (refC S c).2.2 = false ∧ (refC S c).1 = 1 then S.set (refC S c).2.1.natAbs (if (refC S c).2.1 < 0 then -1 else 1) else S
def roundR (S : List Int) (C : List (List Int)) : List Int := C.foldl stepR S
def iterR (C : List (List Int)) (S : List Int) : Nat → List Int
  | 0 => S
  | m + 1 => roundR (iterR C S m) C
theorem refC_snoc (S : List Int) (c : List Int) (v : Int) : refC S (c ++ [v]) = ref1 S (refC S c) v := by unfold refC; rw [List.foldl_append]; rfl
theorem list_snoc {α : Type} {P : List α → Prop} (h0 : P []) (h1 : ∀ l a, P l → P (l ++ [a])) (l : List α) : P l := by
  have : ∀ l : List α, P l.reverse := by
    intro l
    induction l with
    | nil => exact h0
    | cons a l ih => rw [List.reverse_cons]; exact h1 _ _ ih
  have h := this l.reverse
  rwa [List.reverse_reverse] at h
/-- Values are 1, -1, or none yet. -/
structure Vals (k : Nat) (S : List Int) : Prop where
  len : S.length = k + 1
  vb : ∀ v ∈ S, -1 ≤ v ∧ v ≤ 1
  z : S.getD 0 0 = 0
theorem Vals.at {k : Nat} {S : List Int} (h : Vals k S) (j : Nat) : -1 ≤ S.getD j 0 ∧ S.getD j 0 ≤ 1 := by
  rw [List.getD_eq_getElem?_getD]
  cases e : S[j]? with
  | none => simp
  | some v => exact h.vb v (List.mem_of_getElem? e)
theorem Vals.lit {k : Nat} {S : List Int} (h : Vals k S) {v : Int} (h0 : v ≠ 0) : (litV S v = 0 ↔ S.getD v.natAbs 0 = 0) ∧ (litV S v = 1 ↔ S.getD v.natAbs 0 ≠ 0 ∧ decide (0 < S.getD v.natAbs 0) = decide (0 < v)) ∧ (litV S v = -1 ↔ S.getD v.natAbs 0 ≠ 0 ∧ decide (0 < S.getD v.natAbs 0) ≠ decide (0 < v)) := by
  have hb := h.at v.natAbs
  unfold litV
  generalize S.getD v.natAbs 0 = q at *
  by_cases c : v < 0
  · have c2 : ¬ 0 < v := by omega
    rw [if_pos c, decide_eq_false c2]
    refine ⟨by omega, ?_, ?_⟩
    · constructor
      · intro e; refine ⟨by omega, by rw [decide_eq_false]; omega⟩
      · rintro ⟨e1, e2⟩; have := of_decide_eq_false e2; omega
    · constructor
      · intro e; refine ⟨by omega, by rw [decide_eq_true (by omega)]; simp⟩
      · rintro ⟨e1, e2⟩
        have : 0 < q := by apply Classical.byContradiction; intro hh; rw [decide_eq_false hh] at e2; exact e2 rfl
        omega
  · have c2 : 0 < v := by omega
    rw [if_neg c, decide_eq_true c2]
    refine ⟨Iff.rfl, ?_, ?_⟩
    · constructor
      · intro e; exact ⟨by omega, by rw [decide_eq_true]; omega⟩
      · rintro ⟨e1, e2⟩; have := of_decide_eq_true e2; omega
    · constructor
      · intro e; refine ⟨by omega, by rw [decide_eq_false (by omega)]; simp⟩
      · rintro ⟨e1, e2⟩
        have : ¬ 0 < q := by intro hh; rw [decide_eq_true hh] at e2; exact e2 rfl
        omega
theorem refC_spec {k : Nat} {S : List Int} (hS : Vals k S) (c : List Int) (h0 : ∀ v ∈ c, v ≠ 0) :
    ((refC S c).2.2 = true ↔ ∃ v ∈ c, litV S v = 1) ∧
    (((refC S c).1 = 0 ∧ (refC S c).2.1 = 0 ∧ ∀ v ∈ c, litV S v ≠ 0) ∨ ((refC S c).1 = 1 ∧ (refC S c).2.1 ∈ c ∧ litV S (refC S c).2.1 = 0 ∧ ∀ v ∈ c, litV S v = 0 → v = (refC S c).2.1) ∨
      (2 ≤ (refC S c).1 ∧ (refC S c).1 ≤ c.length ∧ (refC S c).2.1 ∈ c ∧ ∃ a ∈ c, ∃ b ∈ c, a ≠ b ∧ litV S a = 0 ∧ litV S b = 0)) := by
  induction c using list_snoc with
  | h0 => exact ⟨by simp [refC], .inl ⟨rfl, rfl, by intro v hv; cases hv⟩⟩
  | h1 c v ih =>
    obtain ⟨i1, i2⟩ := ih fun x hx => h0 x (List.mem_append_left _ hx)
    have hv := h0 v (by simp)
    obtain ⟨l0, l1, l2⟩ := hS.lit hv
    rw [refC_snoc]
    generalize refC S c = p at *
    obtain ⟨p1, p2, p3⟩ := p
    simp only at i1 i2
    unfold ref1
    simp only
    by_cases c1 : S.getD v.natAbs 0 = 0 ∧ v ≠ p2
    · rw [if_pos c1]
      have hz := l0.mpr c1.1
      refine ⟨?_, ?_⟩
      · show p3 = true ↔ _
        rw [i1]
        constructor
        · rintro ⟨x, hx, e⟩; exact ⟨x, List.mem_append_left _ hx, e⟩
        · rintro ⟨x, hx, e⟩
          rcases List.mem_append.mp hx with hx | hx
          · exact ⟨x, hx, e⟩
          · rw [List.mem_singleton] at hx; rw [hx] at e; omega
      · simp only
        rcases i2 with ⟨q1, q2, q3⟩ | ⟨q1, q2, q3, q4⟩ | ⟨q1, q1', q2, a, ha, b, hb, q3, q4, q5⟩
        · right; left
          refine ⟨by omega, by simp, hz, fun x hx e => ?_⟩
          rcases List.mem_append.mp hx with hx | hx
          · exact absurd e (q3 x hx)
          · exact List.mem_singleton.mp hx
        · right; right
          have hl := List.length_pos_of_mem q2
          exact ⟨by omega, by rw [List.length_append]; simp; omega, by simp, p2, List.mem_append_left _ q2, v, by simp, fun e => c1.2 e.symm, q3, hz⟩
        · right; right
          exact ⟨by omega, by rw [List.length_append]; simp; omega, by simp, a, List.mem_append_left _ ha, b, List.mem_append_left _ hb, q3, q4, q5⟩
    · rw [if_neg c1]
      refine ⟨?_, ?_⟩
      · simp only [Bool.or_eq_true, Bool.and_eq_true, decide_eq_true_eq]
        rw [i1]
        constructor
        · rintro (⟨x, hx, e⟩ | e)
          · exact ⟨x, List.mem_append_left _ hx, e⟩
          · exact ⟨v, by simp, l1.mpr e⟩
        · rintro ⟨x, hx, e⟩
          rcases List.mem_append.mp hx with hx | hx
          · exact .inl ⟨x, hx, e⟩
          · rw [List.mem_singleton] at hx; rw [hx] at e; exact .inr (l1.mp e)
      · simp only
        have hzv : litV S v = 0 → v = p2 := fun e => by
          apply Classical.byContradiction; intro hne; exact c1 ⟨l0.mp e, hne⟩
        rcases i2 with ⟨q1, q2, q3⟩ | ⟨q1, q2, q3, q4⟩ | ⟨q1, q1', q2, a, ha, b, hb, q3, q4, q5⟩
        · left
          refine ⟨q1, q2, fun x hx e => ?_⟩
          rcases List.mem_append.mp hx with hx | hx
          · exact q3 x hx e
          · rw [List.mem_singleton] at hx; rw [hx] at e; exact hv ((hzv e).trans q2)
        · right; left
          refine ⟨q1, List.mem_append_left _ q2, q3, fun x hx e => ?_⟩
          rcases List.mem_append.mp hx with hx | hx
          · exact q4 x hx e
          · rw [List.mem_singleton] at hx; rw [hx] at e ⊢; exact hzv e
        · right; right
          exact ⟨q1, by rw [List.length_append]; simp; omega, List.mem_append_left _ q2, a, List.mem_append_left _ ha, b, List.mem_append_left _ hb, q3, q4, q5⟩
theorem count_set {S : List Int} {j : Nat} {x : Int} (h : S[j]? = some 0) (hx : x ≠ 0) : (S.set j x).count 0 + 1 = S.count 0 := by
  induction S generalizing j with
  | nil => simp at h
  | cons a S ih =>
    cases j with
    | zero => simp at h; subst h; simp [List.count_cons, hx]
    | succ j =>
      rw [List.set_cons_succ, List.count_cons, List.count_cons, ← ih (by simpa using h)]; omega
/-- What the document's values come from. -/
structure Drv (C : List (List Int)) (k : Nat) (S : List Int) : Prop where
  vals : Vals k S
  der : ∀ x : Int, x ≠ 0 → x.natAbs ≤ k → litV S x = 1 → Der C x
theorem getD_set (S : List Int) (j m : Nat) (x : Int) (hj : j < S.length) : (S.set j x).getD m 0 = if m = j then x else S.getD m 0 := by
  rw [List.getD_eq_getElem?_getD, List.getElem?_set, List.getD_eq_getElem?_getD]
  by_cases e : j = m
  · subst e; rw [if_pos rfl, if_pos hj, if_pos rfl]; rfl
  · rw [if_neg e, if_neg fun h => e h.symm]
theorem stepR_spec {C : List (List Int)} {k : Nat} {S : List Int} (hS : Drv C k S) {c : List Int} (hc : c ∈ C) (hr : ∀ v ∈ c, v ≠ 0 ∧ v.natAbs ≤ k) :
    Drv C k (stepR S c) ∧ (stepR S c = S ∨ (stepR S c).count 0 + 1 = S.count 0) := by
  obtain ⟨h1, h2⟩ := refC_spec hS.vals c fun v hv => (hr v hv).1
  unfold stepR
  by_cases c1 : (refC S c).2.2 = false ∧ (refC S c).1 = 1
  rotate_left
  · rw [if_neg c1]; exact ⟨hS, .inl rfl⟩
  rw [if_pos c1]
  obtain ⟨hu, hz, hall⟩ : (refC S c).2.1 ∈ c ∧ litV S (refC S c).2.1 = 0 ∧ ∀ v ∈ c, litV S v = 0 → v = (refC S c).2.1 := by
    rcases h2 with ⟨q, _⟩ | ⟨_, q⟩ | ⟨q, _⟩
    · omega
    · exact q
    · omega
  have hno : ¬ ∃ v ∈ c, litV S v = 1 := fun h => by have := h1.mpr h; rw [c1.1] at this; cases this
  generalize (refC S c).2.1 = u at *
  have hur := hr u hu
  have hlen := hS.vals.len
  have hj : u.natAbs < S.length := by omega
  have hz0 := (hS.vals.lit hur.1).1.mp hz
  have hz1 : S[u.natAbs]? = some 0 := by
    rw [List.getD_eq_getElem?_getD, List.getElem?_eq_getElem hj] at hz0
    rw [List.getElem?_eq_getElem hj]; exact congrArg some hz0
  have hvals : Vals k (S.set u.natAbs (if u < 0 then -1 else 1)) := by
    refine ⟨by rw [List.length_set]; exact hlen, fun v hv => ?_, ?_⟩
    · rcases List.mem_or_eq_of_mem_set hv with hv | hv
      · exact hS.vals.vb v hv
      · rw [hv]; split <;> omega
    · rw [getD_set _ _ _ _ hj, if_neg (by omega)]; exact hS.vals.z
  refine ⟨⟨hvals, fun x h0 hn e => ?_⟩, .inr (count_set hz1 (by split <;> omega))⟩
  by_cases ex : x.natAbs = u.natAbs
  · have : x = u := by
      rcases Int.natAbs_eq_natAbs_iff.mp ex with e2 | e2
      · exact e2
      · exfalso
        subst e2
        unfold litV at e
        rw [getD_set _ _ _ _ hj, if_pos ex] at e
        split at e <;> split at e <;> omega
    subst this
    refine .step c x hc hu fun y hy hne => ?_
    have hyr := hr y hy
    refine hS.der (-y) (by omega) (by omega) ?_
    rw [litV_neg _ hyr.1]
    have h3 : litV S y ≠ 0 := fun e => hne (hall y hy e)
    have h4 : litV S y ≠ 1 := fun e => hno ⟨y, hy, e⟩
    have h5 := hS.vals.at y.natAbs
    have h6 : -1 ≤ litV S y ∧ litV S y ≤ 1 := by unfold litV; split <;> omega
    omega
  · refine hS.der x h0 hn ?_
    unfold litV at e ⊢
    rw [getD_set _ _ _ _ hj, if_neg ex] at e
    exact e
theorem roundR_spec {C : List (List Int)} {k : Nat} (hr : ∀ c ∈ C, ∀ v ∈ c, v ≠ 0 ∧ v.natAbs ≤ k) : ∀ (D : List (List Int)), (∀ c ∈ D, c ∈ C) → ∀ (S : List Int), Drv C k S → Drv C k (roundR S D) ∧ ((roundR S D = S ∧ ∀ c ∈ D, stepR S c = S) ∨ (roundR S D).count 0 + 1 ≤ S.count 0) := by
  intro D
  induction D with
  | nil => intro _ S hS; exact ⟨hS, .inl ⟨rfl, by intro c hc; cases hc⟩⟩
  | cons c D ih =>
    intro hD S hS
    have hc := hD c List.mem_cons_self
    obtain ⟨s1, s2⟩ := stepR_spec hS hc (hr c hc)
    obtain ⟨i1, i2⟩ := ih (fun d hd => hD d (List.mem_cons_of_mem _ hd)) (stepR S c) s1
    show Drv C k (roundR (stepR S c) D) ∧ ((roundR (stepR S c) D = S ∧ _) ∨ (roundR (stepR S c) D).count 0 + 1 ≤ S.count 0)
    refine ⟨i1, ?_⟩
    rcases s2 with s2 | s2
    · rw [s2] at i1 i2 ⊢
      rcases i2 with ⟨j1, j2⟩ | j
      · left
        refine ⟨j1, fun d hd => ?_⟩
        rcases List.mem_cons.mp hd with rfl | hd
        · exact s2
        · exact j2 d hd
      · exact .inr j
    · right
      rcases i2 with ⟨j1, j2⟩ | j
      · rw [j1]; omega
      · omega
def S0 (k : Nat) : List Int := List.replicate (k + 1) 0
def refS (C : List (List Int)) (k : Nat) : List Int := iterR C (S0 k) (k + 1)
theorem S0_drv (C : List (List Int)) (k : Nat) : Drv C k (S0 k) := by
  have hz : ∀ j, (S0 k).getD j 0 = 0 := fun j => by
    rw [List.getD_eq_getElem?_getD]
    show ((List.replicate (k + 1) (0 : Int))[j]?).getD 0 = 0
    rw [List.getElem?_replicate]
    split <;> rfl
  refine ⟨⟨by simp [S0], fun v hv => ?_, hz 0⟩, fun x _ _ e => ?_⟩
  · have := List.eq_of_mem_replicate (show v ∈ List.replicate (k + 1) (0 : Int) from hv); omega
  · unfold litV at e; rw [hz] at e; split at e <;> omega
section
variable {C : List (List Int)} {k : Nat} (hr : ∀ c ∈ C, ∀ v ∈ c, v ≠ 0 ∧ v.natAbs ≤ k)
include hr
theorem iterR_drv (m : Nat) : Drv C k (iterR C (S0 k) m) := by
  induction m with
  | zero => exact S0_drv C k
  | succ m ih => exact (roundR_spec hr C (fun _ h => h) _ ih).1
theorem iterR_fix (m : Nat) : (∀ c ∈ C, stepR (iterR C (S0 k) m) c = iterR C (S0 k) m) ∨ (iterR C (S0 k) m).count 0 + m ≤ k + 1 := by
  induction m with
  | zero => right; show (List.replicate (k + 1) (0 : Int)).count 0 + 0 ≤ k + 1; rw [List.count_replicate_self]; omega
  | succ m ih =>
    have h := (roundR_spec hr C (fun _ h => h) _ (iterR_drv hr m)).2
    show (∀ c ∈ C, stepR (roundR (iterR C (S0 k) m) C) c = roundR (iterR C (S0 k) m) C) ∨ (roundR (iterR C (S0 k) m) C).count 0 + (m + 1) ≤ k + 1
    rcases h with ⟨h1, h2⟩ | h
    · left; rw [h1]; exact h2
    · rcases ih with ih | ih
      · left
        have : roundR (iterR C (S0 k) m) C = iterR C (S0 k) m := by
          have key : ∀ (D : List (List Int)), (∀ c ∈ D, stepR (iterR C (S0 k) m) c = iterR C (S0 k) m) → roundR (iterR C (S0 k) m) D = iterR C (S0 k) m := by
            intro D
            induction D with
            | nil => intro _; rfl
            | cons c D ih2 => intro hD; show roundR (stepR _ c) D = _; rw [hD c List.mem_cons_self]; exact ih2 fun d hd => hD d (List.mem_cons_of_mem _ hd)
          exact key C ih
        rw [this]; exact ih
      · right; omega
theorem refS_fix : ∀ c ∈ C, stepR (refS C k) c = refS C k := by
  rcases iterR_fix hr (k + 1) with h | h
  · exact h
  · exfalso
    have hd := (iterR_drv hr (k + 1)).vals
    have h0 : (iterR C (S0 k) (k + 1)).count 0 = 0 := by omega
    have h1 : (0 : Int) ∉ iterR C (S0 k) (k + 1) := List.count_eq_zero.mp h0
    have hl : 0 < (iterR C (S0 k) (k + 1)).length := by rw [hd.len]; omega
    have hz := hd.z
    rw [List.getD_eq_getElem?_getD, List.getElem?_eq_getElem hl] at hz
    apply h1
    have : (iterR C (S0 k) (k + 1))[0] = 0 := hz
    rw [← this]; exact List.getElem_mem hl
def lostS (S : List Int) (c : List Int) : Prop := ∀ v ∈ c, litV S v = -1
omit hr in
theorem lost_contra (hr : ∀ c ∈ C, ∀ v ∈ c, v ≠ 0 ∧ v.natAbs ≤ k) {c : List Int} (hc : c ∈ C) (hl : lostS (refS C k) c) : Contra C := by
  refine ⟨c, hc, fun y hy => ?_⟩
  have := hr c hc y hy
  refine (iterR_drv hr (k + 1)).der (-y) (by omega) (by omega) ?_
  rw [litV_neg _ this.1]
  have := hl y hy
  unfold refS at this
  omega
theorem kept_der (hl : ∀ c ∈ C, ¬ lostS (refS C k) c) {x : Int} (d : Der C x) : litV (refS C k) x = 1 := by
  have hd := iterR_drv hr (k + 1)
  have hfix := refS_fix hr
  change Drv C k (refS C k) at hd
  induction d with
  | step c x hc hx hy ih =>
    have hcr := hr c hc
    have hoth : ∀ y ∈ c, y ≠ x → litV (refS C k) y = -1 := fun y hym hne => by
      have := ih y hym hne
      rw [litV_neg _ (hcr y hym).1] at this; omega
    obtain ⟨s1, s2⟩ := refC_spec hd.vals c fun v hv => (hcr v hv).1
    have hb : -1 ≤ litV (refS C k) x ∧ litV (refS C k) x ≤ 1 := by have := hd.vals.at x.natAbs; unfold litV; split <;> omega
    have hne1 : litV (refS C k) x ≠ -1 := fun e => hl c hc fun y hym => by
      by_cases e2 : y = x
      · rw [e2]; exact e
      · exact hoth y hym e2
    by_cases h0 : litV (refS C k) x = 0
    · exfalso
      have hf := hfix c hc
      have hdn : (refC (refS C k) c).2.2 = false := by
        rw [Bool.eq_false_iff]; intro h
        obtain ⟨v, hv, e⟩ := s1.mp h
        by_cases e2 : v = x
        · rw [e2] at e; omega
        · have := hoth v hv e2; omega
      obtain ⟨hle, hwh⟩ : (refC (refS C k) c).1 = 1 ∧ (refC (refS C k) c).2.1 = x := by
        rcases s2 with ⟨_, _, q⟩ | ⟨q1, _, _, q4⟩ | ⟨_, _, _, a, ha, b, hb, q3, q4, q5⟩
        · exact absurd h0 (q x hx)
        · exact ⟨q1, (q4 x hx h0).symm⟩
        · exfalso
          have ea : a = x := by apply Classical.byContradiction; intro e; have := hoth a ha e; omega
          have eb : b = x := by apply Classical.byContradiction; intro e; have := hoth b hb e; omega
          exact q3 (ea.trans eb.symm)
      unfold stepR at hf
      rw [if_pos ⟨hdn, hle⟩, hwh] at hf
      have hj : x.natAbs < (refS C k).length := by rw [hd.vals.len]; have := (hcr x hx).2; omega
      have hg := getD_set (refS C k) x.natAbs x.natAbs (if x < 0 then -1 else 1) hj
      rw [hf, if_pos rfl] at hg
      have := ((hd.vals.lit (hcr x hx).1).1.mp h0)
      rw [hg] at this
      split at this <;> omega
    · omega
theorem kept_no (hl : ∀ c ∈ C, ¬ lostS (refS C k) c) : ¬ Contra C := by
  rintro ⟨c, hc, hy⟩
  apply hl c hc
  intro y hym
  have := kept_der hr hl (hy y hym)
  rw [litV_neg _ (hr c hc y hym).1] at this; omega
end
theorem countL_range (k : Nat) (l : List (List Int)) : ∀ c ∈ countL k l, ∀ v ∈ c, v ≠ 0 ∧ v.natAbs ≤ k := by
  intro c hc v hv
  obtain ⟨d, _, rfl⟩ := List.mem_map.mp hc
  have := (List.mem_filter.mp hv).2
  unfold okV at this
  rw [decide_eq_true_eq] at this
  omega
theorem count_known (k : Nat) (l : List (List Int)) : (∀ c ∈ countL k l, ∃ c' ∈ l.map (knownL k), ∀ x, x ∈ c ↔ x ∈ c') ∧ (∀ c ∈ l.map (knownL k), ∃ c' ∈ countL k l, ∀ x, x ∈ c ↔ x ∈ c') := by
  have key : ∀ (d : List Int) (x : Int), x ∈ d.filter (okV k) ↔ x ∈ knownL k d := fun d x => by
    rw [List.mem_filter, knownL_mem]
    unfold okV
    rw [decide_eq_true_eq]
    constructor
    · rintro ⟨h1, h2, h3, h4⟩; exact ⟨h1, h2, by omega⟩
    · rintro ⟨h1, h2, h3⟩; exact ⟨h1, h2, by omega, by omega⟩
  refine ⟨fun c hc => ?_, fun c hc => ?_⟩
  · obtain ⟨d, hd, rfl⟩ := List.mem_map.mp hc
    exact ⟨_, List.mem_map_of_mem hd, key d⟩
  · obtain ⟨d, hd, rfl⟩ := List.mem_map.mp hc
    exact ⟨_, List.mem_map_of_mem hd, fun x => (key d x).symm⟩
/-! ### In order -/
/-- The values as literals, in order. -/
def refL (S : List Int) : Nat → List Int
  | 0 => []
  | k + 1 => if S.getD (k + 1) 0 = 0 then refL S k else refL S k ++ [((k + 1 : Nat) : Int) * S.getD (k + 1) 0]
theorem refL_mem {k : Nat} {S : List Int} (hS : Vals k S) (m : Nat) (x : Int) : x ∈ refL S m ↔ x ≠ 0 ∧ x.natAbs ≤ m ∧ litV S x = 1 := by
  induction m with
  | zero => simp [refL]; intro h h2; omega
  | succ m ih =>
    have hb := hS.at (m + 1)
    have hx1 : x.natAbs = m + 1 → (litV S x = 1 ↔ x = ((m + 1 : Nat) : Int) * S.getD (m + 1) 0 ∧ S.getD (m + 1) 0 ≠ 0) := fun e => by
      unfold litV
      rw [e]
      obtain h | h | h : S.getD (m + 1) 0 = -1 ∨ S.getD (m + 1) 0 = 0 ∨ S.getD (m + 1) 0 = 1 := by omega
      · rw [h]; split <;> omega
      · rw [h]; split <;> omega
      · rw [h]; split <;> omega
    unfold refL
    split
    · rename_i h0
      rw [ih]
      constructor
      · rintro ⟨h1, h2, h3⟩; exact ⟨h1, by omega, h3⟩
      · rintro ⟨h1, h2, h3⟩
        refine ⟨h1, ?_, h3⟩
        by_cases e : x.natAbs = m + 1
        · exact absurd h0 ((hx1 e).mp h3).2
        · omega
    · rename_i h0
      rw [List.mem_append, List.mem_singleton, ih]
      constructor
      · rintro (⟨h1, h2, h3⟩ | h)
        · exact ⟨h1, by omega, h3⟩
        · have e : x.natAbs = m + 1 := by
            obtain h' | h' : S.getD (m + 1) 0 = -1 ∨ S.getD (m + 1) 0 = 1 := by omega
            · rw [h'] at h; omega
            · rw [h'] at h; omega
          exact ⟨by omega, by omega, (hx1 e).mpr ⟨h, h0⟩⟩
      · rintro ⟨h1, h2, h3⟩
        by_cases e : x.natAbs = m + 1
        · exact .inr ((hx1 e).mp h3).1
        · exact .inl ⟨h1, by omega, h3⟩
theorem refL_sorted {k : Nat} {S : List Int} (hS : Vals k S) (m : Nat) : (refL S m).Pairwise fun a b => a.natAbs < b.natAbs := by
  induction m with
  | zero => exact List.Pairwise.nil
  | succ m ih =>
    unfold refL
    split
    · exact ih
    · rename_i h0
      refine List.pairwise_append.mpr ⟨ih, by simp, fun a ha b hb => ?_⟩
      rw [List.mem_singleton] at hb
      have h1 := ((refL_mem hS m a).mp ha).2.1
      have hb' := hS.at (m + 1)
      obtain h' | h' : S.getD (m + 1) 0 = -1 ∨ S.getD (m + 1) 0 = 1 := by omega
      · rw [h'] at hb; omega
      · rw [h'] at hb; omega
theorem sorted_eq : ∀ {l m : List Int}, (l.Pairwise fun a b => a.natAbs < b.natAbs) → (m.Pairwise fun a b => a.natAbs < b.natAbs) → (∀ x, x ∈ l ↔ x ∈ m) → l = m
  | [], [], _, _, _ => rfl
  | [], b :: m, _, _, h => by have := (h b).mpr List.mem_cons_self; cases this
  | a :: l, [], _, _, h => by have := (h a).mp List.mem_cons_self; cases this
  | a :: l, b :: m, hl, hm, h => by
    have hl' := List.pairwise_cons.mp hl
    have hm' := List.pairwise_cons.mp hm
    have e : a = b := by
      rcases List.mem_cons.mp ((h a).mp List.mem_cons_self) with e | e
      · exact e
      · rcases List.mem_cons.mp ((h b).mpr List.mem_cons_self) with e2 | e2
        · exact e2.symm
        · have h1 := hm'.1 a e; have h2 := hl'.1 b e2; omega
    subst e
    rw [sorted_eq hl'.2 hm'.2 fun x => ?_]
    constructor
    · intro hx
      rcases List.mem_cons.mp ((h x).mp (List.mem_cons_of_mem _ hx)) with e | e
      · subst e; have := hl'.1 x hx; omega
      · exact e
    · intro hx
      rcases List.mem_cons.mp ((h x).mpr (List.mem_cons_of_mem _ hx)) with e | e
      · subst e; have := hm'.1 x hx; omega
      · exact e
end Go.Vm
namespace Go.Proofs.Ytggeadnjikpjnaa
open Go Go.Vm
theorem sortI_sorted {l : List Int} (h : (l.map Int.natAbs).Nodup) : (sortI l).Pairwise fun a b => a.natAbs < b.natAbs := by
  have h1 : (sortI l).Pairwise fun a b => (decide (a.natAbs ≤ b.natAbs)) = true := List.pairwise_mergeSort (le := fun a b : Int => decide (a.natAbs ≤ b.natAbs)) (by intro a b c; simp; omega) (by intro a b; simp; omega) l
  have h2 : ((sortI l).map Int.natAbs).Nodup := ((sortI_perm l).map _).nodup_iff.mpr h
  unfold List.Nodup at h2
  rw [List.pairwise_map] at h2
  refine (h1.and h2).imp ?_
  intro a b h
  have := of_decide_eq_true h.1
  have h3 := h.2
  omega
end Go.Proofs.Ytggeadnjikpjnaa
namespace Go.Vm
set_option linter.unusedVariables false
theorem refL_pre (S : List Int) (m : Nat) : ∀ k, m ≤ k → refL S m <+: refL S k := by
  intro k
  induction k with
  | zero => intro h; have : m = 0 := by omega
            subst this; exact List.prefix_refl _
  | succ k ih =>
    intro h
    by_cases e : m = k + 1
    · subst e; exact List.prefix_refl _
    · refine List.IsPrefix.trans (ih (by omega)) ?_
      rw [refL]
      split
      · exact List.prefix_refl _
      · exact List.prefix_append _ _
theorem refL_len (S : List Int) (m : Nat) : (refL S m).length ≤ m := by
  induction m with
  | zero => exact Nat.le_refl _
  | succ m ih =>
    rw [refL]
    split
    · omega
    · rw [List.length_append, List.length_singleton]; omega
theorem tsR_ia {m : List (List Int)} (hm : m.length ≤ limit) (hc : ∀ c ∈ m, c.length ≤ limit) {i : Nat} (hi : i < m.length) (t : St) : viaddr 1 (tsR m) (.int .i64 (i : Int)) t = .ok (elp (tsR m) i) t := by
  have := (tsR_rows t m hm hc).ia hi 1 .i64 t
  rw [Nat.mul_one] at this; exact this
theorem tsR_ld {m : List (List Int)} {i : Nat} (hi : i < m.length) (t : St) : vload false 1 (elp (tsR m) i) t = .ok (tsN m[i]) t := by
  have hne : m ≠ [] := by intro e; subst e; simp at hi
  unfold tsR
  rw [if_neg hne]
  show wrap1 false 1 ((m.map tsN).drop i) t = _
  rw [List.drop_eq_getElem_cons (by rw [List.length_map]; exact hi), List.getElem_map, wrap1_one]
theorem tsR_len {m : List (List Int)} (hm : m.length ≤ limit) (hc : ∀ c ∈ m, c.length ≤ limit) (t : St) : vlen (tsR m) t = .ok (.int .i64 (m.length : Int)) t := (tsR_rows t m hm hc).vlen t
theorem getD_at {S : List Int} {j : Nat} (h : j < S.length) : (S.map (AV.int .i64))[j]? = some (.int .i64 (S.getD j 0)) := by
  rw [List.getElem?_map, List.getElem?_eq_getElem h, List.getD_eq_getElem?_getD, List.getElem?_eq_getElem h]; rfl
end Go.Vm
namespace Go.Proofs.Ytggeadnjikpjnaa
open Go Go.Vm
set_option linter.unusedVariables false
set_option linter.unusedSimpArgs false
theorem units_true (s : St) (hr : Room s) {v : AV} {l : List (List Int)} (hv : Rows2 s v l) (hi64 : ∀ c ∈ l, I64 c) (n : Nat) (hn8 : n ≤ 255) : CA F.law18_SatUnits [v, .int .u8 (n : Int)] s = .ok (.bool true) s := by
  have fk := law_known s
  have ff := few_ok s hv
  have ek : IntKind.wrap .i64 ((n : Int).tmod 20) = ((n % 20 : Nat) : Int) := by
    have e : ((n : Int).tmod 20) = ((n % 20 : Nat) : Int) := rfl
    rw [e, wrap_i64 (by omega) (by omega)]
  have erem : vbin .rem (.int .u8 (n : Int)) (.int .u8 20) s = .ok (.int .u8 ((n : Int).tmod 20)) s := vbin_rem s .u8 (n : Int) 20 (by decide)
  cases hf : fewB l with
  | false =>
    rw [hf] at ff
    refine fn_of code_law18_SatUnits (by simp) ?_
    simp only [go_sem, ↓reduceIte, Nat.reduceMod, Nat.reduceEqDiff, Nat.reduceAdd, Nat.reduceMul, Nat.reduceSub, Nat.reduceLeDiff, Nat.reduceLT, Int.reduceEq, Int.reduceLT, Int.reduceLE, Int.reduceAdd, Int.reduceSub, Int.reduceNeg, reduceCtorEq, Nat.reduceShiftRight, Nat.reduceAnd, Nat.reduceBNe, Sx_nil, fk, Bool.not_true, erem, ek, ff, Bool.not_false]
    exact settled_bool (Ext.refl s) rfl
  | true =>
    rw [hf] at ff
    obtain ⟨hf1, hf2⟩ : (∀ c ∈ l, c.length ≤ 8) ∧ l.length ≤ 40 := by
      unfold fewB at hf
      rw [Bool.and_eq_true, decide_eq_true_eq, List.all_eq_true] at hf
      exact ⟨fun c hc => by have := hf.1 c hc; simpa using this, hf.2⟩
    generalize hk : n % 20 = k at *
    have hk20 : k < 20 := by omega
    have fc := count_ok s hr hv hi64 (n := k) (by omega) (by omega) (fun c hc => by have := hf1 c hc; omega)
    have hCl : (countL k l).length ≤ 40 := by rw [countL_len]; exact hf2
    have hCc : ∀ c ∈ countL k l, c.length ≤ 8 := fun c hc => by
      obtain ⟨d, hd, rfl⟩ := List.mem_map.mp hc
      exact Nat.le_trans (List.length_filter_le _ _) (hf1 d hd)
    have hrg := countL_range k l
    obtain ⟨hm1, hm2⟩ := count_known k l
    generalize countL k l = C at *
    have hCl' : C.length ≤ limit := by unfold limit; omega
    have hCc' : ∀ c ∈ C, c.length ≤ limit := fun c hc => by have := hCc c hc; unfold limit; omega
    have ek1 : IntKind.wrap .i64 ((k : Int) + 1) = ((k + 1 : Nat) : Int) := by rw [wrap_i64 (by omega) (by omega)]; omega
    have fm := vmksl_eq (s := s) (L := []) hr (by simp) (bytes := 8) (j := .i64) (k := .i64) (l := k + 1) (c := k + 1) (a := .int .i64 0) (Nat.le_refl _) (by unfold limit; omega) (by unfold limit; omega)
    rw [show (List.replicate (k + 1) (AV.int .i64 0)) = (S0 k).map (.int .i64) by simp [S0]] at fm
    change vmksl 8 [.int .i64 0] (.int .i64 ((k + 1 : Nat) : Int)) (.int .i64 ((k + 1 : Nat) : Int)) s = .ok (.sl (nm s 0) 0 (k + 1) (k + 1) 0) (Sx s [.cells ((S0 k).map (.int .i64))]) at fm
    have hdrv := iterR_drv hrg
    refine fn_of code_law18_SatUnits (by simp) ?_
    simp only [go_sem, ↓reduceIte, Nat.reduceMod, Nat.reduceEqDiff, Nat.reduceAdd, Nat.reduceMul, Nat.reduceSub, Nat.reduceLeDiff, Nat.reduceLT, Int.reduceEq, Int.reduceLT, Int.reduceLE, Int.reduceAdd, Int.reduceSub, Int.reduceNeg, reduceCtorEq, Nat.reduceShiftRight, Nat.reduceAnd, Nat.reduceBNe, Sx_nil, fk, Bool.not_true, erem, ek, ff, fc, ek1, fm]
    have hia : ∀ {j : Nat} (h : j ≤ k) (t : St), viaddr 1 (.sl (nm s 0) 0 (k + 1) (k + 1) 0) (.int .i64 (j : Int)) t = .ok (.ptr (nm s 0) j) t := fun {j} h t => by
      have := viaddr_sl (k := .i64) (b := nm s 0) (o := 0) (len := k + 1) (cap := k + 1) (ex := 0) (i := j) (by omega) t
      rw [Nat.zero_add] at this; exact this
    have hob : ∀ S : List Int, (Sx s [.cells (S.map (.int .i64))]).obj (nm s 0) = .cells (S.map (.int .i64)) := fun S => Sx_obj? hr (by simp) (i := 0) rfl
    have hst : ∀ (S : List Int) (m : Nat) (x : Int), S.length = k + 1 → m ≤ k → vstore 1 (.ptr (nm s 0) m) (.int .i64 x) (Sx s [.cells (S.map (.int .i64))]) = .ok Vm.undef (Sx s [.cells ((S.set m x).map (.int .i64))]) := fun S m x hl hm => by
      rw [vstore_el (hob S) rfl (by rw [List.length_map]; omega), Sx_put hr (by simp) (by simp), List.map_set]; rfl
    refine W_inv (fun q f τ => ∃ (r : Nat), q = k + 1 - r ∧ r ≤ k + 1 ∧ τ = Sx s [.cells ((iterR C (S0 k) r).map (.int .i64))] ∧ (vv 0).get f = v ∧ (vv 5).get f = .int .i64 (k : Int) ∧ (vv 6).get f = tsR C ∧ (vv 7).get f = .sl (nm s 0) 0 (k + 1) (k + 1) 0 ∧ (vv 8).get f = .int .i64 (r : Int)) ?_ ⟨0, rfl, by omega, rfl, ?_⟩
    · rintro q f τ ⟨r, rfl, hrk, rfl, g0, g5, g6, g7, g8⟩
      by_cases c1 : (r : Int) ≤ (k : Int)
      · -- one round
        simp only [go_sem, ↓reduceIte, Nat.reduceMod, Nat.reduceEqDiff, Nat.reduceAdd, Nat.reduceMul, Nat.reduceSub, Nat.reduceLeDiff, Nat.reduceLT, Int.reduceEq, Int.reduceLT, Int.reduceLE, Int.reduceAdd, Int.reduceSub, Int.reduceNeg, reduceCtorEq, Nat.reduceShiftRight, Nat.reduceAnd, Nat.reduceBNe, g0, g5, g6, g7, g8, c1]
        refine W_inv (fun q f τ => ∃ (i : Nat), q = C.length - i ∧ i ≤ C.length ∧ τ = Sx s [.cells ((roundR (iterR C (S0 k) r) (C.take i)).map (.int .i64))] ∧ (vv 0).get f = v ∧ (vv 5).get f = .int .i64 (k : Int) ∧ (vv 6).get f = tsR C ∧ (vv 7).get f = .sl (nm s 0) 0 (k + 1) (k + 1) 0 ∧ (vv 8).get f = .int .i64 (r : Int) ∧ (vv 9).get f = .int .i64 (i : Int)) ?_ ⟨0, rfl, by omega, rfl, ?_⟩
        · rintro q f τ ⟨i, rfl, hi, rfl, g0, g5, g6, g7, g8, g9⟩
          by_cases c2 : i < C.length
          rotate_left
          · have e : i = C.length := by omega
            subst e
            simp only [go_sem, ↓reduceIte, Nat.reduceMod, Nat.reduceEqDiff, Nat.reduceAdd, Nat.reduceMul, Nat.reduceSub, Nat.reduceLeDiff, Nat.reduceLT, Int.reduceEq, Int.reduceLT, Int.reduceLE, Int.reduceAdd, Int.reduceSub, Int.reduceNeg, reduceCtorEq, Nat.reduceShiftRight, Nat.reduceAnd, Nat.reduceBNe, g0, g5, g6, g7, g8, g9, tsR_len hCl' hCc', Int.ofNat_lt, c2, List.take_length]
            refine ⟨k + 1 - (r + 1), by omega, r + 1, rfl, by omega, rfl, ?_⟩
            rw [wrap_i64 (by omega) (by omega)]; simp
          · have hcm := List.getElem_mem c2
            have hcl := hCc _ hcm
            have hcr := hrg _ hcm
            have hd : Drv C k (roundR (iterR C (S0 k) r) (C.take i)) := (roundR_spec hrg (C.take i) (fun d hd => List.mem_of_mem_take hd) _ (hdrv r)).1
            have et : C.take (i + 1) = C.take i ++ [C[i]] := (List.take_append_getElem c2).symm
            have er : roundR (iterR C (S0 k) r) (C.take (i + 1)) = stepR (roundR (iterR C (S0 k) r) (C.take i)) C[i] := by rw [et]; unfold roundR; rw [List.foldl_append]; rfl
            obtain ⟨S, hS⟩ : ∃ S, S = roundR (iterR C (S0 k) r) (C.take i) := ⟨_, rfl⟩
            rw [← hS] at hd er ⊢
            have hsl := hd.vals.len
            have hci := fun t => tsN_ints t C[i] (hCc' _ hcm)
            have spec := refC_spec hd.vals C[i] fun v hv => (hcr v hv).1
            simp only [go_sem, ↓reduceIte, Nat.reduceMod, Nat.reduceEqDiff, Nat.reduceAdd, Nat.reduceMul, Nat.reduceSub, Nat.reduceLeDiff, Nat.reduceLT, Int.reduceEq, Int.reduceLT, Int.reduceLE, Int.reduceAdd, Int.reduceSub, Int.reduceNeg, reduceCtorEq, Nat.reduceShiftRight, Nat.reduceAnd, Nat.reduceBNe, g0, g5, g6, g7, g8, g9, tsR_len hCl' hCc', Int.ofNat_lt, c2]
            refine W_inv (fun q f τ => ∃ (j : Nat), q = C[i].length - j ∧ j ≤ C[i].length ∧ τ = Sx s [.cells (S.map (.int .i64))] ∧ (vv 0).get f = v ∧ (vv 5).get f = .int .i64 (k : Int) ∧ (vv 6).get f = tsR C ∧ (vv 7).get f = .sl (nm s 0) 0 (k + 1) (k + 1) 0 ∧ (vv 8).get f = .int .i64 (r : Int) ∧ (vv 9).get f = .int .i64 (i : Int) ∧ (vv 10).get f = .int .i64 (refC S (C[i].take j)).1 ∧ (vv 11).get f = .int .i64 (refC S (C[i].take j)).2.1 ∧ (vv 12).get f = .bool (refC S (C[i].take j)).2.2 ∧ (vv 13).get f = .int .i64 (j : Int)) ?_ ⟨0, rfl, by omega, rfl, ?_⟩
            · rintro q f τ ⟨j, rfl, hj, rfl, g0, g5, g6, g7, g8, g9, g10, g11, g12, g13⟩
              by_cases c3 : j < C[i].length
              · have hxm := List.getElem_mem c3
                have hxr := hcr _ hxm
                have etj : C[i].take (j + 1) = C[i].take j ++ [C[i][j]] := (List.take_append_getElem c3).symm
                have es : refC S (C[i].take (j + 1)) = ref1 S (refC S (C[i].take j)) C[i][j] := by rw [etj, refC_snoc]
                have hp1 : 0 ≤ (refC S (C[i].take j)).1 ∧ (refC S (C[i].take j)).1 ≤ 8 := by
                  have := (refC_spec hd.vals (C[i].take j) fun v hv => (hcr v (List.mem_of_mem_take hv)).1).2
                  rw [List.length_take] at this
                  rcases this with ⟨q, _⟩ | ⟨q, _⟩ | ⟨q, q2, _⟩ <;> omega
                have ex1 := (hci (Sx s [.cells (S.map (.int .i64))])).i64 c3 (ext_self _)
                have ex2 := fun t => (hci t).ia c3 1 .i64 t
                generalize refC S (C[i].take j) = p at *
                obtain ⟨p1, p2, p3⟩ := p
                simp only at g10 g11 g12 hp1
                have ewn : IntKind.wrap .i64 (-C[i][j]) = -C[i][j] := wrap_i64 (by omega) (by omega)
                have emx : max C[i][j] (-C[i][j]) = ((C[i][j].natAbs : Nat) : Int) := by omega
                have eg := getD_at (S := S) (j := C[i][j].natAbs) (by omega)
                have ep : IntKind.wrap .i64 (p1 + 1) = p1 + 1 := wrap_i64 (by omega) (by omega)
                have ej : IntKind.wrap .i64 ((j : Int) + 1) = ((j + 1 : Nat) : Int) := by rw [wrap_i64 (by omega) (by omega)]; omega
                have vl := fun t => (hci t).vlen t
                simp only [Nat.mul_one] at ex2
                by_cases hs : S.getD C[i][j].natAbs 0 = 0
                · rw [hs] at eg
                  by_cases hw : C[i][j] = p2
                  · subst hw
                    have hr1 : ref1 S (p1, C[i][j], p3) C[i][j] = (p1, C[i][j], p3) := by unfold ref1; rw [hs]; simp
                    cases p3
                    · simp only [go_sem, ↓reduceIte, Nat.reduceMod, Nat.reduceEqDiff, Nat.reduceAdd, Nat.reduceMul, Nat.reduceSub, Nat.reduceLeDiff, Nat.reduceLT, Int.reduceEq, Int.reduceLT, Int.reduceLE, Int.reduceAdd, Int.reduceSub, Int.reduceNeg, reduceCtorEq, Nat.reduceShiftRight, Nat.reduceAnd, Nat.reduceBNe, g0, g5, g6, g7, g8, g9, g10, g11, g12, g13, tsR_ia hCl' hCc' c2, tsR_ld c2, vl, Int.ofNat_lt, c3, ex2, ex1, ewn, emx, hia hxr.2, hob, wrap1_at eg, ne_eq, not_true_eq_false, ej]
                      refine ⟨C[i].length - (j + 1), by omega, j + 1, rfl, by omega, ?_⟩
                      rw [es, hr1]; simp
                    · simp only [go_sem, ↓reduceIte, Nat.reduceMod, Nat.reduceEqDiff, Nat.reduceAdd, Nat.reduceMul, Nat.reduceSub, Nat.reduceLeDiff, Nat.reduceLT, Int.reduceEq, Int.reduceLT, Int.reduceLE, Int.reduceAdd, Int.reduceSub, Int.reduceNeg, reduceCtorEq, Nat.reduceShiftRight, Nat.reduceAnd, Nat.reduceBNe, g0, g5, g6, g7, g8, g9, g10, g11, g12, g13, tsR_ia hCl' hCc' c2, tsR_ld c2, vl, Int.ofNat_lt, c3, ex2, ex1, ewn, emx, hia hxr.2, hob, wrap1_at eg, ne_eq, not_true_eq_false, ej]
                      refine ⟨C[i].length - (j + 1), by omega, j + 1, rfl, by omega, ?_⟩
                      rw [es, hr1]; simp
                  · have hr1 : ref1 S (p1, p2, p3) C[i][j] = (p1 + 1, C[i][j], p3) := by unfold ref1; rw [hs]; simp [hw]
                    cases p3
                    · simp only [go_sem, ↓reduceIte, Nat.reduceMod, Nat.reduceEqDiff, Nat.reduceAdd, Nat.reduceMul, Nat.reduceSub, Nat.reduceLeDiff, Nat.reduceLT, Int.reduceEq, Int.reduceLT, Int.reduceLE, Int.reduceAdd, Int.reduceSub, Int.reduceNeg, reduceCtorEq, Nat.reduceShiftRight, Nat.reduceAnd, Nat.reduceBNe, g0, g5, g6, g7, g8, g9, g10, g11, g12, g13, tsR_ia hCl' hCc' c2, tsR_ld c2, vl, Int.ofNat_lt, c3, ex2, ex1, ewn, emx, hia hxr.2, hob, wrap1_at eg, ne_eq, not_true_eq_false, not_false_eq_true, hw, ep, ej]
                      refine ⟨C[i].length - (j + 1), by omega, j + 1, rfl, by omega, ?_⟩
                      rw [es, hr1]; simp
                    · simp only [go_sem, ↓reduceIte, Nat.reduceMod, Nat.reduceEqDiff, Nat.reduceAdd, Nat.reduceMul, Nat.reduceSub, Nat.reduceLeDiff, Nat.reduceLT, Int.reduceEq, Int.reduceLT, Int.reduceLE, Int.reduceAdd, Int.reduceSub, Int.reduceNeg, reduceCtorEq, Nat.reduceShiftRight, Nat.reduceAnd, Nat.reduceBNe, g0, g5, g6, g7, g8, g9, g10, g11, g12, g13, tsR_ia hCl' hCc' c2, tsR_ld c2, vl, Int.ofNat_lt, c3, ex2, ex1, ewn, emx, hia hxr.2, hob, wrap1_at eg, ne_eq, not_true_eq_false, not_false_eq_true, hw, ep, ej]
                      refine ⟨C[i].length - (j + 1), by omega, j + 1, rfl, by omega, ?_⟩
                      rw [es, hr1]; simp
                · have hr1 : ref1 S (p1, p2, p3) C[i][j] = (p1, p2, p3 || decide (decide (0 < S.getD C[i][j].natAbs 0) = decide (0 < C[i][j]))) := by unfold ref1; rw [if_neg (fun h => hs h.1), decide_eq_true (p := S.getD C[i][j].natAbs 0 ≠ 0) hs, Bool.true_and]
                  cases p3
                  · simp only [go_sem, ↓reduceIte, Nat.reduceMod, Nat.reduceEqDiff, Nat.reduceAdd, Nat.reduceMul, Nat.reduceSub, Nat.reduceLeDiff, Nat.reduceLT, Int.reduceEq, Int.reduceLT, Int.reduceLE, Int.reduceAdd, Int.reduceSub, Int.reduceNeg, reduceCtorEq, Nat.reduceShiftRight, Nat.reduceAnd, Nat.reduceBNe, g0, g5, g6, g7, g8, g9, g10, g11, g12, g13, tsR_ia hCl' hCc' c2, tsR_ld c2, vl, Int.ofNat_lt, c3, ex2, ex1, ewn, emx, hia hxr.2, hob, wrap1_at eg, ne_eq, hs, not_false_eq_true, ej]
                    refine ⟨C[i].length - (j + 1), by omega, j + 1, rfl, by omega, ?_⟩
                    rw [es, hr1]; simp
                  · simp only [go_sem, ↓reduceIte, Nat.reduceMod, Nat.reduceEqDiff, Nat.reduceAdd, Nat.reduceMul, Nat.reduceSub, Nat.reduceLeDiff, Nat.reduceLT, Int.reduceEq, Int.reduceLT, Int.reduceLE, Int.reduceAdd, Int.reduceSub, Int.reduceNeg, reduceCtorEq, Nat.reduceShiftRight, Nat.reduceAnd, Nat.reduceBNe, g0, g5, g6, g7, g8, g9, g10, g11, g12, g13, tsR_ia hCl' hCc' c2, tsR_ld c2, vl, Int.ofNat_lt, c3, ex2, ex1, ewn, emx, hia hxr.2, hob, wrap1_at eg, ne_eq, hs, not_false_eq_true, ej]
                    refine ⟨C[i].length - (j + 1), by omega, j + 1, rfl, by omega, ?_⟩
                    rw [es, hr1]; simp
              · have ej : j = C[i].length := by omega
                subst ej
                rw [List.take_length] at g10 g11 g12
                have ei : IntKind.wrap .i64 ((i : Int) + 1) = ((i + 1 : Nat) : Int) := by rw [wrap_i64 (by omega) (by omega)]; omega
                have hstep : stepR S C[i] = if (refC S C[i]).2.2 = false ∧ (refC S C[i]).1 = 1 then S.set (refC S C[i]).2.1.natAbs (if (refC S C[i]).2.1 < 0 then -1 else 1) else S := rfl
                have vl := fun t => (hci t).vlen t
                have hin : (refC S C[i]).1 = 1 → (refC S C[i]).2.1 ∈ C[i] := fun e => by
                  rcases spec.2 with ⟨q, _⟩ | ⟨_, q, _⟩ | ⟨q, _⟩
                  · omega
                  · exact q
                  · omega
                generalize refC S C[i] = p at *
                obtain ⟨p1, p2, p3⟩ := p
                simp only at g10 g11 g12 hin hstep
                cases p3 with
                | true =>
                  rw [if_neg (by simp)] at hstep
                  simp only [go_sem, ↓reduceIte, Nat.reduceMod, Nat.reduceEqDiff, Nat.reduceAdd, Nat.reduceMul, Nat.reduceSub, Nat.reduceLeDiff, Nat.reduceLT, Int.reduceEq, Int.reduceLT, Int.reduceLE, Int.reduceAdd, Int.reduceSub, Int.reduceNeg, reduceCtorEq, Nat.reduceShiftRight, Nat.reduceAnd, Nat.reduceBNe, g0, g5, g6, g7, g8, g9, g10, g11, g12, g13, tsR_ia hCl' hCc' c2, tsR_ld c2, vl, Int.ofNat_lt, c3, Bool.not_true, ei]
                  exact ⟨C.length - (i + 1), by omega, i + 1, rfl, by omega, by rw [er, hstep], rfl⟩
                | false =>
                  by_cases c4 : p1 = 1
                  · have hp2 := hcr p2 (hin c4)
                    rw [if_pos ⟨rfl, c4⟩] at hstep
                    have ewn : IntKind.wrap .i64 (-p2) = -p2 := wrap_i64 (by omega) (by omega)
                    have emx : max p2 (-p2) = ((p2.natAbs : Nat) : Int) := by omega
                    have s1 := hst S p2.natAbs 1 hsl hp2.2
                    by_cases c5 : p2 < 0
                    · rw [if_pos c5] at hstep
                      have s2 := hst (S.set p2.natAbs 1) p2.natAbs (-1) (by rw [List.length_set]; exact hsl) hp2.2
                      rw [List.set_set] at s2
                      have ena : -p2 = ((p2.natAbs : Nat) : Int) := by omega
                      simp only [go_sem, ↓reduceIte, Nat.reduceMod, Nat.reduceEqDiff, Nat.reduceAdd, Nat.reduceMul, Nat.reduceSub, Nat.reduceLeDiff, Nat.reduceLT, Int.reduceEq, Int.reduceLT, Int.reduceLE, Int.reduceAdd, Int.reduceSub, Int.reduceNeg, reduceCtorEq, Nat.reduceShiftRight, Nat.reduceAnd, Nat.reduceBNe, g0, g5, g6, g7, g8, g9, g10, g11, g12, g13, tsR_ia hCl' hCc' c2, tsR_ld c2, vl, Int.ofNat_lt, c3, Bool.not_false, ei, c4, ewn, emx, hia hp2.2, s1, c5]
                      rw [ena]
                      simp only [go_sem, ↓reduceIte, Nat.reduceMod, Nat.reduceEqDiff, Nat.reduceAdd, Nat.reduceMul, Nat.reduceSub, Nat.reduceLeDiff, Nat.reduceLT, Int.reduceEq, Int.reduceLT, Int.reduceLE, Int.reduceAdd, Int.reduceSub, Int.reduceNeg, reduceCtorEq, Nat.reduceShiftRight, Nat.reduceAnd, Nat.reduceBNe, hia hp2.2, s2, ei, g0, g5, g6, g7, g8, g9]
                      exact ⟨C.length - (i + 1), by omega, i + 1, rfl, by omega, by rw [er, hstep], rfl⟩
                    · rw [if_neg c5] at hstep
                      simp only [go_sem, ↓reduceIte, Nat.reduceMod, Nat.reduceEqDiff, Nat.reduceAdd, Nat.reduceMul, Nat.reduceSub, Nat.reduceLeDiff, Nat.reduceLT, Int.reduceEq, Int.reduceLT, Int.reduceLE, Int.reduceAdd, Int.reduceSub, Int.reduceNeg, reduceCtorEq, Nat.reduceShiftRight, Nat.reduceAnd, Nat.reduceBNe, g0, g5, g6, g7, g8, g9, g10, g11, g12, g13, tsR_ia hCl' hCc' c2, tsR_ld c2, vl, Int.ofNat_lt, c3, Bool.not_false, ei, c4, ewn, emx, hia hp2.2, s1, c5]
                      exact ⟨C.length - (i + 1), by omega, i + 1, rfl, by omega, by rw [er, hstep], rfl⟩
                  · rw [if_neg (fun h => c4 h.2)] at hstep
                    simp only [go_sem, ↓reduceIte, Nat.reduceMod, Nat.reduceEqDiff, Nat.reduceAdd, Nat.reduceMul, Nat.reduceSub, Nat.reduceLeDiff, Nat.reduceLT, Int.reduceEq, Int.reduceLT, Int.reduceLE, Int.reduceAdd, Int.reduceSub, Int.reduceNeg, reduceCtorEq, Nat.reduceShiftRight, Nat.reduceAnd, Nat.reduceBNe, g0, g5, g6, g7, g8, g9, g10, g11, g12, g13, tsR_ia hCl' hCc' c2, tsR_ld c2, vl, Int.ofNat_lt, c3, Bool.not_false, ei, c4]
                    exact ⟨C.length - (i + 1), by omega, i + 1, rfl, by omega, by rw [er, hstep], rfl⟩
            · simp only [go_sem, ↓reduceIte, Nat.reduceMod, Nat.reduceEqDiff, Nat.reduceAdd, Nat.reduceMul, Nat.reduceSub, Nat.reduceLeDiff, Nat.reduceLT, Int.reduceEq, Int.reduceLT, Int.reduceLE, Int.reduceAdd, Int.reduceSub, Int.reduceNeg, reduceCtorEq, Nat.reduceShiftRight, Nat.reduceAnd, Nat.reduceBNe, g0, g5, g6, g7, g8, g9]
              simp [refC]
        · simp only [go_sem, ↓reduceIte, Nat.reduceMod, Nat.reduceEqDiff, Nat.reduceAdd, Nat.reduceMul, Nat.reduceSub, Nat.reduceLeDiff, Nat.reduceLT, Int.reduceEq, Int.reduceLT, Int.reduceLE, Int.reduceAdd, Int.reduceSub, Int.reduceNeg, reduceCtorEq, Nat.reduceShiftRight, Nat.reduceAnd, Nat.reduceBNe, g0, g5, g6, g7, g8]
          simp [roundR]
      · have er : r = k + 1 := by omega
        subst er
        have hdk := hdrv (k + 1)
        have hlc := fun c hc => lost_contra (C := C) (k := k) hrg (c := c) hc
        have hkd : (∀ c ∈ C, ¬ lostS (refS C k) c) → ∀ {x : Int}, Der C x → litV (refS C k) x = 1 := fun hl x d => kept_der hrg hl d
        have hkn : (∀ c ∈ C, ¬ lostS (refS C k) c) → ¬ Contra C := fun hl => kept_no hrg hl
        change Drv C k (refS C k) at hdk
        rw [show iterR C (S0 k) (k + 1) = refS C k from rfl]
        generalize refS C k = S at *
        have hsl := hdk.vals.len
        have hob1 := hob S
        obtain ⟨τ1, hτ1⟩ : ∃ τ1, τ1 = Sx s [.cells (S.map (.int .i64))] := ⟨_, rfl⟩
        have hr1 : Room τ1 := by rw [hτ1]; exact hr.sx (by simp)
        have hx1 : Ext s τ1 := by rw [hτ1]; exact ext_Sx hr (by simp)
        have hn1 : (nm s 0).val < τ1.n.val := by rw [hτ1, Sx_n hr (by simp), nm_val hr (by omega)]; simp
        rw [← hτ1] at hob1 ⊢
        obtain ⟨ru, u, ok, fu, hu, hspec⟩ := units_spec τ1 hr1 (hv.x hx1) hi64 (n := k) (by omega) (by omega) (fun c hc => by have := hf1 c hc; omega)
        simp only [go_sem, ↓reduceIte, Nat.reduceMod, Nat.reduceEqDiff, Nat.reduceAdd, Nat.reduceMul, Nat.reduceSub, Nat.reduceLeDiff, Nat.reduceLT, Int.reduceEq, Int.reduceLT, Int.reduceLE, Int.reduceAdd, Int.reduceSub, Int.reduceNeg, reduceCtorEq, Nat.reduceShiftRight, Nat.reduceAnd, Nat.reduceBNe, g0, g5, g6, g7, g8, c1, fu]
        refine W_inv (fun q f τ => ∃ (i : Nat), q = C.length - i ∧ i ≤ C.length ∧ Room τ ∧ Ext τ1 τ ∧ (∀ c ∈ C.take i, ¬ lostS S c) ∧ (vv 5).get f = .int .i64 (k : Int) ∧ (vv 6).get f = tsR C ∧ (vv 7).get f = .sl (nm s 0) 0 (k + 1) (k + 1) 0 ∧ (vv 16).get f = ru ∧ (vv 17).get f = .bool ok ∧ (vv 18).get f = .int .i64 (i : Int)) ?_ ⟨0, rfl, by omega, hr1, Ext.refl τ1, (by intro c hc; cases hc), ?_⟩
        rotate_left
        · simp only [go_sem, ↓reduceIte, Nat.reduceMod, Nat.reduceEqDiff, Nat.reduceAdd, Nat.reduceMul, Nat.reduceSub, Nat.reduceLeDiff, Nat.reduceLT, Int.reduceEq, Int.reduceLT, Int.reduceLE, Int.reduceAdd, Int.reduceSub, Int.reduceNeg, reduceCtorEq, Nat.reduceShiftRight, Nat.reduceAnd, Nat.reduceBNe, g0, g5, g6, g7]
          simp
        rintro q f τ ⟨i, rfl, hi, hr2, hx2, hno, g5, g6, g7, g16, g17, g18⟩
        by_cases c2 : i < C.length
        · have hcm := List.getElem_mem c2
          have hcl := hCc _ hcm
          have hcr := hrg _ hcm
          have hci := fun t => tsN_ints t C[i] (hCc' _ hcm)
          have vl := fun t => (hci t).vlen t
          have et : C.take (i + 1) = C.take i ++ [C[i]] := (List.take_append_getElem c2).symm
          simp only [go_sem, ↓reduceIte, Nat.reduceMod, Nat.reduceEqDiff, Nat.reduceAdd, Nat.reduceMul, Nat.reduceSub, Nat.reduceLeDiff, Nat.reduceLT, Int.reduceEq, Int.reduceLT, Int.reduceLE, Int.reduceAdd, Int.reduceSub, Int.reduceNeg, reduceCtorEq, Nat.reduceShiftRight, Nat.reduceAnd, Nat.reduceBNe, g5, g6, g7, g16, g17, g18, tsR_len hCl' hCc', Int.ofNat_lt, c2]
          refine W_inv (fun q f τ => ∃ (j : Nat), q = C[i].length - j ∧ j ≤ C[i].length ∧ Room τ ∧ Ext τ1 τ ∧ (vv 5).get f = .int .i64 (k : Int) ∧ (vv 6).get f = tsR C ∧ (vv 7).get f = .sl (nm s 0) 0 (k + 1) (k + 1) 0 ∧ (vv 16).get f = ru ∧ (vv 17).get f = .bool ok ∧ (vv 18).get f = .int .i64 (i : Int) ∧ (vv 19).get f = .bool ((C[i].take j).all fun v => decide (litV S v = -1)) ∧ (vv 20).get f = .int .i64 (j : Int)) ?_ ⟨0, rfl, by omega, hr2, hx2, ?_⟩
          rotate_left
          · simp only [go_sem, ↓reduceIte, Nat.reduceMod, Nat.reduceEqDiff, Nat.reduceAdd, Nat.reduceMul, Nat.reduceSub, Nat.reduceLeDiff, Nat.reduceLT, Int.reduceEq, Int.reduceLT, Int.reduceLE, Int.reduceAdd, Int.reduceSub, Int.reduceNeg, reduceCtorEq, Nat.reduceShiftRight, Nat.reduceAnd, Nat.reduceBNe, g5, g6, g7, g16, g17, g18]
            simp
          rintro q f τ ⟨j, rfl, hj, hr3, hx3, g5, g6, g7, g16, g17, g18, g19, g20⟩
          by_cases c3 : j < C[i].length
          · have hxm := List.getElem_mem c3
            have hxr := hcr _ hxm
            have etj : C[i].take (j + 1) = C[i].take j ++ [C[i][j]] := (List.take_append_getElem c3).symm
            have ewn : IntKind.wrap .i64 (-C[i][j]) = -C[i][j] := wrap_i64 (by omega) (by omega)
            have emx : max C[i][j] (-C[i][j]) = ((C[i][j].natAbs : Nat) : Int) := by omega
            have eg := getD_at (S := S) (j := C[i][j].natAbs) (by omega)
            have ej : IntKind.wrap .i64 ((j : Int) + 1) = ((j + 1 : Nat) : Int) := by rw [wrap_i64 (by omega) (by omega)]; omega
            have ex1 := fun t => (hci t).i64 c3 (ext_self t)
            have ex2 := fun t => (hci t).ia c3 1 .i64 t
            simp only [Nat.mul_one] at ex2
            have hlit := (hdk.vals.lit hxr.1).2.2
            have eall : (C[i].take (j + 1)).all (fun v => decide (litV S v = -1)) = ((C[i].take j).all (fun v => decide (litV S v = -1)) && decide (litV S C[i][j] = -1)) := by rw [etj, List.all_append]; simp
            simp only [go_sem, ↓reduceIte, Nat.reduceMod, Nat.reduceEqDiff, Nat.reduceAdd, Nat.reduceMul, Nat.reduceSub, Nat.reduceLeDiff, Nat.reduceLT, Int.reduceEq, Int.reduceLT, Int.reduceLE, Int.reduceAdd, Int.reduceSub, Int.reduceNeg, reduceCtorEq, Nat.reduceShiftRight, Nat.reduceAnd, Nat.reduceBNe, g5, g6, g7, g16, g17, g18, g19, g20, tsR_ia hCl' hCc' c2, tsR_ld c2, vl, Int.ofNat_lt, c3]
            rw [show τ = Sx τ [] from rfl]
            refine W_drawn hr3 _ (by simp) ?_
            simp only [List.nil_append, List.length_nil, List.length_cons, List.replicate_succ, List.replicate_zero]
            have hr4 := hr3.sx (l := [.dead, .dead, .dead, .dead, .dead, .dead, .dead, .dead, .dead, .dead, .dead, .dead, .dead, .dead, .dead, .dead, .dead, .dead, .dead, .dead]) (by simp)
            have hx4 := hx3.trans (ext_Sx (l := [.dead, .dead, .dead, .dead, .dead, .dead, .dead, .dead, .dead, .dead, .dead, .dead, .dead, .dead, .dead, .dead, .dead, .dead, .dead, .dead]) hr3 (by simp))
            generalize Sx τ [.dead, .dead, .dead, .dead, .dead, .dead, .dead, .dead, .dead, .dead, .dead, .dead, .dead, .dead, .dead, .dead, .dead, .dead, .dead, .dead] = τ4 at *
            have ob4 : τ4.obj (nm s 0) = .cells (S.map (.int .i64)) := by rw [hx4.old _ hn1]; exact hob1
            generalize (C[i].take j).all (fun v => decide (litV S v = -1)) = B at *
            cases B with
            | false =>
              simp only [go_sem, ↓reduceIte, Nat.reduceMod, Nat.reduceEqDiff, Nat.reduceAdd, Nat.reduceMul, Nat.reduceSub, Nat.reduceLeDiff, Nat.reduceLT, Int.reduceEq, Int.reduceLT, Int.reduceLE, Int.reduceAdd, Int.reduceSub, Int.reduceNeg, reduceCtorEq, Nat.reduceShiftRight, Nat.reduceAnd, Nat.reduceBNe, hr3, g5, g6, g7, g16, g17, g18, g19, g20, tsR_ia hCl' hCc' c2, tsR_ld c2, ex2, ex1, ewn, emx, hia hxr.2, ob4, wrap1_at eg, ej]
              refine ⟨C[i].length - (j + 1), by omega, j + 1, rfl, by omega, hr4, hx4, ?_⟩
              rw [eall]; simp
            | true =>
              by_cases hs : S.getD C[i][j].natAbs 0 = 0
              · rw [hs] at eg
                simp only [go_sem, ↓reduceIte, Nat.reduceMod, Nat.reduceEqDiff, Nat.reduceAdd, Nat.reduceMul, Nat.reduceSub, Nat.reduceLeDiff, Nat.reduceLT, Int.reduceEq, Int.reduceLT, Int.reduceLE, Int.reduceAdd, Int.reduceSub, Int.reduceNeg, reduceCtorEq, Nat.reduceShiftRight, Nat.reduceAnd, Nat.reduceBNe, hr3, g5, g6, g7, g16, g17, g18, g19, g20, tsR_ia hCl' hCc' c2, tsR_ld c2, ex2, ex1, ewn, emx, hia hxr.2, ob4, wrap1_at eg, ej, ne_eq, not_true_eq_false]
                refine ⟨C[i].length - (j + 1), by omega, j + 1, rfl, by omega, hr4, hx4, ?_⟩
                rw [eall, decide_eq_false (p := litV S C[i][j] = -1) (fun e => (hlit.mp e).1 hs)]; simp
              · simp only [go_sem, ↓reduceIte, Nat.reduceMod, Nat.reduceEqDiff, Nat.reduceAdd, Nat.reduceMul, Nat.reduceSub, Nat.reduceLeDiff, Nat.reduceLT, Int.reduceEq, Int.reduceLT, Int.reduceLE, Int.reduceAdd, Int.reduceSub, Int.reduceNeg, reduceCtorEq, Nat.reduceShiftRight, Nat.reduceAnd, Nat.reduceBNe, hr3, g5, g6, g7, g16, g17, g18, g19, g20, tsR_ia hCl' hCc' c2, tsR_ld c2, ex2, ex1, ewn, emx, hia hxr.2, ob4, wrap1_at eg, ej, hs, ne_eq, not_false_eq_true]
                refine ⟨C[i].length - (j + 1), by omega, j + 1, rfl, by omega, hr4, hx4, ?_⟩
                rw [eall, Bool.true_and]
                have : decide (litV S C[i][j] = -1) = decide (¬ (decide (0 < S.getD C[i][j].natAbs 0) = decide (0 < C[i][j]))) := by
                  rw [decide_eq_decide, hlit]; exact ⟨fun h => h.2, fun h => ⟨hs, h⟩⟩
                rw [this]; simp
          · have ej : j = C[i].length := by omega
            subst ej
            rw [List.take_length] at g19
            cases hB : C[i].all (fun v => decide (litV S v = -1)) with
            | true =>
              rw [hB] at g19
              have hlost : lostS S C[i] := fun v hv => by have := List.all_eq_true.mp hB v hv; simpa using this
              have hcon := (hlc _ hcm hlost).mono hm1
              rcases hspec with ⟨rfl, rfl, _⟩ | ⟨_, hn, _⟩
              · have vu := hu.vlen
                simp only [go_sem, ↓reduceIte, Nat.reduceMod, Nat.reduceEqDiff, Nat.reduceAdd, Nat.reduceMul, Nat.reduceSub, Nat.reduceLeDiff, Nat.reduceLT, Int.reduceEq, Int.reduceLT, Int.reduceLE, Int.reduceAdd, Int.reduceSub, Int.reduceNeg, reduceCtorEq, Nat.reduceShiftRight, Nat.reduceAnd, Nat.reduceBNe, g5, g6, g7, g16, g17, g18, g19, g20, tsR_ia hCl' hCc' c2, tsR_ld c2, vl, Int.ofNat_lt, c3, Bool.not_false, vu, List.length_nil]
                exact settled_bool (hx1.trans hx3) (by simp)
              · exact absurd hcon hn
            | false =>
              rw [hB] at g19
              simp only [go_sem, ↓reduceIte, Nat.reduceMod, Nat.reduceEqDiff, Nat.reduceAdd, Nat.reduceMul, Nat.reduceSub, Nat.reduceLeDiff, Nat.reduceLT, Int.reduceEq, Int.reduceLT, Int.reduceLE, Int.reduceAdd, Int.reduceSub, Int.reduceNeg, reduceCtorEq, Nat.reduceShiftRight, Nat.reduceAnd, Nat.reduceBNe, g5, g6, g7, g16, g17, g18, g19, g20, tsR_ia hCl' hCc' c2, tsR_ld c2, vl, Int.ofNat_lt, c3]
              refine ⟨C.length - (i + 1), by omega, i + 1, rfl, by omega, hr3, hx3, fun c hc => ?_, ?_⟩
              · rw [et, List.mem_append, List.mem_singleton] at hc
                rcases hc with hc | rfl
                · exact hno c hc
                · intro hl
                  have : C[i].all (fun v => decide (litV S v = -1)) = true := List.all_eq_true.mpr fun v hv => by rw [decide_eq_true_eq]; exact hl v hv
                  rw [hB] at this; cases this
              · rw [wrap_i64 (by omega) (by omega)]; simp
        · have ei : i = C.length := by omega
          subst ei
          rw [List.take_length] at hno
          have hnc : ¬ Contra (l.map (knownL k)) := fun h => hkn hno (h.mono hm2)
          rcases hspec with ⟨_, _, hn⟩ | ⟨rfl, _, tr, rfl, ht1, ht2, ht3⟩
          · exact absurd hn hnc
          have hue : sortI tr = refL S k := sorted_eq (sortI_sorted ht1) (refL_sorted hdk.vals k) fun x => by
            rw [(sortI_perm tr).mem_iff, refL_mem hdk.vals k x]
            constructor
            · intro hx
              have := ht2 x hx
              exact ⟨this.1, this.2, hkd hno (((ht3 x).mp hx).mono hm2)⟩
            · rintro ⟨h0, h1, h2⟩
              exact (ht3 x).mpr ((hdk.der x h0 h1 h2).mono hm1)
          rw [hue] at hu
          have vu := hu.vlen
          simp only [go_sem, ↓reduceIte, Nat.reduceMod, Nat.reduceEqDiff, Nat.reduceAdd, Nat.reduceMul, Nat.reduceSub, Nat.reduceLeDiff, Nat.reduceLT, Int.reduceEq, Int.reduceLT, Int.reduceLE, Int.reduceAdd, Int.reduceSub, Int.reduceNeg, reduceCtorEq, Nat.reduceShiftRight, Nat.reduceAnd, Nat.reduceBNe, g5, g6, g7, g16, g17, g18, tsR_len hCl' hCc', Int.ofNat_lt, c2]
          refine W_inv (fun q f τ => ∃ (m : Nat), q = k - m ∧ m ≤ k ∧ Room τ ∧ Ext τ1 τ ∧ (vv 5).get f = .int .i64 (k : Int) ∧ (vv 7).get f = .sl (nm s 0) 0 (k + 1) (k + 1) 0 ∧ (vv 16).get f = ru ∧ (vv 17).get f = .bool true ∧ (vv 22).get f = .int .i64 ((refL S m).length : Int) ∧ (vv 23).get f = .int .i64 ((m + 1 : Nat) : Int)) ?_ ⟨0, rfl, by omega, hr2, hx2, ?_⟩
          rotate_left
          · simp only [go_sem, ↓reduceIte, Nat.reduceMod, Nat.reduceEqDiff, Nat.reduceAdd, Nat.reduceMul, Nat.reduceSub, Nat.reduceLeDiff, Nat.reduceLT, Int.reduceEq, Int.reduceLT, Int.reduceLE, Int.reduceAdd, Int.reduceSub, Int.reduceNeg, reduceCtorEq, Nat.reduceShiftRight, Nat.reduceAnd, Nat.reduceBNe, g5, g6, g7, g16, g17, g18]
            simp [refL]
          rintro q f τ ⟨m, rfl, hm, hr3, hx3, g5, g7, g16, g17, g22, g23⟩
          have ob3 : τ.obj (nm s 0) = .cells (S.map (.int .i64)) := by rw [hx3.old _ hn1]; exact hob1
          by_cases c3 : ((m + 1 : Nat) : Int) ≤ (k : Int)
          · have hm1' : m + 1 ≤ k := by omega
            have eg := getD_at (S := S) (j := m + 1) (by omega)
            have em : IntKind.wrap .i64 (((m + 1 : Nat) : Int) + 1) = ((m + 1 + 1 : Nat) : Int) := by rw [wrap_i64 (by omega) (by omega)]; omega
            by_cases hs : S.getD (m + 1) 0 = 0
            · rw [hs] at eg
              have e1 : refL S (m + 1) = refL S m := by rw [refL, if_pos hs]
              simp only [go_sem, ↓reduceIte, Nat.reduceMod, Nat.reduceEqDiff, Nat.reduceAdd, Nat.reduceMul, Nat.reduceSub, Nat.reduceLeDiff, Nat.reduceLT, Int.reduceEq, Int.reduceLT, Int.reduceLE, Int.reduceAdd, Int.reduceSub, Int.reduceNeg, reduceCtorEq, Nat.reduceShiftRight, Nat.reduceAnd, Nat.reduceBNe, g5, g7, g16, g17, g22, g23, c3, hia hm1', ob3, wrap1_at eg, em]
              exact ⟨k - (m + 1), by omega, m + 1, rfl, by omega, hr3, hx3, by rw [e1], rfl⟩
            · have e1 : refL S (m + 1) = refL S m ++ [((m + 1 : Nat) : Int) * S.getD (m + 1) 0] := by rw [refL, if_neg hs]
              have hpre := refL_pre S (m + 1) k hm1'
              rw [e1] at hpre
              obtain ⟨t, ht⟩ := hpre
              have hat : (refL S m).length < (refL S k).length := by rw [← ht, List.length_append, List.length_append, List.length_singleton]; omega
              have hxe : (refL S k)[(refL S m).length] = ((m + 1 : Nat) : Int) * S.getD (m + 1) 0 := by
                have : (refL S k)[(refL S m).length]? = some (((m + 1 : Nat) : Int) * S.getD (m + 1) 0) := by
                  rw [← ht, List.append_assoc, List.getElem?_append_right (Nat.le_refl _)]; simp
                rw [List.getElem?_eq_getElem hat] at this
                exact Option.some.inj this
              have hsb := hdk.vals.at (m + 1)
              have hmul : IntKind.wrap .i64 (((m + 1 : Nat) : Int) * S.getD (m + 1) 0) = ((m + 1 : Nat) : Int) * S.getD (m + 1) 0 := by
                obtain h | h | h : S.getD (m + 1) 0 = -1 ∨ S.getD (m + 1) 0 = 0 ∨ S.getD (m + 1) 0 = 1 := by omega
                · rw [h]; exact wrap_i64 (by omega) (by omega)
                · rw [h]; exact wrap_i64 (by omega) (by omega)
                · rw [h]; exact wrap_i64 (by omega) (by omega)
              have hlk : (refL S m).length ≤ m := refL_len S m
              have ea : IntKind.wrap .i64 (((refL S m).length : Int) + 1) = (((refL S m).length + 1 : Nat) : Int) := by rw [wrap_i64 (by omega) (by omega)]; omega
              simp only [go_sem, ↓reduceIte, Nat.reduceMod, Nat.reduceEqDiff, Nat.reduceAdd, Nat.reduceMul, Nat.reduceSub, Nat.reduceLeDiff, Nat.reduceLT, Int.reduceEq, Int.reduceLT, Int.reduceLE, Int.reduceAdd, Int.reduceSub, Int.reduceNeg, reduceCtorEq, Nat.reduceShiftRight, Nat.reduceAnd, Nat.reduceBNe, g5, g7, g16, g17, g22, g23, c3, hia hm1', ob3, wrap1_at eg, hs]
              rw [show τ = Sx τ [] from rfl]
              refine W_drawn hr3 _ (by simp) ?_
              simp only [List.nil_append, List.length_nil, List.length_cons, List.replicate_succ, List.replicate_zero]
              have hr4 := hr3.sx (l := [.dead, .dead, .dead, .dead, .dead, .dead, .dead, .dead, .dead, .dead, .dead, .dead, .dead, .dead, .dead, .dead, .dead]) (by simp)
              have hx4 := hx3.trans (ext_Sx (l := [.dead, .dead, .dead, .dead, .dead, .dead, .dead, .dead, .dead, .dead, .dead, .dead, .dead, .dead, .dead, .dead, .dead]) hr3 (by simp))
              generalize Sx τ [.dead, .dead, .dead, .dead, .dead, .dead, .dead, .dead, .dead, .dead, .dead, .dead, .dead, .dead, .dead, .dead, .dead] = τ4 at *
              have ob4 : τ4.obj (nm s 0) = .cells (S.map (.int .i64)) := by rw [hx4.old _ hn1]; exact hob1
              have hu4 := hu.x hx4
              have c4 : ¬ ((refL S k).length ≤ (refL S m).length) := by omega
              simp only [go_sem, ↓reduceIte, Nat.reduceMod, Nat.reduceEqDiff, Nat.reduceAdd, Nat.reduceMul, Nat.reduceSub, Nat.reduceLeDiff, Nat.reduceLT, Int.reduceEq, Int.reduceLT, Int.reduceLE, Int.reduceAdd, Int.reduceSub, Int.reduceNeg, reduceCtorEq, Nat.reduceShiftRight, Nat.reduceAnd, Nat.reduceBNe, hr3, g5, g7, g16, g17, g22, g23, vu, Int.ofNat_le, c4, hu.ia hat, hu4.i64 hat, ext_self, hxe, hia hm1', ob4, wrap1_at eg, hmul, ne_eq, not_true_eq_false, ea, em]
              exact ⟨k - (m + 1), by omega, m + 1, rfl, by omega, hr4, hx4, by rw [e1, List.length_append]; rfl, rfl⟩
          · have em : m = k := by omega
            subst em
            simp only [go_sem, ↓reduceIte, Nat.reduceMod, Nat.reduceEqDiff, Nat.reduceAdd, Nat.reduceMul, Nat.reduceSub, Nat.reduceLeDiff, Nat.reduceLT, Int.reduceEq, Int.reduceLT, Int.reduceLE, Int.reduceAdd, Int.reduceSub, Int.reduceNeg, reduceCtorEq, Nat.reduceShiftRight, Nat.reduceAnd, Nat.reduceBNe, g5, g7, g16, g17, g22, g23, c3, vu]
            exact settled_bool (hx1.trans hx3) rfl
    · simp only [go_sem, ↓reduceIte, Nat.reduceMod, Nat.reduceEqDiff, Nat.reduceAdd, Nat.reduceMul, Nat.reduceSub, Nat.reduceLeDiff, Nat.reduceLT, Int.reduceEq, Int.reduceLT, Int.reduceLE, Int.reduceAdd, Int.reduceSub, Int.reduceNeg, reduceCtorEq, Nat.reduceShiftRight, Nat.reduceAnd, Nat.reduceBNe]
      simp [iterR]
end Go.Proofs.Ytggeadnjikpjnaa
