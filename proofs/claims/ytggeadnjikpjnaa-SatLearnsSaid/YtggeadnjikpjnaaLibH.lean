/- Functions of the program: more. No condition. -/
import Derived.Test.YtggeadnjikpjnaaLibE
import Derived.Test.YtggeadnjikpjnaaLibR
namespace Go.Vm
set_option linter.unusedVariables false
set_option linter.unusedSimpArgs false
/-- One literal of a clause, by the document: how many are left, which, whether one holds. -/
def ref1 (S : List Int) (p : Int × Int × Bool) (v : Int) : Int × Int × Bool :=
  if S.getD v.natAbs 0 = 0 ∧ v ≠ p.2.1 then (p.1 + 1, v, p.2.2) else (p.1, p.2.1, p.2.2 || (decide (S.getD v.natAbs 0 ≠ 0) && decide (decide (0 < S.getD v.natAbs 0) = decide (0 < v))))
def refC (S : List Int) (c : List Int) : Int × Int × Bool := c.foldl (ref1 S) (0, 0, false)
def stepR (S : List Int) (c : List Int) : List Int := if (refC S c).2.2 = false ∧ (refC S c).1 = 1 then S.set (refC S c).2.1.natAbs (if (refC S c).2.1 < 0 then -1 else 1) else S
def roundR (S : List Int) (C : List (List Int)) : List Int := C.foldl stepR S
def iterR (C : List (List Int)) (S : List Int) : Nat → List Int
  | 0 => S
  | m + 1 => roundR (iterR C S m) C
theorem refC_snoc (S : List Int) (c : List Int) (v : Int) : refC S (c ++ [v]) = ref1 S (refC S c) v := by unfold refC; rw [List.foldl_append]; rfl
theorem list_snoc {α : Type} {P : List α → Prop} (h0 : P []) (h1 : ∀ l a, P l → P (l ++ [a])) (l : List α) : P l := by
  have : ∀ l : List α, P l.reverse := by
    intro l
    induction l with
    | nil => exact h0
    | cons a l ih => rw [List.reverse_cons]; exact h1 _ _ ih
  have h := this l.reverse
  rwa [List.reverse_reverse] at h
/-- Values are 1, -1, or none yet. -/
structure Vals (k : Nat) (S : List Int) : Prop where
  len : S.length = k + 1
  vb : ∀ v ∈ S, -1 ≤ v ∧ v ≤ 1
  z : S.getD 0 0 = 0
theorem Vals.at {k : Nat} {S : List Int} (h : Vals k S) (j : Nat) : -1 ≤ S.getD j 0 ∧ S.getD j 0 ≤ 1 := by
  rw [List.getD_eq_getElem?_getD]
  cases e : S[j]? with
  | none => simp
  | some v => exact h.vb v (List.mem_of_getElem? e)
theorem Vals.lit {k : Nat} {S : List Int} (h : Vals k S) {v : Int} (h0 : v ≠ 0) : (litV S v = 0 ↔ S.getD v.natAbs 0 = 0) ∧ (litV S v = 1 ↔ S.getD v.natAbs 0 ≠ 0 ∧ decide (0 < S.getD v.natAbs 0) = decide (0 < v)) ∧ (litV S v = -1 ↔ S.getD v.natAbs 0 ≠ 0 ∧ decide (0 < S.getD v.natAbs 0) ≠ decide (0 < v)) := by
  have hb := h.at v.natAbs
  unfold litV
  generalize S.getD v.natAbs 0 = q at *
  by_cases c : v < 0
  · have c2 : ¬ 0 < v := by omega
    rw [if_pos c, decide_eq_false c2]
    refine ⟨by omega, ?_, ?_⟩
    · constructor
      · intro e; refine ⟨by omega, by rw [decide_eq_false]; omega⟩
      · rintro ⟨e1, e2⟩; have := of_decide_eq_false e2; omega
    · constructor
      · intro e; refine ⟨by omega, by rw [decide_eq_true (by omega)]; simp⟩
      · rintro ⟨e1, e2⟩
        have : 0 < q := by apply Classical.byContradiction; intro hh; rw [decide_eq_false hh] at e2; exact e2 rfl
        omega
  · have c2 : 0 < v := by omega
    rw [if_neg c, decide_eq_true c2]
    refine ⟨Iff.rfl, ?_, ?_⟩
    · constructor
      · intro e; exact ⟨by omega, by rw [decide_eq_true]; omega⟩
      · rintro ⟨e1, e2⟩; have := of_decide_eq_true e2; omega
    · constructor
      · intro e; refine ⟨by omega, by rw [decide_eq_false (by omega)]; simp⟩
      · rintro ⟨e1, e2⟩
        have : ¬ 0 < q := by intro hh; rw [decide_eq_true hh] at e2; exact e2 rfl
        omega
theorem refC_spec {k : Nat} {S : List Int} (hS : Vals k S) (c : List Int) (h0 : ∀ v ∈ c, v ≠ 0) :
    ((refC S c).2.2 = true ↔ ∃ v ∈ c, litV S v = 1) ∧
    (((refC S c).1 = 0 ∧ (refC S c).2.1 = 0 ∧ ∀ v ∈ c, litV S v ≠ 0) ∨ ((refC S c).1 = 1 ∧ (refC S c).2.1 ∈ c ∧ litV S (refC S c).2.1 = 0 ∧ ∀ v ∈ c, litV S v = 0 → v = (refC S c).2.1) ∨
      (2 ≤ (refC S c).1 ∧ (refC S c).1 ≤ c.length ∧ (refC S c).2.1 ∈ c ∧ ∃ a ∈ c, ∃ b ∈ c, a ≠ b ∧ litV S a = 0 ∧ litV S b = 0)) := by
  induction c using list_snoc with
  | h0 => exact ⟨by simp [refC], .inl ⟨rfl, rfl, by intro v hv; cases hv⟩⟩
  | h1 c v ih =>
    obtain ⟨i1, i2⟩ := ih fun x hx => h0 x (List.mem_append_left _ hx)
    have hv := h0 v (by simp)
    obtain ⟨l0, l1, l2⟩ := hS.lit hv
    rw [refC_snoc]
    generalize refC S c = p at *
    obtain ⟨p1, p2, p3⟩ := p
    simp only at i1 i2
    unfold ref1
    simp only
    by_cases c1 : S.getD v.natAbs 0 = 0 ∧ v ≠ p2
    · rw [if_pos c1]
      have hz := l0.mpr c1.1
      refine ⟨?_, ?_⟩
      · show p3 = true ↔ _
        rw [i1]
        constructor
        · rintro ⟨x, hx, e⟩; exact ⟨x, List.mem_append_left _ hx, e⟩
        · rintro ⟨x, hx, e⟩
          rcases List.mem_append.mp hx with hx | hx
          · exact ⟨x, hx, e⟩
          · rw [List.mem_singleton] at hx; rw [hx] at e; omega
      · simp only
        rcases i2 with ⟨q1, q2, q3⟩ | ⟨q1, q2, q3, q4⟩ | ⟨q1, q1', q2, a, ha, b, hb, q3, q4, q5⟩
        · right; left
          refine ⟨by omega, by simp, hz, fun x hx e => ?_⟩
          rcases List.mem_append.mp hx with hx | hx
          · exact absurd e (q3 x hx)
          · exact List.mem_singleton.mp hx
        · right; right
          have hl := List.length_pos_of_mem q2
          exact ⟨by omega, by rw [List.length_append]; simp; omega, by simp, p2, List.mem_append_left _ q2, v, by simp, fun e => c1.2 e.symm, q3, hz⟩
        · right; right
          exact ⟨by omega, by rw [List.length_append]; simp; omega, by simp, a, List.mem_append_left _ ha, b, List.mem_append_left _ hb, q3, q4, q5⟩
    · rw [if_neg c1]
      refine ⟨?_, ?_⟩
      · simp only [Bool.or_eq_true, Bool.and_eq_true, decide_eq_true_eq]
        rw [i1]
        constructor
        · rintro (⟨x, hx, e⟩ | e)
          · exact ⟨x, List.mem_append_left _ hx, e⟩
          · exact ⟨v, by simp, l1.mpr e⟩
        · rintro ⟨x, hx, e⟩
          rcases List.mem_append.mp hx with hx | hx
          · exact .inl ⟨x, hx, e⟩
          · rw [List.mem_singleton] at hx; rw [hx] at e; exact .inr (l1.mp e)
      · simp only
        have hzv : litV S v = 0 → v = p2 := fun e => by
          apply Classical.byContradiction; intro hne; exact c1 ⟨l0.mp e, hne⟩
        rcases i2 with ⟨q1, q2, q3⟩ | ⟨q1, q2, q3, q4⟩ | ⟨q1, q1', q2, a, ha, b, hb, q3, q4, q5⟩
        · left
          refine ⟨q1, q2, fun x hx e => ?_⟩
          rcases List.mem_append.mp hx with hx | hx
          · exact q3 x hx e
          · rw [List.mem_singleton] at hx; rw [hx] at e; exact hv ((hzv e).trans q2)
        · right; left
          refine ⟨q1, List.mem_append_left _ q2, q3, fun x hx e => ?_⟩
          rcases List.mem_append.mp hx with hx | hx
          · exact q4 x hx e
          · rw [List.mem_singleton] at hx; rw [hx] at e ⊢; exact hzv e
        · right; right
          exact ⟨q1, by rw [List.length_append]; simp; omega, List.mem_append_left _ q2, a, List.mem_append_left _ ha, b, List.mem_append_left _ hb, q3, q4, q5⟩
theorem count_set {S : List Int} {j : Nat} {x : Int} (h : S[j]? = some 0) (hx : x ≠ 0) : (S.set j x).count 0 + 1 = S.count 0 := by
  induction S generalizing j with
  | nil => simp at h
  | cons a S ih =>
    cases j with
    | zero => simp at h; subst h; simp [hx]
    | succ j =>
      rw [List.set_cons_succ, List.count_cons, List.count_cons, ← ih (by simpa using h)]; omega
/-- What the document's values come from. -/
structure Drv (C : List (List Int)) (k : Nat) (S : List Int) : Prop where
  vals : Vals k S
  der : ∀ x : Int, x ≠ 0 → x.natAbs ≤ k → litV S x = 1 → Der C x
theorem getD_set (S : List Int) (j m : Nat) (x : Int) (hj : j < S.length) : (S.set j x).getD m 0 = if m = j then x else S.getD m 0 := by
  rw [List.getD_eq_getElem?_getD, List.getElem?_set, List.getD_eq_getElem?_getD]
  by_cases e : j = m
  · subst e; rw [if_pos rfl, if_pos hj, if_pos rfl]; rfl
  · rw [if_neg e, if_neg fun h => e h.symm]
theorem stepR_spec {C : List (List Int)} {k : Nat} {S : List Int} (hS : Drv C k S) {c : List Int} (hc : c ∈ C) (hr : ∀ v ∈ c, v ≠ 0 ∧ v.natAbs ≤ k) :
    Drv C k (stepR S c) ∧ (stepR S c = S ∨ (stepR S c).count 0 + 1 = S.count 0) := by
  obtain ⟨h1, h2⟩ := refC_spec hS.vals c fun v hv => (hr v hv).1
  unfold stepR
  by_cases c1 : (refC S c).2.2 = false ∧ (refC S c).1 = 1
  rotate_left
  · rw [if_neg c1]; exact ⟨hS, .inl rfl⟩
  rw [if_pos c1]
  obtain ⟨hu, hz, hall⟩ : (refC S c).2.1 ∈ c ∧ litV S (refC S c).2.1 = 0 ∧ ∀ v ∈ c, litV S v = 0 → v = (refC S c).2.1 := by
    rcases h2 with ⟨q, _⟩ | ⟨_, q⟩ | ⟨q, _⟩
    · omega
    · exact q
    · omega
  have hno : ¬ ∃ v ∈ c, litV S v = 1 := fun h => by have := h1.mpr h; rw [c1.1] at this; cases this
  generalize (refC S c).2.1 = u at *
  have hur := hr u hu
  have hlen := hS.vals.len
  have hj : u.natAbs < S.length := by omega
  have hz0 := (hS.vals.lit hur.1).1.mp hz
  have hz1 : S[u.natAbs]? = some 0 := by
    rw [List.getD_eq_getElem?_getD, List.getElem?_eq_getElem hj] at hz0
    rw [List.getElem?_eq_getElem hj]; exact congrArg some hz0
  have hvals : Vals k (S.set u.natAbs (if u < 0 then -1 else 1)) := by
    refine ⟨by rw [List.length_set]; exact hlen, fun v hv => ?_, ?_⟩
    · rcases List.mem_or_eq_of_mem_set hv with hv | hv
      · exact hS.vals.vb v hv
      · rw [hv]; split <;> omega
    · rw [getD_set _ _ _ _ hj, if_neg (by omega)]; exact hS.vals.z
  refine ⟨⟨hvals, fun x h0 hn e => ?_⟩, .inr (count_set hz1 (by split <;> omega))⟩
  by_cases ex : x.natAbs = u.natAbs
  · have : x = u := by
      rcases Int.natAbs_eq_natAbs_iff.mp ex with e2 | e2
      · exact e2
      · exfalso
        subst e2
        unfold litV at e
        rw [getD_set _ _ _ _ hj, if_pos ex] at e
        split at e <;> split at e <;> omega
    subst this
    refine .step c x hc hu fun y hy hne => ?_
    have hyr := hr y hy
    refine hS.der (-y) (by omega) (by omega) ?_
    rw [litV_neg _ hyr.1]
    have h3 : litV S y ≠ 0 := fun e => hne (hall y hy e)
    have h4 : litV S y ≠ 1 := fun e => hno ⟨y, hy, e⟩
    have h5 := hS.vals.at y.natAbs
    have h6 : -1 ≤ litV S y ∧ litV S y ≤ 1 := by unfold litV; split <;> omega
    omega
  · refine hS.der x h0 hn ?_
    unfold litV at e ⊢
    rw [getD_set _ _ _ _ hj, if_neg ex] at e
    exact e
theorem roundR_spec {C : List (List Int)} {k : Nat} (hr : ∀ c ∈ C, ∀ v ∈ c, v ≠ 0 ∧ v.natAbs ≤ k) : ∀ (D : List (List Int)), (∀ c ∈ D, c ∈ C) → ∀ (S : List Int), Drv C k S → Drv C k (roundR S D) ∧ ((roundR S D = S ∧ ∀ c ∈ D, stepR S c = S) ∨ (roundR S D).count 0 + 1 ≤ S.count 0) := by
  intro D
  induction D with
  | nil => intro _ S hS; exact ⟨hS, .inl ⟨rfl, by intro c hc; cases hc⟩⟩
  | cons c D ih =>
    intro hD S hS
    have hc := hD c List.mem_cons_self
    obtain ⟨s1, s2⟩ := stepR_spec hS hc (hr c hc)
    obtain ⟨i1, i2⟩ := ih (fun d hd => hD d (List.mem_cons_of_mem _ hd)) (stepR S c) s1
    show Drv C k (roundR (stepR S c) D) ∧ ((roundR (stepR S c) D = S ∧ _) ∨ (roundR (stepR S c) D).count 0 + 1 ≤ S.count 0)
    refine ⟨i1, ?_⟩
    rcases s2 with s2 | s2
    · rw [s2] at i1 i2 ⊢
      rcases i2 with ⟨j1, j2⟩ | j
      · left
        refine ⟨j1, fun d hd => ?_⟩
        rcases List.mem_cons.mp hd with rfl | hd
        · exact s2
        · exact j2 d hd
      · exact .inr j
    · right
      rcases i2 with ⟨j1, j2⟩ | j
      · rw [j1]; omega
      · omega
def S0 (k : Nat) : List Int := List.replicate (k + 1) 0
def refS (C : List (List Int)) (k : Nat) : List Int := iterR C (S0 k) (k + 1)
theorem S0_drv (C : List (List Int)) (k : Nat) : Drv C k (S0 k) := by
  have hz : ∀ j, (S0 k).getD j 0 = 0 := fun j => by
    rw [List.getD_eq_getElem?_getD]
    show ((List.replicate (k + 1) (0 : Int))[j]?).getD 0 = 0
    rw [List.getElem?_replicate]
    split <;> rfl
  refine ⟨⟨by simp [S0], fun v hv => ?_, hz 0⟩, fun x _ _ e => ?_⟩
  · have := List.eq_of_mem_replicate (show v ∈ List.replicate (k + 1) (0 : Int) from hv); omega
  · unfold litV at e; rw [hz] at e; split at e <;> omega
section
variable {C : List (List Int)} {k : Nat} (hr : ∀ c ∈ C, ∀ v ∈ c, v ≠ 0 ∧ v.natAbs ≤ k)
include hr
theorem iterR_drv (m : Nat) : Drv C k (iterR C (S0 k) m) := by
  induction m with
  | zero => exact S0_drv C k
  | succ m ih => exact (roundR_spec hr C (fun _ h => h) _ ih).1
theorem iterR_fix (m : Nat) : (∀ c ∈ C, stepR (iterR C (S0 k) m) c = iterR C (S0 k) m) ∨ (iterR C (S0 k) m).count 0 + m ≤ k + 1 := by
  induction m with
  | zero => right; show (List.replicate (k + 1) (0 : Int)).count 0 + 0 ≤ k + 1; rw [List.count_replicate_self]; omega
  | succ m ih =>
    have h := (roundR_spec hr C (fun _ h => h) _ (iterR_drv hr m)).2
    show (∀ c ∈ C, stepR (roundR (iterR C (S0 k) m) C) c = roundR (iterR C (S0 k) m) C) ∨ (roundR (iterR C (S0 k) m) C).count 0 + (m + 1) ≤ k + 1
    rcases h with ⟨h1, h2⟩ | h
    · left; rw [h1]; exact h2
    · rcases ih with ih | ih
      · left
        have : roundR (iterR C (S0 k) m) C = iterR C (S0 k) m := by
          have key : ∀ (D : List (List Int)), (∀ c ∈ D, stepR (iterR C (S0 k) m) c = iterR C (S0 k) m) → roundR (iterR C (S0 k) m) D = iterR C (S0 k) m := by
            intro D
            induction D with
            | nil => intro _; rfl
            | cons c D ih2 => intro hD; show roundR (stepR _ c) D = _; rw [hD c List.mem_cons_self]; exact ih2 fun d hd => hD d (List.mem_cons_of_mem _ hd)
          exact key C ih
        rw [this]; exact ih
      · right; omega
theorem refS_fix : ∀ c ∈ C, stepR (refS C k) c = refS C k := by
  rcases iterR_fix hr (k + 1) with h | h
  · exact h
  · exfalso
    have hd := (iterR_drv hr (k + 1)).vals
    have h0 : (iterR C (S0 k) (k + 1)).count 0 = 0 := by omega
    have h1 : (0 : Int) ∉ iterR C (S0 k) (k + 1) := List.count_eq_zero.mp h0
    have hl : 0 < (iterR C (S0 k) (k + 1)).length := by rw [hd.len]; omega
    have hz := hd.z
    rw [List.getD_eq_getElem?_getD, List.getElem?_eq_getElem hl] at hz
    apply h1
    have : (iterR C (S0 k) (k + 1))[0] = 0 := hz
    rw [← this]; exact List.getElem_mem hl
def lostS (S : List Int) (c : List Int) : Prop := ∀ v ∈ c, litV S v = -1
omit hr in
theorem lost_contra (hr : ∀ c ∈ C, ∀ v ∈ c, v ≠ 0 ∧ v.natAbs ≤ k) {c : List Int} (hc : c ∈ C) (hl : lostS (refS C k) c) : Contra C := by
  refine ⟨c, hc, fun y hy => ?_⟩
  have := hr c hc y hy
  refine (iterR_drv hr (k + 1)).der (-y) (by omega) (by omega) ?_
  rw [litV_neg _ this.1]
  have := hl y hy
  unfold refS at this
  omega
theorem kept_der (hl : ∀ c ∈ C, ¬ lostS (refS C k) c) {x : Int} (d : Der C x) : litV (refS C k) x = 1 := by
  have hd := iterR_drv hr (k + 1)
  have hfix := refS_fix hr
  change Drv C k (refS C k) at hd
  induction d with
  | step c x hc hx hy ih =>
    have hcr := hr c hc
    have hoth : ∀ y ∈ c, y ≠ x → litV (refS C k) y = -1 := fun y hym hne => by
      have := ih y hym hne
      rw [litV_neg _ (hcr y hym).1] at this; omega
    obtain ⟨s1, s2⟩ := refC_spec hd.vals c fun v hv => (hcr v hv).1
    have hb : -1 ≤ litV (refS C k) x ∧ litV (refS C k) x ≤ 1 := by have := hd.vals.at x.natAbs; unfold litV; split <;> omega
    have hne1 : litV (refS C k) x ≠ -1 := fun e => hl c hc fun y hym => by
      by_cases e2 : y = x
      · rw [e2]; exact e
      · exact hoth y hym e2
    by_cases h0 : litV (refS C k) x = 0
    · exfalso
      have hf := hfix c hc
      have hdn : (refC (refS C k) c).2.2 = false := by
        rw [Bool.eq_false_iff]; intro h
        obtain ⟨v, hv, e⟩ := s1.mp h
        by_cases e2 : v = x
        · rw [e2] at e; omega
        · have := hoth v hv e2; omega
      obtain ⟨hle, hwh⟩ : (refC (refS C k) c).1 = 1 ∧ (refC (refS C k) c).2.1 = x := by
        rcases s2 with ⟨_, _, q⟩ | ⟨q1, _, _, q4⟩ | ⟨_, _, _, a, ha, b, hb, q3, q4, q5⟩
        · exact absurd h0 (q x hx)
        · exact ⟨q1, (q4 x hx h0).symm⟩
        · exfalso
          have ea : a = x := by apply Classical.byContradiction; intro e; have := hoth a ha e; omega
          have eb : b = x := by apply Classical.byContradiction; intro e; have := hoth b hb e; omega
          exact q3 (ea.trans eb.symm)
      unfold stepR at hf
      rw [if_pos ⟨hdn, hle⟩, hwh] at hf
      have hj : x.natAbs < (refS C k).length := by rw [hd.vals.len]; have := (hcr x hx).2; omega
      have hg := getD_set (refS C k) x.natAbs x.natAbs (if x < 0 then -1 else 1) hj
      rw [hf, if_pos rfl] at hg
      have := ((hd.vals.lit (hcr x hx).1).1.mp h0)
      rw [hg] at this
      split at this <;> omega
    · omega
theorem kept_no (hl : ∀ c ∈ C, ¬ lostS (refS C k) c) : ¬ Contra C := by
  rintro ⟨c, hc, hy⟩
  apply hl c hc
  intro y hym
  have := kept_der hr hl (hy y hym)
  rw [litV_neg _ (hr c hc y hym).1] at this; omega
end
theorem countL_range (k : Nat) (l : List (List Int)) : ∀ c ∈ countL k l, ∀ v ∈ c, v ≠ 0 ∧ v.natAbs ≤ k := by
  intro c hc v hv
  obtain ⟨d, _, rfl⟩ := List.mem_map.mp hc
  have := (List.mem_filter.mp hv).2
  unfold okV at this
  rw [decide_eq_true_eq] at this
  omega
theorem count_known (k : Nat) (l : List (List Int)) : (∀ c ∈ countL k l, ∃ c' ∈ l.map (knownL k), ∀ x, x ∈ c ↔ x ∈ c') ∧ (∀ c ∈ l.map (knownL k), ∃ c' ∈ countL k l, ∀ x, x ∈ c ↔ x ∈ c') := by
  have key : ∀ (d : List Int) (x : Int), x ∈ d.filter (okV k) ↔ x ∈ knownL k d := fun d x => by
    rw [List.mem_filter, knownL_mem]
    unfold okV
    rw [decide_eq_true_eq]
    constructor
    · rintro ⟨h1, h2, h3, h4⟩; exact ⟨h1, h2, by omega⟩
    · rintro ⟨h1, h2, h3⟩; exact ⟨h1, h2, by omega, by omega⟩
  refine ⟨fun c hc => ?_, fun c hc => ?_⟩
  · obtain ⟨d, hd, rfl⟩ := List.mem_map.mp hc
    exact ⟨_, List.mem_map_of_mem hd, key d⟩
  · obtain ⟨d, hd, rfl⟩ := List.mem_map.mp hc
    exact ⟨_, List.mem_map_of_mem hd, fun x => (key d x).symm⟩
/-! ### In order -/
/-- The values as literals, in order. -/
def refL (S : List Int) : Nat → List Int
  | 0 => []
  | k + 1 => if S.getD (k + 1) 0 = 0 then refL S k else refL S k ++ [((k + 1 : Nat) : Int) * S.getD (k + 1) 0]
theorem refL_mem {k : Nat} {S : List Int} (hS : Vals k S) (m : Nat) (x : Int) : x ∈ refL S m ↔ x ≠ 0 ∧ x.natAbs ≤ m ∧ litV S x = 1 := by
  induction m with
  | zero => simp [refL]; intro h h2; omega
  | succ m ih =>
    have hb := hS.at (m + 1)
    have hx1 : x.natAbs = m + 1 → (litV S x = 1 ↔ x = ((m + 1 : Nat) : Int) * S.getD (m + 1) 0 ∧ S.getD (m + 1) 0 ≠ 0) := fun e => by
      unfold litV
      rw [e]
      obtain h | h | h : S.getD (m + 1) 0 = -1 ∨ S.getD (m + 1) 0 = 0 ∨ S.getD (m + 1) 0 = 1 := by omega
      · rw [h]; split <;> omega
      · rw [h]; split <;> omega
      · rw [h]; split <;> omega
    unfold refL
    split
    · rename_i h0
      rw [ih]
      constructor
      · rintro ⟨h1, h2, h3⟩; exact ⟨h1, by omega, h3⟩
      · rintro ⟨h1, h2, h3⟩
        refine ⟨h1, ?_, h3⟩
        by_cases e : x.natAbs = m + 1
        · exact absurd h0 ((hx1 e).mp h3).2
        · omega
    · rename_i h0
      rw [List.mem_append, List.mem_singleton, ih]
      constructor
      · rintro (⟨h1, h2, h3⟩ | h)
        · exact ⟨h1, by omega, h3⟩
        · have e : x.natAbs = m + 1 := by
            obtain h' | h' : S.getD (m + 1) 0 = -1 ∨ S.getD (m + 1) 0 = 1 := by omega
            · rw [h'] at h; omega
            · rw [h'] at h; omega
          exact ⟨by omega, by omega, (hx1 e).mpr ⟨h, h0⟩⟩
      · rintro ⟨h1, h2, h3⟩
        by_cases e : x.natAbs = m + 1
        · exact .inr ((hx1 e).mp h3).1
        · exact .inl ⟨h1, by omega, h3⟩
theorem refL_sorted {k : Nat} {S : List Int} (hS : Vals k S) (m : Nat) : (refL S m).Pairwise fun a b => a.natAbs < b.natAbs := by
  induction m with
  | zero => exact List.Pairwise.nil
  | succ m ih =>
    unfold refL
    split
    · exact ih
    · rename_i h0
      refine List.pairwise_append.mpr ⟨ih, by simp, fun a ha b hb => ?_⟩
      rw [List.mem_singleton] at hb
      have h1 := ((refL_mem hS m a).mp ha).2.1
      have hb' := hS.at (m + 1)
      obtain h' | h' : S.getD (m + 1) 0 = -1 ∨ S.getD (m + 1) 0 = 1 := by omega
      · rw [h'] at hb; omega
      · rw [h'] at hb; omega
theorem sorted_eq : ∀ {l m : List Int}, (l.Pairwise fun a b => a.natAbs < b.natAbs) → (m.Pairwise fun a b => a.natAbs < b.natAbs) → (∀ x, x ∈ l ↔ x ∈ m) → l = m
  | [], [], _, _, _ => rfl
  | [], b :: m, _, _, h => by have := (h b).mpr List.mem_cons_self; cases this
  | a :: l, [], _, _, h => by have := (h a).mp List.mem_cons_self; cases this
  | a :: l, b :: m, hl, hm, h => by
    have hl' := List.pairwise_cons.mp hl
    have hm' := List.pairwise_cons.mp hm
    have e : a = b := by
      rcases List.mem_cons.mp ((h a).mp List.mem_cons_self) with e | e
      · exact e
      · rcases List.mem_cons.mp ((h b).mpr List.mem_cons_self) with e2 | e2
        · exact e2.symm
        · have h1 := hm'.1 a e; have h2 := hl'.1 b e2; omega
    subst e
    rw [sorted_eq hl'.2 hm'.2 fun x => ?_]
    constructor
    · intro hx
      rcases List.mem_cons.mp ((h x).mp (List.mem_cons_of_mem _ hx)) with e | e
      · subst e; have := hl'.1 x hx; omega
      · exact e
    · intro hx
      rcases List.mem_cons.mp ((h x).mpr (List.mem_cons_of_mem _ hx)) with e | e
      · subst e; have := hm'.1 x hx; omega
      · exact e
end Go.Vm
namespace Go.Proofs.Ytggeadnjikpjnaa
open Go Go.Vm
theorem sortI_sorted {l : List Int} (h : (l.map Int.natAbs).Nodup) : (sortI l).Pairwise fun a b => a.natAbs < b.natAbs := by
  have h1 : (sortI l).Pairwise fun a b => (decide (a.natAbs ≤ b.natAbs)) = true := List.pairwise_mergeSort (le := fun a b : Int => decide (a.natAbs ≤ b.natAbs)) (by intro a b c; simp; omega) (by intro a b; simp; omega) l
  have h2 : ((sortI l).map Int.natAbs).Nodup := ((sortI_perm l).map _).nodup_iff.mpr h
  unfold List.Nodup at h2
  rw [List.pairwise_map] at h2
  refine (h1.and h2).imp ?_
  intro a b h
  have := of_decide_eq_true h.1
  have h3 := h.2
  omega
end Go.Proofs.Ytggeadnjikpjnaa
namespace Go.Vm
set_option linter.unusedVariables false
theorem refL_pre (S : List Int) (m : Nat) : ∀ k, m ≤ k → refL S m <+: refL S k := by
  intro k
  induction k with
  | zero => intro h; have : m = 0 := by omega
            subst this; exact List.prefix_refl _
  | succ k ih =>
    intro h
    by_cases e : m = k + 1
    · subst e; exact List.prefix_refl _
    · refine List.IsPrefix.trans (ih (by omega)) ?_
      rw [refL]
      split
      · exact List.prefix_refl _
      · exact List.prefix_append _ _
theorem refL_len (S : List Int) (m : Nat) : (refL S m).length ≤ m := by
  induction m with
  | zero => exact Nat.le_refl _
  | succ m ih =>
    rw [refL]
    split
    · omega
    · rw [List.length_append, List.length_singleton]; omega
theorem tsR_ia {m : List (List Int)} (hm : m.length ≤ limit) (hc : ∀ c ∈ m, c.length ≤ limit) {i : Nat} (hi : i < m.length) (t : St) : viaddr 1 (tsR m) (.int .i64 (i : Int)) t = .ok (elp (tsR m) i) t := by
  have := (tsR_rows t m hm hc).ia hi 1 .i64 t
  rw [Nat.mul_one] at this; exact this
theorem tsR_ld {m : List (List Int)} {i : Nat} (hi : i < m.length) (t : St) : vload false 1 (elp (tsR m) i) t = .ok (tsN m[i]) t := by
  have hne : m ≠ [] := by intro e; subst e; simp at hi
  unfold tsR
  rw [if_neg hne]
  show wrap1 false 1 ((m.map tsN).drop i) t = _
  rw [List.drop_eq_getElem_cons (by rw [List.length_map]; exact hi), List.getElem_map, wrap1_one]
theorem tsR_len {m : List (List Int)} (hm : m.length ≤ limit) (hc : ∀ c ∈ m, c.length ≤ limit) (t : St) : vlen (tsR m) t = .ok (.int .i64 (m.length : Int)) t := (tsR_rows t m hm hc).vlen t
theorem getD_at {S : List Int} {j : Nat} (h : j < S.length) : (S.map (AV.int .i64))[j]? = some (.int .i64 (S.getD j 0)) := by
  rw [List.getElem?_map, List.getElem?_eq_getElem h, List.getD_eq_getElem?_getD, List.getElem?_eq_getElem h]; rfl
end Go.Vm
namespace Go.Proofs.Ytggeadnjikpjnaa
open Go Go.Vm
set_option linter.unusedVariables false
set_option linter.unusedSimpArgs false
theorem units_true (s : St) (hr : Room s) {v : AV} {l : List (List Int)} (hv : Rows2 s v l) (hi64 : ∀ c ∈ l, I64 c) (n : Nat) (hn8 : n ≤ 255) : CA F.law18_SatUnits [v, .int .u8 (n : Int)] s = .ok (.bool true) s := by
  have fk := law_known s
  have ff := few_ok s hv
  have ek : IntKind.wrap .i64 ((n : Int).tmod 20) = ((n % 20 : Nat) : Int) := by
    have e : ((n : Int).tmod 20) = ((n % 20 : Nat) : Int) := rfl
    rw [e, wrap_i64 (by omega) (by omega)]
  have erem : vbin .rem (.int .u8 (n : Int)) (.int .u8 20) s = .ok (.int .u8 ((n : Int).tmod 20)) s := vbin_rem s .u8 (n : Int) 20 (by decide)
  cases hf : fewB l with
  | false =>
    rw [hf] at ff
    refine fn_of code_law18_SatUnits (by simp) ?_
    simp only [go_sem, ↓reduceIte, Nat.reduceMod, Nat.reduceEqDiff, Nat.reduceAdd, Nat.reduceMul, Nat.reduceSub, Nat.reduceLeDiff, Nat.reduceLT, Int.reduceEq, Int.reduceLT, Int.reduceLE, Int.reduceAdd, Int.reduceSub, Int.reduceNeg, reduceCtorEq, Nat.reduceShiftRight, Nat.reduceAnd, Nat.reduceBNe, Sx_nil, fk, Bool.not_true, erem, ek, ff, Bool.not_false]
    exact settled_bool (Ext.refl s) rfl
  | true =>
    rw [hf] at ff
    obtain ⟨hf1, hf2⟩ : (∀ c ∈ l, c.length ≤ 8) ∧ l.length ≤ 40 := by
      unfold fewB at hf
      rw [Bool.and_eq_true, decide_eq_true_eq, List.all_eq_true] at hf
      exact ⟨fun c hc => by have := hf.1 c hc; simpa using this, hf.2⟩
    generalize hk : n % 20 = k at *
    have hk20 : k < 20 := by omega
    have fc := count_ok s hr hv hi64 (n := k) (by omega) (by omega) (fun c hc => by have := hf1 c hc; omega)
    have hCl : (countL k l).length ≤ 40 := by rw [countL_len]; exact hf2
    have hCc : ∀ c ∈ countL k l, c.length ≤ 8 := fun c hc => by
      obtain ⟨d, hd, rfl⟩ := List.mem_map.mp hc
      exact Nat.le_trans (List.length_filter_le _ _) (hf1 d hd)
    have hrg := countL_range k l
    obtain ⟨hm1, hm2⟩ := count_known k l
    generalize countL k l = C at *
    have hCl' : C.length ≤ limit := by unfold limit; omega
    have hCc' : ∀ c ∈ C, c.length ≤ limit := fun c hc => by have := hCc c hc; unfold limit; omega
    have ek1 : IntKind.wrap .i64 ((k : Int) + 1) = ((k + 1 : Nat) : Int) := by rw [wrap_i64 (by omega) (by omega)]; omega
    have fm := vmksl_eq (s := s) (L := []) hr (by simp) (bytes := 8) (j := .i64) (k := .i64) (l := k + 1) (c := k + 1) (a := .int .i64 0) (Nat.le_refl _) (by unfold limit; omega) (by unfold limit; omega)
    rw [show (List.replicate (k + 1) (AV.int .i64 0)) = (S0 k).map (.int .i64) by simp [S0]] at fm
    change vmksl 8 [.int .i64 0] (.int .i64 ((k + 1 : Nat) : Int)) (.int .i64 ((k + 1 : Nat) : Int)) s = .ok (.sl (nm s 0) 0 (k + 1) (k + 1) 0) (Sx s [.cells ((S0 k).map (.int .i64))]) at fm
    have hdrv := iterR_drv hrg
    refine fn_of code_law18_SatUnits (by simp) ?_
    simp only [go_sem, ↓reduceIte, Nat.reduceMod, Nat.reduceEqDiff, Nat.reduceAdd, Nat.reduceMul, Nat.reduceSub, Nat.reduceLeDiff, Nat.reduceLT, Int.reduceEq, Int.reduceLT, Int.reduceLE, Int.reduceAdd, Int.reduceSub, Int.reduceNeg, reduceCtorEq, Nat.reduceShiftRight, Nat.reduceAnd, Nat.reduceBNe, Sx_nil, fk, Bool.not_true, erem, ek, ff, fc, ek1, fm]
    have hia : ∀ {j : Nat} (h : j ≤ k) (t : St), viaddr 1 (.sl (nm s 0) 0 (k + 1) (k + 1) 0) (.int .i64 (j : Int)) t = .ok (.ptr (nm s 0) j) t := fun {j} h t => by
      have := viaddr_sl (k := .i64) (b := nm s 0) (o := 0) (len := k + 1) (cap := k + 1) (ex := 0) (i := j) (by omega) t
      rw [Nat.zero_add] at this; exact this
    have hob : ∀ S : List Int, (Sx s [.cells (S.map (.int .i64))]).obj (nm s 0) = .cells (S.map (.int .i64)) := fun S => Sx_obj? hr (by simp) (i := 0) rfl
    have hst : ∀ (S : List Int) (m : Nat) (x : Int), S.length = k + 1 → m ≤ k → vstore 1 (.ptr (nm s 0) m) (.int .i64 x) (Sx s [.cells (S.map (.int .i64))]) = .ok Vm.undef (Sx s [.cells ((S.set m x).map (.int .i64))]) := fun S m x hl hm => by
      rw [vstore_el (hob S) rfl (by rw [List.length_map]; omega), Sx_put hr (by simp) (by simp), List.map_set]; rfl
    refine W_inv (fun q f τ => ∃ (r : Nat), q = k + 1 - r ∧ r ≤ k + 1 ∧ τ = Sx s [.cells ((iterR C (S0 k) r).map (.int .i64))] ∧ (vv 0).get f = v ∧ (vv 5).get f = .int .i64 (k : Int) ∧ (vv 6).get f = tsR C ∧ (vv 7).get f = .sl (nm s 0) 0 (k + 1) (k + 1) 0 ∧ (vv 8).get f = .int .i64 (r : Int)) ?_ ⟨0, rfl, by omega, rfl, ?_⟩
    · rintro q f τ ⟨r, rfl, hrk, rfl, g0, g5, g6, g7, g8⟩
      by_cases c1 : (r : Int) ≤ (k : Int)
      · -- one round
        simp only [go_sem, ↓reduceIte, Nat.reduceMod, Nat.reduceEqDiff, Nat.reduceAdd, Nat.reduceMul, Nat.reduceSub, Nat.reduceLeDiff, Nat.reduceLT, Int.reduceEq, Int.reduceLT, Int.reduceLE, Int.reduceAdd, Int.reduceSub, Int.reduceNeg, reduceCtorEq, Nat.reduceShiftRight, Nat.reduceAnd, Nat.reduceBNe, g0, g5, g6, g7, g8, c1]
        refine W_inv (fun q f τ => ∃ (i : Nat), q = C.length - i ∧ i ≤ C.length ∧ τ = Sx s [.cells ((roundR (iterR C (S0 k) r) (C.take i)).map (.int .i64))] ∧ (vv 0).get f = v ∧ (vv 5).get f = .int .i64 (k : Int) ∧ (vv 6).get f = tsR C ∧ (vv 7).get f = .sl (nm s 0) 0 (k + 1) (k + 1) 0 ∧ (vv 8).get f = .int .i64 (r : Int) ∧ (vv 9).get f = .int .i64 (i : Int)) ?_ ⟨0, rfl, by omega, rfl, ?_⟩
        · rintro q f τ ⟨i, rfl, hi, rfl, g0, g5, g6, g7, g8, g9⟩
          by_cases c2 : i < C.length
          rotate_left
          · have e : i = C.length := by omega
            subst e
            simp only [go_sem, ↓reduceIte, Nat.reduceMod, Nat.reduceEqDiff, Nat.reduceAdd, Nat.reduceMul, Nat.reduceSub, Nat.reduceLeDiff, Nat.reduceLT, Int.reduceEq, Int.reduceLT, Int.reduceLE, Int.reduceAdd, Int.reduceSub, Int.reduceNeg, reduceCtorEq, Nat.reduceShiftRight, Nat.reduceAnd, Nat.reduceBNe, g0, g5, g6, g7, g8, g9, tsR_len hCl' hCc', Int.ofNat_lt, c2, List.take_length]
            refine ⟨k + 1 - (r + 1), by omega, r + 1, rfl, by omega, rfl, ?_⟩
            rw [wrap_i64 (by omega) (by omega)]; simp
          · have hcm := List.getElem_mem c2
            have hcl := hCc _ hcm
            have hcr := hrg _ hcm
            have hd : Drv C k (roundR (iterR C (S0 k) r) (C.take i)) := (roundR_spec hrg (C.take i) (fun d hd => List.mem_of_mem_take hd) _ (hdrv r)).1
            have et : C.take (i + 1) = C.take i ++ [C[i]] := (List.take_append_getElem c2).symm
            have er : roundR (iterR C (S0 k) r) (C.take (i + 1)) = stepR (roundR (iterR C (S0 k) r) (C.take i)) C[i] := by rw [et]; unfold roundR; rw [List.foldl_append]; rfl
            obtain ⟨S, hS⟩ : ∃ S, S = roundR (iterR C (S0 k) r) (C.take i) := ⟨_, rfl⟩
            rw [← hS] at hd er ⊢
            have hsl := hd.vals.len
            have hci := fun t => tsN_ints t C[i] (hCc' _ hcm)
            have spec := refC_spec hd.vals C[i] fun v hv => (hcr v hv).1
            simp only [go_sem, ↓reduceIte, Nat.reduceMod, Nat.reduceEqDiff, Nat.reduceAdd, Nat.reduceMul, Nat.reduceSub, Nat.reduceLeDiff, Nat.reduceLT, Int.reduceEq, Int.reduceLT, Int.reduceLE, Int.reduceAdd, Int.reduceSub, Int.reduceNeg, reduceCtorEq, Nat.reduceShiftRight, Nat.reduceAnd, Nat.reduceBNe, g0, g5, g6, g7, g8, g9, tsR_len hCl' hCc', Int.ofNat_lt, c2]
            refine W_inv (fun q f τ => ∃ (j : Nat), q = C[i].length - j ∧ j ≤ C[i].length ∧ τ = Sx s [.cells (S.map (.int .i64))] ∧ (vv 0).get f = v ∧ (vv 5).get f = .int .i64 (k : Int) ∧ (vv 6).get f = tsR C ∧ (vv 7).get f = .sl (nm s 0) 0 (k + 1) (k + 1) 0 ∧ (vv 8).get f = .int .i64 (r : Int) ∧ (vv 9).get f = .int .i64 (i : Int) ∧ (vv 10).get f = .int .i64 (refC S (C[i].take j)).1 ∧ (vv 11).get f = .int .i64 (refC S (C[i].take j)).2.1 ∧ (vv 12).get f = .bool (refC S (C[i].take j)).2.2 ∧ (vv 13).get f = .int .i64 (j : Int)) ?_ ⟨0, rfl, by omega, rfl, ?_⟩
            · rintro q f τ ⟨j, rfl, hj, rfl, g0, g5, g6, g7, g8, g9, g10, g11, g12, g13⟩
              by_cases c3 : j < C[i].length
              · have hxm := List.getElem_mem c3
                have hxr := hcr _ hxm
                have etj : C[i].take (j + 1) = C[i].take j ++ [C[i][j]] := (List.take_append_getElem c3).symm
                have es : refC S (C[i].take (j + 1)) = ref1 S (refC S (C[i].take j)) C[i][j] := by rw [etj, refC_snoc]
                have hp1 : 0 ≤ (refC S (C[i].take j)).1 ∧ (refC S (C[i].take j)).1 ≤ 8 := by
                  have := (refC_spec hd.vals (C[i].take j) fun v hv => (hcr v (List.mem_of_mem_take hv)).1).2
                  rw [List.length_take] at this
                  rcases this with ⟨q, _⟩ | ⟨q, _⟩ | ⟨q, q2, _⟩ <;> omega
                have ex1 := (hci (Sx s [.cells (S.map (.int .i64))])).i64 c3 (ext_self _)
                have ex2 := fun t => (hci t).ia c3 1 .i64 t
                generalize refC S (C[i].take j) = p at *
                obtain ⟨p1, p2, p3⟩ := p
                simp only at g10 g11 g12 hp1
                have ewn : IntKind.wrap .i64 (-C[i][j]) = -C[i][j] := wrap_i64 (by omega) (by omega)
                have emx : max C[i][j] (-C[i][j]) = ((C[i][j].natAbs : Nat) : Int) := by omega
                have eg := getD_at (S := S) (j := C[i][j].natAbs) (by omega)
                have ep : IntKind.wrap .i64 (p1 + 1) = p1 + 1 := wrap_i64 (by omega) (by omega)
                have ej : IntKind.wrap .i64 ((j : Int) + 1) = ((j + 1 : Nat) : Int) := by rw [wrap_i64 (by omega) (by omega)]; omega
                have vl := fun t => (hci t).vlen t
                simp only [Nat.mul_one] at ex2
                by_cases hs : S.getD C[i][j].natAbs 0 = 0
                · rw [hs] at eg
                  by_cases hw : C[i][j] = p2
                  · subst hw
                    have hr1 : ref1 S (p1, C[i][j], p3) C[i][j] = (p1, C[i][j], p3) := by unfold ref1; rw [hs]; simp
                    cases p3
                    · simp only [go_sem, ↓reduceIte, Nat.reduceMod, Nat.reduceEqDiff, Nat.reduceAdd, Nat.reduceMul, Nat.reduceSub, Nat.reduceLeDiff, Nat.reduceLT, Int.reduceEq, Int.reduceLT, Int.reduceLE, Int.reduceAdd, Int.reduceSub, Int.reduceNeg, reduceCtorEq, Nat.reduceShiftRight, Nat.reduceAnd, Nat.reduceBNe, g0, g5, g6, g7, g8, g9, g10, g11, g12, g13, tsR_ia hCl' hCc' c2, tsR_ld c2, vl, Int.ofNat_lt, c3, ex2, ex1, ewn, emx, hia hxr.2, hob, wrap1_at eg, ne_eq, not_true_eq_false, ej]
                      refine ⟨C[i].length - (j + 1), by omega, j + 1, rfl, by omega, ?_⟩
                      rw [es, hr1]; simp
                    · simp only [go_sem, ↓reduceIte, Nat.reduceMod, Nat.reduceEqDiff, Nat.reduceAdd, Nat.reduceMul, Nat.reduceSub, Nat.reduceLeDiff, Nat.reduceLT, Int.reduceEq, Int.reduceLT, Int.reduceLE, Int.reduceAdd, Int.reduceSub, Int.reduceNeg, reduceCtorEq, Nat.reduceShiftRight, Nat.reduceAnd, Nat.reduceBNe, g0, g5, g6, g7, g8, g9, g10, g11, g12, g13, tsR_ia hCl' hCc' c2, tsR_ld c2, vl, Int.ofNat_lt, c3, ex2, ex1, ewn, emx, hia hxr.2, hob, wrap1_at eg, ne_eq, not_true_eq_false, ej]
                      refine ⟨C[i].length - (j + 1), by omega, j + 1, rfl, by omega, ?_⟩
                      rw [es, hr1]; simp
                  · have hr1 : ref1 S (p1, p2, p3) C[i][j] = (p1 + 1, C[i][j], p3) := by unfold ref1; rw [hs]; simp [hw]
                    cases p3
                    · simp only [go_sem, ↓reduceIte, Nat.reduceMod, Nat.reduceEqDiff, Nat.reduceAdd, Nat.reduceMul, Nat.reduceSub, Nat.reduceLeDiff, Nat.reduceLT, Int.reduceEq, Int.reduceLT, Int.reduceLE, Int.reduceAdd, Int.reduceSub, Int.reduceNeg, reduceCtorEq, Nat.reduceShiftRight, Nat.reduceAnd, Nat.reduceBNe, g0, g5, g6, g7, g8, g9, g10, g11, g12, g13, tsR_ia hCl' hCc' c2, tsR_ld c2, vl, Int.ofNat_lt, c3, ex2, ex1, ewn, emx, hia hxr.2, hob, wrap1_at eg, ne_eq, not_true_eq_false, not_false_eq_true, hw, ep, ej]
                      refine ⟨C[i].length - (j + 1), by omega, j + 1, rfl, by omega, ?_⟩
                      rw [es, hr1]; simp
                    · simp only [go_sem, ↓reduceIte, Nat.reduceMod, Nat.reduceEqDiff, Nat.reduceAdd, Nat.reduceMul, Nat.reduceSub, Nat.reduceLeDiff, Nat.reduceLT, Int.reduceEq, Int.reduceLT, Int.reduceLE, Int.reduceAdd, Int.reduceSub, Int.reduceNeg, reduceCtorEq, Nat.reduceShiftRight, Nat.reduceAnd, Nat.reduceBNe, g0, g5, g6, g7, g8, g9, g10, g11, g12, g13, tsR_ia hCl' hCc' c2, tsR_ld c2, vl, Int.ofNat_lt, c3, ex2, ex1, ewn, emx, hia hxr.2, hob, wrap1_at eg, ne_eq, not_true_eq_false, not_false_eq_true, hw, ep, ej]
                      refine ⟨C[i].length - (j + 1), by omega, j + 1, rfl, by omega, ?_⟩
                      rw [es, hr1]; simp
                · have hr1 : ref1 S (p1, p2, p3) C[i][j] = (p1, p2, p3 || decide (decide (0 < S.getD C[i][j].natAbs 0) = decide (0 < C[i][j]))) := by unfold ref1; rw [if_neg (fun h => hs h.1), decide_eq_true (p := S.getD C[i][j].natAbs 0 ≠ 0) hs, Bool.true_and]
                  cases p3
                  · simp only [go_sem, ↓reduceIte, Nat.reduceMod, Nat.reduceEqDiff, Nat.reduceAdd, Nat.reduceMul, Nat.reduceSub, Nat.reduceLeDiff, Nat.reduceLT, Int.reduceEq, Int.reduceLT, Int.reduceLE, Int.reduceAdd, Int.reduceSub, Int.reduceNeg, reduceCtorEq, Nat.reduceShiftRight, Nat.reduceAnd, Nat.reduceBNe, g0, g5, g6, g7, g8, g9, g10, g11, g12, g13, tsR_ia hCl' hCc' c2, tsR_ld c2, vl, Int.ofNat_lt, c3, ex2, ex1, ewn, emx, hia hxr.2, hob, wrap1_at eg, ne_eq, hs, not_false_eq_true, ej]
                    refine ⟨C[i].length - (j + 1), by omega, j + 1, rfl, by omega, ?_⟩
                    rw [es, hr1]; simp
                  · simp only [go_sem, ↓reduceIte, Nat.reduceMod, Nat.reduceEqDiff, Nat.reduceAdd, Nat.reduceMul, Nat.reduceSub, Nat.reduceLeDiff, Nat.reduceLT, Int.reduceEq, Int.reduceLT, Int.reduceLE, Int.reduceAdd, Int.reduceSub, Int.reduceNeg, reduceCtorEq, Nat.reduceShiftRight, Nat.reduceAnd, Nat.reduceBNe, g0, g5, g6, g7, g8, g9, g10, g11, g12, g13, tsR_ia hCl' hCc' c2, tsR_ld c2, vl, Int.ofNat_lt, c3, ex2, ex1, ewn, emx, hia hxr.2, hob, wrap1_at eg, ne_eq, hs, not_false_eq_true, ej]
                    refine ⟨C[i].length - (j + 1), by omega, j + 1, rfl, by omega, ?_⟩
                    rw [es, hr1]; simp
              · have ej : j = C[i].length := by omega
                subst ej
                rw [List.take_length] at g10 g11 g12
                have ei : IntKind.wrap .i64 ((i : Int) + 1) = ((i + 1 : Nat) : Int) := by rw [wrap_i64 (by omega) (by omega)]; omega
                have hstep : stepR S C[i] = if (refC S C[i]).2.2 = false ∧ (refC S C[i]).1 = 1 then S.set (refC S C[i]).2.1.natAbs (if (refC S C[i]).2.1 < 0 then -1 else 1) else S := rfl
                have vl := fun t => (hci t).vlen t
                have hin : (refC S C[i]).1 = 1 → (refC S C[i]).2.1 ∈ C[i] := fun e => by
                  rcases spec.2 with ⟨q, _⟩ | ⟨_, q, _⟩ | ⟨q, _⟩
                  · omega
                  · exact q
                  · omega
                generalize refC S C[i] = p at *
                obtain ⟨p1, p2, p3⟩ := p
                simp only at g10 g11 g12 hin hstep
                cases p3 with
                | true =>
                  rw [if_neg (by simp)] at hstep
                  simp only [go_sem, ↓reduceIte, Nat.reduceMod, Nat.reduceEqDiff, Nat.reduceAdd, Nat.reduceMul, Nat.reduceSub, Nat.reduceLeDiff, Nat.reduceLT, Int.reduceEq, Int.reduceLT, Int.reduceLE, Int.reduceAdd, Int.reduceSub, Int.reduceNeg, reduceCtorEq, Nat.reduceShiftRight, Nat.reduceAnd, Nat.reduceBNe, g0, g5, g6, g7, g8, g9, g10, g11, g12, g13, tsR_ia hCl' hCc' c2, tsR_ld c2, vl, Int.ofNat_lt, c3, Bool.not_true, ei]
                  exact ⟨C.length - (i + 1), by omega, i + 1, rfl, by omega, by rw [er, hstep], rfl⟩
                | false =>
                  by_cases c4 : p1 = 1
                  · have hp2 := hcr p2 (hin c4)
                    rw [if_pos ⟨rfl, c4⟩] at hstep
                    have ewn : IntKind.wrap .i64 (-p2) = -p2 := wrap_i64 (by omega) (by omega)
                    have emx : max p2 (-p2) = ((p2.natAbs : Nat) : Int) := by omega
                    have s1 := hst S p2.natAbs 1 hsl hp2.2
                    by_cases c5 : p2 < 0
                    · rw [if_pos c5] at hstep
                      have s2 := hst (S.set p2.natAbs 1) p2.natAbs (-1) (by rw [List.length_set]; exact hsl) hp2.2
                      rw [List.set_set] at s2
                      have ena : -p2 = ((p2.natAbs : Nat) : Int) := by omega
                      simp only [go_sem, ↓reduceIte, Nat.reduceMod, Nat.reduceEqDiff, Nat.reduceAdd, Nat.reduceMul, Nat.reduceSub, Nat.reduceLeDiff, Nat.reduceLT, Int.reduceEq, Int.reduceLT, Int.reduceLE, Int.reduceAdd, Int.reduceSub, Int.reduceNeg, reduceCtorEq, Nat.reduceShiftRight, Nat.reduceAnd, Nat.reduceBNe, g0, g5, g6, g7, g8, g9, g10, g11, g12, g13, tsR_ia hCl' hCc' c2, tsR_ld c2, vl, Int.ofNat_lt, c3, Bool.not_false, ei, c4, ewn, emx, hia hp2.2, s1, c5]
                      rw [ena]
                      simp only [go_sem, ↓reduceIte, Nat.reduceMod, Nat.reduceEqDiff, Nat.reduceAdd, Nat.reduceMul, Nat.reduceSub, Nat.reduceLeDiff, Nat.reduceLT, Int.reduceEq, Int.reduceLT, Int.reduceLE, Int.reduceAdd, Int.reduceSub, Int.reduceNeg, reduceCtorEq, Nat.reduceShiftRight, Nat.reduceAnd, Nat.reduceBNe, hia hp2.2, s2, ei, g0, g5, g6, g7, g8, g9]
                      exact ⟨C.length - (i + 1), by omega, i + 1, rfl, by omega, by rw [er, hstep], rfl⟩
                    · rw [if_neg c5] at hstep
                      simp only [go_sem, ↓reduceIte, Nat.reduceMod, Nat.reduceEqDiff, Nat.reduceAdd, Nat.reduceMul, Nat.reduceSub, Nat.reduceLeDiff, Nat.reduceLT, Int.reduceEq, Int.reduceLT, Int.reduceLE, Int.reduceAdd, Int.reduceSub, Int.reduceNeg, reduceCtorEq, Nat.reduceShiftRight, Nat.reduceAnd, Nat.reduceBNe, g0, g5, g6, g7, g8, g9, g10, g11, g12, g13, tsR_ia hCl' hCc' c2, tsR_ld c2, vl, Int.ofNat_lt, c3, Bool.not_false, ei, c4, ewn, emx, hia hp2.2, s1, c5]
                      exact ⟨C.length - (i + 1), by omega, i + 1, rfl, by omega, by rw [er, hstep], rfl⟩
                  · rw [if_neg (fun h => c4 h.2)] at hstep
                    simp only [go_sem, ↓reduceIte, Nat.reduceMod, Nat.reduceEqDiff, Nat.reduceAdd, Nat.reduceMul, Nat.reduceSub, Nat.reduceLeDiff, Nat.reduceLT, Int.reduceEq, Int.reduceLT, Int.reduceLE, Int.reduceAdd, Int.reduceSub, Int.reduceNeg, reduceCtorEq, Nat.reduceShiftRight, Nat.reduceAnd, Nat.reduceBNe, g0, g5, g6, g7, g8, g9, g10, g11, g12, g13, tsR_ia hCl' hCc' c2, tsR_ld c2, vl, Int.ofNat_lt, c3, Bool.not_false, ei, c4]
                    exact ⟨C.length - (i + 1), by omega, i + 1, rfl, by omega, by rw [er, hstep], rfl⟩
            · simp only [go_sem, ↓reduceIte, Nat.reduceMod, Nat.reduceEqDiff, Nat.reduceAdd, Nat.reduceMul, Nat.reduceSub, Nat.reduceLeDiff, Nat.reduceLT, Int.reduceEq, Int.reduceLT, Int.reduceLE, Int.reduceAdd, Int.reduceSub, Int.reduceNeg, reduceCtorEq, Nat.reduceShiftRight, Nat.reduceAnd, Nat.reduceBNe, g0, g5, g6, g7, g8, g9]
              simp [refC]
        · simp only [go_sem, ↓reduceIte, Nat.reduceMod, Nat.reduceEqDiff, Nat.reduceAdd, Nat.reduceMul, Nat.reduceSub, Nat.reduceLeDiff, Nat.reduceLT, Int.reduceEq, Int.reduceLT, Int.reduceLE, Int.reduceAdd, Int.reduceSub, Int.reduceNeg, reduceCtorEq, Nat.reduceShiftRight, Nat.reduceAnd, Nat.reduceBNe, g0, g5, g6, g7, g8]
          simp [roundR]
      · have er : r = k + 1 := by omega
        subst er
        have hdk := hdrv (k + 1)
        have hlc := fun c hc => lost_contra (C := C) (k := k) hrg (c := c) hc
        have hkd : (∀ c ∈ C, ¬ lostS (refS C k) c) → ∀ {x : Int}, Der C x → litV (refS C k) x = 1 := fun hl x d => kept_der hrg hl d
        have hkn : (∀ c ∈ C, ¬ lostS (refS C k) c) → ¬ Contra C := fun hl => kept_no hrg hl
        change Drv C k (refS C k) at hdk
        rw [show iterR C (S0 k) (k + 1) = refS C k from rfl]
        generalize refS C k = S at *
        have hsl := hdk.vals.len
        have hob1 := hob S
        obtain ⟨τ1, hτ1⟩ : ∃ τ1, τ1 = Sx s [.cells (S.map (.int .i64))] := ⟨_, rfl⟩
        have hr1 : Room τ1 := by rw [hτ1]; exact hr.sx (by simp)
        have hx1 : Ext s τ1 := by rw [hτ1]; exact ext_Sx hr (by simp)
        have hn1 : (nm s 0).val < τ1.n.val := by rw [hτ1, Sx_n hr (by simp), nm_val hr (by omega)]; simp
        rw [← hτ1] at hob1 ⊢
        obtain ⟨ru, u, ok, fu, hu, hspec⟩ := units_spec τ1 hr1 (hv.x hx1) hi64 (n := k) (by omega) (by omega) (fun c hc => by have := hf1 c hc; omega)
        simp only [go_sem, ↓reduceIte, Nat.reduceMod, Nat.reduceEqDiff, Nat.reduceAdd, Nat.reduceMul, Nat.reduceSub, Nat.reduceLeDiff, Nat.reduceLT, Int.reduceEq, Int.reduceLT, Int.reduceLE, Int.reduceAdd, Int.reduceSub, Int.reduceNeg, reduceCtorEq, Nat.reduceShiftRight, Nat.reduceAnd, Nat.reduceBNe, g0, g5, g6, g7, g8, c1, fu]
        refine W_inv (fun q f τ => ∃ (i : Nat), q = C.length - i ∧ i ≤ C.length ∧ Room τ ∧ Ext τ1 τ ∧ (∀ c ∈ C.take i, ¬ lostS S c) ∧ (vv 5).get f = .int .i64 (k : Int) ∧ (vv 6).get f = tsR C ∧ (vv 7).get f = .sl (nm s 0) 0 (k + 1) (k + 1) 0 ∧ (vv 16).get f = ru ∧ (vv 17).get f = .bool ok ∧ (vv 18).get f = .int .i64 (i : Int)) ?_ ⟨0, rfl, by omega, hr1, Ext.refl τ1, (by intro c hc; cases hc), ?_⟩
        rotate_left
        · simp only [go_sem, ↓reduceIte, Nat.reduceMod, Nat.reduceEqDiff, Nat.reduceAdd, Nat.reduceMul, Nat.reduceSub, Nat.reduceLeDiff, Nat.reduceLT, Int.reduceEq, Int.reduceLT, Int.reduceLE, Int.reduceAdd, Int.reduceSub, Int.reduceNeg, reduceCtorEq, Nat.reduceShiftRight, Nat.reduceAnd, Nat.reduceBNe, g0, g5, g6, g7]
          simp
        rintro q f τ ⟨i, rfl, hi, hr2, hx2, hno, g5, g6, g7, g16, g17, g18⟩
        by_cases c2 : i < C.length
        · have hcm := List.getElem_mem c2
          have hcl := hCc _ hcm
          have hcr := hrg _ hcm
          have hci := fun t => tsN_ints t C[i] (hCc' _ hcm)
          have vl := fun t => (hci t).vlen t
          have et : C.take (i + 1) = C.take i ++ [C[i]] := (List.take_append_getElem c2).symm
          simp only [go_sem, ↓reduceIte, Nat.reduceMod, Nat.reduceEqDiff, Nat.reduceAdd, Nat.reduceMul, Nat.reduceSub, Nat.reduceLeDiff, Nat.reduceLT, Int.reduceEq, Int.reduceLT, Int.reduceLE, Int.reduceAdd, Int.reduceSub, Int.reduceNeg, reduceCtorEq, Nat.reduceShiftRight, Nat.reduceAnd, Nat.reduceBNe, g5, g6, g7, g16, g17, g18, tsR_len hCl' hCc', Int.ofNat_lt, c2]
          refine W_inv (fun q f τ => ∃ (j : Nat), q = C[i].length - j ∧ j ≤ C[i].length ∧ Room τ ∧ Ext τ1 τ ∧ (vv 5).get f = .int .i64 (k : Int) ∧ (vv 6).get f = tsR C ∧ (vv 7).get f = .sl (nm s 0) 0 (k + 1) (k + 1) 0 ∧ (vv 16).get f = ru ∧ (vv 17).get f = .bool ok ∧ (vv 18).get f = .int .i64 (i : Int) ∧ (vv 19).get f = .bool ((C[i].take j).all fun v => decide (litV S v = -1)) ∧ (vv 20).get f = .int .i64 (j : Int)) ?_ ⟨0, rfl, by omega, hr2, hx2, ?_⟩
          rotate_left
          · simp only [go_sem, ↓reduceIte, Nat.reduceMod, Nat.reduceEqDiff, Nat.reduceAdd, Nat.reduceMul, Nat.reduceSub, Nat.reduceLeDiff, Nat.reduceLT, Int.reduceEq, Int.reduceLT, Int.reduceLE, Int.reduceAdd, Int.reduceSub, Int.reduceNeg, reduceCtorEq, Nat.reduceShiftRight, Nat.reduceAnd, Nat.reduceBNe, g5, g6, g7, g16, g17, g18]
            simp
          rintro q f τ ⟨j, rfl, hj, hr3, hx3, g5, g6, g7, g16, g17, g18, g19, g20⟩
          by_cases c3 : j < C[i].length
          · have hxm := List.getElem_mem c3
            have hxr := hcr _ hxm
            have etj : C[i].take (j + 1) = C[i].take j ++ [C[i][j]] := (List.take_append_getElem c3).symm
            have ewn : IntKind.wrap .i64 (-C[i][j]) = -C[i][j] := wrap_i64 (by omega) (by omega)
            have emx : max C[i][j] (-C[i][j]) = ((C[i][j].natAbs : Nat) : Int) := by omega
            have eg := getD_at (S := S) (j := C[i][j].natAbs) (by omega)
            have ej : IntKind.wrap .i64 ((j : Int) + 1) = ((j + 1 : Nat) : Int) := by rw [wrap_i64 (by omega) (by omega)]; omega
            have ex1 := fun t => (hci t).i64 c3 (ext_self t)
            have ex2 := fun t => (hci t).ia c3 1 .i64 t
            simp only [Nat.mul_one] at ex2
            have hlit := (hdk.vals.lit hxr.1).2.2
            have eall : (C[i].take (j + 1)).all (fun v => decide (litV S v = -1)) = ((C[i].take j).all (fun v => decide (litV S v = -1)) && decide (litV S C[i][j] = -1)) := by rw [etj, List.all_append]; simp
            simp only [go_sem, ↓reduceIte, Nat.reduceMod, Nat.reduceEqDiff, Nat.reduceAdd, Nat.reduceMul, Nat.reduceSub, Nat.reduceLeDiff, Nat.reduceLT, Int.reduceEq, Int.reduceLT, Int.reduceLE, Int.reduceAdd, Int.reduceSub, Int.reduceNeg, reduceCtorEq, Nat.reduceShiftRight, Nat.reduceAnd, Nat.reduceBNe, g5, g6, g7, g16, g17, g18, g19, g20, tsR_ia hCl' hCc' c2, tsR_ld c2, vl, Int.ofNat_lt, c3]
            rw [show τ = Sx τ [] from rfl]
            refine W_drawn hr3 _ (by simp) ?_
            simp only [List.nil_append, List.length_nil, List.length_cons, List.replicate_succ, List.replicate_zero]
            have hr4 := hr3.sx (l := [.dead, .dead, .dead, .dead, .dead, .dead, .dead, .dead, .dead, .dead, .dead, .dead, .dead, .dead, .dead, .dead, .dead, .dead, .dead, .dead]) (by simp)
            have hx4 := hx3.trans (ext_Sx (l := [.dead, .dead, .dead, .dead, .dead, .dead, .dead, .dead, .dead, .dead, .dead, .dead, .dead, .dead, .dead, .dead, .dead, .dead, .dead, .dead]) hr3 (by simp))
            generalize Sx τ [.dead, .dead, .dead, .dead, .dead, .dead, .dead, .dead, .dead, .dead, .dead, .dead, .dead, .dead, .dead, .dead, .dead, .dead, .dead, .dead] = τ4 at *
            have ob4 : τ4.obj (nm s 0) = .cells (S.map (.int .i64)) := by rw [hx4.old _ hn1]; exact hob1
            generalize (C[i].take j).all (fun v => decide (litV S v = -1)) = B at *
            cases B with
            | false =>
              simp only [go_sem, ↓reduceIte, Nat.reduceMod, Nat.reduceEqDiff, Nat.reduceAdd, Nat.reduceMul, Nat.reduceSub, Nat.reduceLeDiff, Nat.reduceLT, Int.reduceEq, Int.reduceLT, Int.reduceLE, Int.reduceAdd, Int.reduceSub, Int.reduceNeg, reduceCtorEq, Nat.reduceShiftRight, Nat.reduceAnd, Nat.reduceBNe, hr3, g5, g6, g7, g16, g17, g18, g19, g20, tsR_ia hCl' hCc' c2, tsR_ld c2, ex2, ex1, ewn, emx, hia hxr.2, ob4, wrap1_at eg, ej]
              refine ⟨C[i].length - (j + 1), by omega, j + 1, rfl, by omega, hr4, hx4, ?_⟩
              rw [eall]; simp
            | true =>
              by_cases hs : S.getD C[i][j].natAbs 0 = 0
              · rw [hs] at eg
                simp only [go_sem, ↓reduceIte, Nat.reduceMod, Nat.reduceEqDiff, Nat.reduceAdd, Nat.reduceMul, Nat.reduceSub, Nat.reduceLeDiff, Nat.reduceLT, Int.reduceEq, Int.reduceLT, Int.reduceLE, Int.reduceAdd, Int.reduceSub, Int.reduceNeg, reduceCtorEq, Nat.reduceShiftRight, Nat.reduceAnd, Nat.reduceBNe, hr3, g5, g6, g7, g16, g17, g18, g19, g20, tsR_ia hCl' hCc' c2, tsR_ld c2, ex2, ex1, ewn, emx, hia hxr.2, ob4, wrap1_at eg, ej, ne_eq, not_true_eq_false]
                refine ⟨C[i].length - (j + 1), by omega, j + 1, rfl, by omega, hr4, hx4, ?_⟩
                rw [eall, decide_eq_false (p := litV S C[i][j] = -1) (fun e => (hlit.mp e).1 hs)]; simp
              · simp only [go_sem, ↓reduceIte, Nat.reduceMod, Nat.reduceEqDiff, Nat.reduceAdd, Nat.reduceMul, Nat.reduceSub, Nat.reduceLeDiff, Nat.reduceLT, Int.reduceEq, Int.reduceLT, Int.reduceLE, Int.reduceAdd, Int.reduceSub, Int.reduceNeg, reduceCtorEq, Nat.reduceShiftRight, Nat.reduceAnd, Nat.reduceBNe, hr3, g5, g6, g7, g16, g17, g18, g19, g20, tsR_ia hCl' hCc' c2, tsR_ld c2, ex2, ex1, ewn, emx, hia hxr.2, ob4, wrap1_at eg, ej, hs, ne_eq, not_false_eq_true]
                refine ⟨C[i].length - (j + 1), by omega, j + 1, rfl, by omega, hr4, hx4, ?_⟩
                rw [eall, Bool.true_and]
                have : decide (litV S C[i][j] = -1) = decide (¬ (decide (0 < S.getD C[i][j].natAbs 0) = decide (0 < C[i][j]))) := by
                  rw [decide_eq_decide, hlit]; exact ⟨fun h => h.2, fun h => ⟨hs, h⟩⟩
                rw [this]; simp
          · have ej : j = C[i].length := by omega
            subst ej
            rw [List.take_length] at g19
            cases hB : C[i].all (fun v => decide (litV S v = -1)) with
            | true =>
              rw [hB] at g19
              have hlost : lostS S C[i] := fun v hv => by have := List.all_eq_true.mp hB v hv; simpa using this
              have hcon := (hlc _ hcm hlost).mono hm1
              rcases hspec with ⟨rfl, rfl, _⟩ | ⟨_, hn, _⟩
              · have vu := hu.vlen
                simp only [go_sem, ↓reduceIte, Nat.reduceMod, Nat.reduceEqDiff, Nat.reduceAdd, Nat.reduceMul, Nat.reduceSub, Nat.reduceLeDiff, Nat.reduceLT, Int.reduceEq, Int.reduceLT, Int.reduceLE, Int.reduceAdd, Int.reduceSub, Int.reduceNeg, reduceCtorEq, Nat.reduceShiftRight, Nat.reduceAnd, Nat.reduceBNe, g5, g6, g7, g16, g17, g18, g19, g20, tsR_ia hCl' hCc' c2, tsR_ld c2, vl, Int.ofNat_lt, c3, Bool.not_false, vu, List.length_nil]
                exact settled_bool (hx1.trans hx3) (by simp)
              · exact absurd hcon hn
            | false =>
              rw [hB] at g19
              simp only [go_sem, ↓reduceIte, Nat.reduceMod, Nat.reduceEqDiff, Nat.reduceAdd, Nat.reduceMul, Nat.reduceSub, Nat.reduceLeDiff, Nat.reduceLT, Int.reduceEq, Int.reduceLT, Int.reduceLE, Int.reduceAdd, Int.reduceSub, Int.reduceNeg, reduceCtorEq, Nat.reduceShiftRight, Nat.reduceAnd, Nat.reduceBNe, g5, g6, g7, g16, g17, g18, g19, g20, tsR_ia hCl' hCc' c2, tsR_ld c2, vl, Int.ofNat_lt, c3]
              refine ⟨C.length - (i + 1), by omega, i + 1, rfl, by omega, hr3, hx3, fun c hc => ?_, ?_⟩
              · rw [et, List.mem_append, List.mem_singleton] at hc
                rcases hc with hc | rfl
                · exact hno c hc
                · intro hl
                  have : C[i].all (fun v => decide (litV S v = -1)) = true := List.all_eq_true.mpr fun v hv => by rw [decide_eq_true_eq]; exact hl v hv
                  rw [hB] at this; cases this
              · rw [wrap_i64 (by omega) (by omega)]; simp
        · have ei : i = C.length := by omega
          subst ei
          rw [List.take_length] at hno
          have hnc : ¬ Contra (l.map (knownL k)) := fun h => hkn hno (h.mono hm2)
          rcases hspec with ⟨_, _, hn⟩ | ⟨rfl, _, tr, rfl, ht1, ht2, ht3⟩
          · exact absurd hn hnc
          have hue : sortI tr = refL S k := sorted_eq (sortI_sorted ht1) (refL_sorted hdk.vals k) fun x => by
            rw [(sortI_perm tr).mem_iff, refL_mem hdk.vals k x]
            constructor
            · intro hx
              have := ht2 x hx
              exact ⟨this.1, this.2, hkd hno (((ht3 x).mp hx).mono hm2)⟩
            · rintro ⟨h0, h1, h2⟩
              exact (ht3 x).mpr ((hdk.der x h0 h1 h2).mono hm1)
          rw [hue] at hu
          have vu := hu.vlen
          simp only [go_sem, ↓reduceIte, Nat.reduceMod, Nat.reduceEqDiff, Nat.reduceAdd, Nat.reduceMul, Nat.reduceSub, Nat.reduceLeDiff, Nat.reduceLT, Int.reduceEq, Int.reduceLT, Int.reduceLE, Int.reduceAdd, Int.reduceSub, Int.reduceNeg, reduceCtorEq, Nat.reduceShiftRight, Nat.reduceAnd, Nat.reduceBNe, g5, g6, g7, g16, g17, g18, tsR_len hCl' hCc', Int.ofNat_lt, c2]
          refine W_inv (fun q f τ => ∃ (m : Nat), q = k - m ∧ m ≤ k ∧ Room τ ∧ Ext τ1 τ ∧ (vv 5).get f = .int .i64 (k : Int) ∧ (vv 7).get f = .sl (nm s 0) 0 (k + 1) (k + 1) 0 ∧ (vv 16).get f = ru ∧ (vv 17).get f = .bool true ∧ (vv 22).get f = .int .i64 ((refL S m).length : Int) ∧ (vv 23).get f = .int .i64 ((m + 1 : Nat) : Int)) ?_ ⟨0, rfl, by omega, hr2, hx2, ?_⟩
          rotate_left
          · simp only [go_sem, ↓reduceIte, Nat.reduceMod, Nat.reduceEqDiff, Nat.reduceAdd, Nat.reduceMul, Nat.reduceSub, Nat.reduceLeDiff, Nat.reduceLT, Int.reduceEq, Int.reduceLT, Int.reduceLE, Int.reduceAdd, Int.reduceSub, Int.reduceNeg, reduceCtorEq, Nat.reduceShiftRight, Nat.reduceAnd, Nat.reduceBNe, g5, g6, g7, g16, g17, g18]
            simp [refL]
          rintro q f τ ⟨m, rfl, hm, hr3, hx3, g5, g7, g16, g17, g22, g23⟩
          have ob3 : τ.obj (nm s 0) = .cells (S.map (.int .i64)) := by rw [hx3.old _ hn1]; exact hob1
          by_cases c3 : ((m + 1 : Nat) : Int) ≤ (k : Int)
          · have hm1' : m + 1 ≤ k := by omega
            have eg := getD_at (S := S) (j := m + 1) (by omega)
            have em : IntKind.wrap .i64 (((m + 1 : Nat) : Int) + 1) = ((m + 1 + 1 : Nat) : Int) := by rw [wrap_i64 (by omega) (by omega)]; omega
            by_cases hs : S.getD (m + 1) 0 = 0
            · rw [hs] at eg
              have e1 : refL S (m + 1) = refL S m := by rw [refL, if_pos hs]
              simp only [go_sem, ↓reduceIte, Nat.reduceMod, Nat.reduceEqDiff, Nat.reduceAdd, Nat.reduceMul, Nat.reduceSub, Nat.reduceLeDiff, Nat.reduceLT, Int.reduceEq, Int.reduceLT, Int.reduceLE, Int.reduceAdd, Int.reduceSub, Int.reduceNeg, reduceCtorEq, Nat.reduceShiftRight, Nat.reduceAnd, Nat.reduceBNe, g5, g7, g16, g17, g22, g23, c3, hia hm1', ob3, wrap1_at eg, em]
              exact ⟨k - (m + 1), by omega, m + 1, rfl, by omega, hr3, hx3, by rw [e1], rfl⟩
            · have e1 : refL S (m + 1) = refL S m ++ [((m + 1 : Nat) : Int) * S.getD (m + 1) 0] := by rw [refL, if_neg hs]
              have hpre := refL_pre S (m + 1) k hm1'
              rw [e1] at hpre
              obtain ⟨t, ht⟩ := hpre
              have hat : (refL S m).length < (refL S k).length := by rw [← ht, List.length_append, List.length_append, List.length_singleton]; omega
              have hxe : (refL S k)[(refL S m).length] = ((m + 1 : Nat) : Int) * S.getD (m + 1) 0 := by
                have : (refL S k)[(refL S m).length]? = some (((m + 1 : Nat) : Int) * S.getD (m + 1) 0) := by
                  rw [← ht, List.append_assoc, List.getElem?_append_right (Nat.le_refl _)]; simp
                rw [List.getElem?_eq_getElem hat] at this
                exact Option.some.inj this
              have hsb := hdk.vals.at (m + 1)
              have hmul : IntKind.wrap .i64 (((m + 1 : Nat) : Int) * S.getD (m + 1) 0) = ((m + 1 : Nat) : Int) * S.getD (m + 1) 0 := by
                obtain h | h | h : S.getD (m + 1) 0 = -1 ∨ S.getD (m + 1) 0 = 0 ∨ S.getD (m + 1) 0 = 1 := by omega
                · rw [h]; exact wrap_i64 (by omega) (by omega)
                · rw [h]; exact wrap_i64 (by omega) (by omega)
                · rw [h]; exact wrap_i64 (by omega) (by omega)
              have hlk : (refL S m).length ≤ m := refL_len S m
              have ea : IntKind.wrap .i64 (((refL S m).length : Int) + 1) = (((refL S m).length + 1 : Nat) : Int) := by rw [wrap_i64 (by omega) (by omega)]; omega
              simp only [go_sem, ↓reduceIte, Nat.reduceMod, Nat.reduceEqDiff, Nat.reduceAdd, Nat.reduceMul, Nat.reduceSub, Nat.reduceLeDiff, Nat.reduceLT, Int.reduceEq, Int.reduceLT, Int.reduceLE, Int.reduceAdd, Int.reduceSub, Int.reduceNeg, reduceCtorEq, Nat.reduceShiftRight, Nat.reduceAnd, Nat.reduceBNe, g5, g7, g16, g17, g22, g23, c3, hia hm1', ob3, wrap1_at eg, hs]
              rw [show τ = Sx τ [] from rfl]
              refine W_drawn hr3 _ (by simp) ?_
              simp only [List.nil_append, List.length_nil, List.length_cons, List.replicate_succ, List.replicate_zero]
              have hr4 := hr3.sx (l := [.dead, .dead, .dead, .dead, .dead, .dead, .dead, .dead, .dead, .dead, .dead, .dead, .dead, .dead, .dead, .dead, .dead]) (by simp)
              have hx4 := hx3.trans (ext_Sx (l := [.dead, .dead, .dead, .dead, .dead, .dead, .dead, .dead, .dead, .dead, .dead, .dead, .dead, .dead, .dead, .dead, .dead]) hr3 (by simp))
              generalize Sx τ [.dead, .dead, .dead, .dead, .dead, .dead, .dead, .dead, .dead, .dead, .dead, .dead, .dead, .dead, .dead, .dead, .dead] = τ4 at *
              have ob4 : τ4.obj (nm s 0) = .cells (S.map (.int .i64)) := by rw [hx4.old _ hn1]; exact hob1
              have hu4 := hu.x hx4
              have c4 : ¬ ((refL S k).length ≤ (refL S m).length) := by omega
              simp only [go_sem, ↓reduceIte, Nat.reduceMod, Nat.reduceEqDiff, Nat.reduceAdd, Nat.reduceMul, Nat.reduceSub, Nat.reduceLeDiff, Nat.reduceLT, Int.reduceEq, Int.reduceLT, Int.reduceLE, Int.reduceAdd, Int.reduceSub, Int.reduceNeg, reduceCtorEq, Nat.reduceShiftRight, Nat.reduceAnd, Nat.reduceBNe, hr3, g5, g7, g16, g17, g22, g23, vu, Int.ofNat_le, c4, hu.ia hat, hu4.i64 hat, ext_self, hxe, hia hm1', ob4, wrap1_at eg, hmul, ne_eq, not_true_eq_false, ea, em]
              exact ⟨k - (m + 1), by omega, m + 1, rfl, by omega, hr4, hx4, by rw [e1, List.length_append]; rfl, rfl⟩
          · have em : m = k := by omega
            subst em
            simp only [go_sem, ↓reduceIte, Nat.reduceMod, Nat.reduceEqDiff, Nat.reduceAdd, Nat.reduceMul, Nat.reduceSub, Nat.reduceLeDiff, Nat.reduceLT, Int.reduceEq, Int.reduceLT, Int.reduceLE, Int.reduceAdd, Int.reduceSub, Int.reduceNeg, reduceCtorEq, Nat.reduceShiftRight, Nat.reduceAnd, Nat.reduceBNe, g5, g7, g16, g17, g22, g23, c3, vu]
            exact settled_bool (hx1.trans hx3) rfl
    · simp only [go_sem, ↓reduceIte, Nat.reduceMod, Nat.reduceEqDiff, Nat.reduceAdd, Nat.reduceMul, Nat.reduceSub, Nat.reduceLeDiff, Nat.reduceLT, Int.reduceEq, Int.reduceLT, Int.reduceLE, Int.reduceAdd, Int.reduceSub, Int.reduceNeg, reduceCtorEq, Nat.reduceShiftRight, Nat.reduceAnd, Nat.reduceBNe]
      simp [iterR]
end Go.Proofs.Ytggeadnjikpjnaa
namespace Go.Vm
set_option linter.unusedVariables false
def SV.cT (X : SV) (k : Nat) : SV := {X with tr := X.tr.take k}
def SV.cS (X : SV) (k : Nat) : SV := {X with st := X.st.take k}
theorem SV.cT_n (X : SV) (k : Nat) : (X.cT k).n = X.n := rfl
theorem SV.cT_tr (X : SV) (k : Nat) : (X.cT k).tr = X.tr.take k := rfl
theorem SV.cT_st (X : SV) (k : Nat) : (X.cT k).st = X.st := rfl
theorem SV.cT_done (X : SV) (k : Nat) : (X.cT k).done = X.done := rfl
theorem SV.cT_closed (X : SV) (k : Nat) : (X.cT k).closed = X.closed := rfl
theorem SV.cS_n (X : SV) (k : Nat) : (X.cS k).n = X.n := rfl
theorem SV.cS_tr (X : SV) (k : Nat) : (X.cS k).tr = X.tr := rfl
theorem SV.cS_st (X : SV) (k : Nat) : (X.cS k).st = X.st.take k := rfl
theorem SV.cS_done (X : SV) (k : Nat) : (X.cS k).done = X.done := rfl
theorem SV.cS_closed (X : SV) (k : Nat) : (X.cS k).closed = X.closed := rfl
attribute [go_sem] SV.cT_n SV.cT_done SV.cT_closed SV.cS_n SV.cS_done SV.cS_closed
noncomputable def vsllo (sz : Nat) (x l : AV) (s : St) : R := x.onSl .no
    (bnd none 0 0 fun m => bnd none m 0 fun h => bnd (some l) h 0 fun _ => .ok .nils s)
    (fun b o len cap ex => bnd none cap cap fun m => bnd none m len fun h => bnd (some l) h 0 fun l =>
      br (br (Nat.beq ex 0) true (br false true (Nat.ble (Nat.succ l) cap)))
        (br (br (Nat.beq ex 0) true (br false true (Nat.beq ex sz))) (.ok (.sl b (br (Nat.beq m l) o (Nat.add o (Nat.mul l sz))) (Nat.sub h l) (Nat.sub m l) (br false 0 ex)) s) .no)
        (.ok (.ts [] 0 0 false) s))
    fun cs len cap ex => bnd none cap cap fun m => bnd none (Nat.min m len) len fun h => bnd (some l) h 0 fun l =>
      .ok (.ts (dr (Nat.mul l sz) (tk (Nat.mul h sz) cs)) (Nat.sub h l) (Nat.sub m l) (br ex true false)) s
theorem p_sllo (call : CallT) (f : Fr AV) (s : St) (sz : Nat) (x l : CO) : exop (.slice sz x (some l) none none) call f s = vsllo sz (ev1 f x) (ev1 f l) s := nd rfl
attribute [go_sem] p_sllo
/-- Cut behind a place. -/
theorem OwS.cut {σ : St} {a : AV} {xs : List AV} (h : OwS σ a xs) {k : Nat} (hk : k ≤ xs.length) (j : IntKind) : ∃ a', (∀ t, vslhi 1 a (.int j (k : Int)) t = .ok a' t) ∧ OwS σ a' (xs.take k) ∧ ids a' = ids a := by
  cases h with
  | nils =>
    have : k = 0 := by simpa using hk
    subst this
    refine ⟨.nils, fun t => ?_, by simp; exact .nils, rfl⟩
    show (AV.int j ((0 : Nat) : Int)).idx (0 + 1) (fun h => R.ok .nils t) = _
    rw [idx_eq (by omega) (by omega)]
  | sl i len cap cs h h1 h2 h3 h4 =>
    have hl : (cs.take len).length = len := by rw [List.length_take]; omega
    rw [hl] at hk
    refine ⟨.sl i 0 k cap 1, fun t => ?_, ?_, rfl⟩
    · show (AV.int j (k : Int)).idx (cap + 1) (fun h => br (Nat.ble (Nat.succ 0) cap) (R.ok (.sl i (br (Nat.beq cap 0) 0 (Nat.add 0 (Nat.mul 0 1))) (Nat.sub h 0) (Nat.sub cap 0) 1) t) (.ok (.ts [] 0 0 false) t)) = _
      rw [idx_eq (by omega) (by omega)]
      simp only [Int.toNat_natCast]
      rw [ble_t (by omega), beq_f (by omega)]; rfl
    · have := OwS.sl (σ := σ) i k cap cs h (by omega) h2 h3 (by omega)
      rw [List.take_take, Nat.min_eq_left hk]; exact this
/-- From a place on. -/
theorem OwS.from {σ : St} {i : Id} {len cap : Nat} {xs : List AV} (h : OwS σ (.sl i 0 len cap 1) xs) {k : Nat} (hk : k ≤ len) (j : IntKind) : ∃ a', (∀ t, vsllo 1 (.sl i 0 len cap 1) (.int j (k : Int)) t = .ok a' t) ∧ (∀ t, Vm.vlen a' t = .ok (.int .i64 ((len - k : Nat) : Int)) t) ∧ ∀ q, q < len - k → ∀ t, viaddr 1 a' (.int .i64 (q : Int)) t = .ok (.ptr i (k + q)) t := by
  cases h with
  | sl _ _ _ cs h h1 h2 h3 h4 =>
  by_cases hc : k < cap
  · refine ⟨.sl i k (len - k) (cap - k) 1, fun t => ?_, fun t => rfl, fun q hq t => viaddr_sl hq t⟩
    show (AV.int j (k : Int)).idx (len + 1) (fun l => br (Nat.ble (Nat.succ l) cap) (R.ok (.sl i (br (Nat.beq cap l) 0 (Nat.add 0 (Nat.mul l 1))) (Nat.sub len l) (Nat.sub cap l) 1) t) (.ok (.ts [] 0 0 false) t)) = _
    rw [idx_eq (by omega) (by omega)]
    simp only [Int.toNat_natCast]
    rw [ble_t (by omega), beq_f (by omega), br_true', br_false']
    congr 2; show 0 + k * 1 = k; omega
  · refine ⟨.ts [] 0 0 false, fun t => ?_, fun t => by rw [show len - k = 0 by omega]; rfl, fun q hq t => by omega⟩
    show (AV.int j (k : Int)).idx (len + 1) (fun l => br (Nat.ble (Nat.succ l) cap) (R.ok (.sl i (br (Nat.beq cap l) 0 (Nat.add 0 (Nat.mul l 1))) (Nat.sub len l) (Nat.sub cap l) 1) t) (.ok (.ts [] 0 0 false) t)) = _
    rw [idx_eq (by omega) (by omega)]
    simp only [Int.toNat_natCast]
    rw [ble_f (by omega)]; rfl
theorem OwS.at {σ : St} {i : Id} {len cap : Nat} {xs : List AV} (h : OwS σ (.sl i 0 len cap 1) xs) : len = xs.length ∧ ∃ cs, σ.obj i = .cells cs ∧ ∀ q, q < len → cs[q]? = xs[q]? := by
  cases h with
  | sl _ _ _ cs h h1 h2 h3 h4 => exact ⟨by rw [List.length_take]; omega, cs, h, fun q hq => by rw [List.getElem?_take_of_lt hq]⟩
section
variable {s σ : St} {b : Id} {F : Fx} {tv sv lv : AV} {es : List (AV × AV)} {X : SV}
/-- The trail's row, the levels' row, cut. -/
theorem Sol0.setCut (h : Sol0 s σ b F tv sv lv es X) {tv' sv' : AV} {k m : Nat} (ht : OwS σ tv' ((X.tr.map (.int .i64)).take k)) (hs : OwS σ sv' ((X.st.map (.int .i64)).take m)) (it : ids tv' = ids tv) (is : ids sv' = ids sv) :
    ∃ σ1 σ2, vstore 1 (.ptr b 3) tv' σ = .ok undef σ1 ∧ vstore 1 (.ptr b 4) sv' σ1 = .ok undef σ2 ∧ Sol0 s σ2 b F tv' sv' lv es ((X.cT k).cS m) := by
  have nd := h.nd
  have hb := h.bge
  have hft : foot b F tv' sv' lv es = foot b F tv sv lv es := by unfold foot; rw [it, is]
  refine ⟨_, _, vstore_el h.ob ht.one (by simp [solC]), vstore_el (put_self _ _ _) hs.one (by simp [solC]), ?_⟩
  have hg : ∀ i ∈ (F.v :: F.le :: F.re :: F.m :: (ids tv ++ (ids sv ++ (ids lv ++ eids es)))), ((σ.put b (.cells ((solC F tv sv lv X).set 3 tv'))).put b (.cells (((solC F tv sv lv X).set 3 tv').set 4 sv'))).obj i = σ.obj i := fun i hi => by
    have hne : i ≠ b := fun e => by subst e; exact (List.nodup_cons.mp nd).1 hi
    rw [St.obj_put, if_neg hne, St.obj_put, if_neg hne]
  refine ⟨(h.room.put hb.2 _).put (by rw [put_n]; exact hb.2) _, (h.ext.put hb.1 _).put hb.1 _, by rw [put_self]; rfl, (hg _ (by simp)).trans h.ov, (hg _ (by simp)).trans h.ole, (hg _ (by simp)).trans h.ore, (hg _ (by simp)).trans h.om, ?_, ?_, h.hl.frame fun i hi => hg i (by simp [hi]), h.he.frame fun i hi => hg i (by simp [hi]), by rw [hft]; exact nd, fun i hi => by rw [put_n, put_n]; rw [hft] at hi; exact h.ge i hi, h.lv1, h.lv2, h.lv3, h.bd⟩
  · rw [SV.cS_tr, SV.cT_tr, List.map_take]
    exact ht.frame fun i hi => hg i (by rw [it] at hi; simp [hi])
  · rw [SV.cS_st, SV.cT_st, List.map_take]
    exact hs.frame fun i hi => hg i (by rw [is] at hi; simp [hi])
end
/-- Literals let go. -/
def zeroX (X : SV) (l : List Int) : SV := l.foldl (fun X x => X.sV x.natAbs 0) X
def backX (X : SV) (level : Nat) : SV := if X.st.length ≤ level then X else ((zeroX X (X.tr.drop (X.st.getD level 0).toNat)).cT (X.st.getD level 0).toNat).cS level
theorem zeroX_snoc (X : SV) (l : List Int) (x : Int) : zeroX X (l ++ [x]) = (zeroX X l).sV x.natAbs 0 := by unfold zeroX; rw [List.foldl_append]; rfl
theorem zeroX_keeps (l : List Int) : ∀ X : SV, (zeroX X l).n = X.n ∧ (zeroX X l).tr = X.tr ∧ (zeroX X l).st = X.st ∧ (zeroX X l).cl = X.cl ∧ (zeroX X l).inn = X.inn ∧ (zeroX X l).done = X.done ∧ (zeroX X l).closed = X.closed ∧ (zeroX X l).lev = X.lev ∧ (zeroX X l).rea = X.rea := by
  induction l with
  | nil => intro X; exact ⟨rfl, rfl, rfl, rfl, rfl, rfl, rfl, rfl, rfl⟩
  | cons x l ih => intro X; exact ih (X.sV x.natAbs 0)
end Go.Vm
namespace Go.Proofs.Ytggeadnjikpjnaa
open Go Go.Vm
set_option linter.unusedVariables false
set_option linter.unusedSimpArgs false
section
variable {s σ : St} {b : Vm.Id} {G : Fx} {tv sv lv : AV} {es : List (AV × AV)} {X : SV}
theorem back_ok (h : Sol0 s σ b G tv sv lv es X) {level : Nat} (hlv : level ≤ 1000000) (hn : X.n ≤ 1000000) (htl : X.tr.length ≤ 1000000) (hrg : ∀ x ∈ X.tr, x ≠ 0 ∧ x.natAbs ≤ X.n) (hst : ∀ y ∈ X.st, 0 ≤ y ∧ y < X.tr.length) :
    ∃ σ', CA F.sat_trail_back [.ptr b 0, .int .i64 (level : Int)] σ = .ok (.tup []) σ' ∧ Sol s σ' b G (backX X level) := by
  have key : ∃ v σ' X', CA F.sat_trail_back [.ptr b 0, .int .i64 (level : Int)] σ = .ok v σ' ∧ (v = .tup [] ∧ X' = backX X level) ∧ Sol s σ' b G X' := by
    have ob := h.ob
    have hsv := h.hs.vlen
    rw [List.length_map] at hsv
    refine fn_sol h code_sat_trail_back (by simp) ?_
    by_cases c1 : X.st.length ≤ level
    · simp only [go_sem, ↓reduceIte, Nat.reduceMod, Nat.reduceEqDiff, Nat.reduceAdd, Nat.reduceMul, Nat.reduceSub, Nat.reduceLeDiff, Nat.reduceLT, Int.reduceEq, Int.reduceLT, Int.reduceLE, Int.reduceAdd, Int.reduceSub, Int.reduceNeg, reduceCtorEq, Nat.reduceShiftRight, Nat.reduceAnd, Nat.reduceBNe, Sx_nil, ob, solC, hsv, Int.ofNat_le, c1]
      exact ⟨ov_tup (by simp), _, ⟨rfl, rfl⟩, tv, sv, lv, es, by unfold backX; rw [if_pos c1]; exact h⟩
    have c1' : level < X.st.length := by omega
    have hy := hst _ (List.getElem_mem c1')
    obtain ⟨at_, hat⟩ : ∃ k : Nat, X.st[level] = (k : Int) := ⟨X.st[level].toNat, by omega⟩
    have hgd : (X.st.getD level 0).toNat = at_ := by rw [List.getD_eq_getElem?_getD, List.getElem?_eq_getElem c1']; show X.st[level].toNat = _; omega
    have hbk : backX X level = ((zeroX X (X.tr.drop at_)).cT at_).cS level := by unfold backX; rw [if_neg c1, hgd]
    have hatl : at_ < X.tr.length := by omega
    obtain ⟨q, q1, q2, qs, q3, q4⟩ := h.hs.ia (k := level) (by rw [List.length_map]; exact c1') .i64 σ
    have q5 : qs[level]? = some (.int .i64 (at_ : Int)) := by rw [q4, List.getElem?_map, List.getElem?_eq_getElem c1', hat]; rfl
    have hown := h.ht
    obtain ⟨i0, len, cap, etv⟩ : ∃ i0 len cap, tv = .sl i0 0 len cap 1 := by
      generalize hys : X.tr.map (AV.int .i64) = ys at hown
      cases hown with
      | nils =>
        exfalso
        have := congrArg List.length hys
        rw [List.length_map, List.length_nil] at this
        omega
      | sl i len cap cs => exact ⟨_, _, _, rfl⟩
    subst etv
    obtain ⟨hlen, _⟩ := hown.at
    rw [List.length_map] at hlen
    obtain ⟨a', w1, w2, w3⟩ := hown.from (k := at_) (by omega) .i64
    simp only [go_sem, ↓reduceIte, Nat.reduceMod, Nat.reduceEqDiff, Nat.reduceAdd, Nat.reduceMul, Nat.reduceSub, Nat.reduceLeDiff, Nat.reduceLT, Int.reduceEq, Int.reduceLT, Int.reduceLE, Int.reduceAdd, Int.reduceSub, Int.reduceNeg, reduceCtorEq, Nat.reduceShiftRight, Nat.reduceAnd, Nat.reduceBNe, Sx_nil, ob, solC, hsv, Int.ofNat_le, c1, q2, q3, wrap1_at q5, w1, w2]
    refine W_inv (fun k f τ => ∃ (j : Nat), k = X.tr.length - at_ - j ∧ j ≤ X.tr.length - at_ ∧ Sol0 s τ b G (.sl i0 0 len cap 1) sv lv es (zeroX X ((X.tr.drop at_).take j)) ∧ (vv 0).get f = .ptr b 0 ∧ (vv 1).get f = .int .i64 (level : Int) ∧ (vv 4).get f = .int .i64 (at_ : Int) ∧ (vv 26).get f = a' ∧ (vv 27).get f = .int .i64 ((len - at_ : Nat) : Int) ∧ (vv 28).get f = .int .i64 (j : Int)) ?_ ⟨0, rfl, by omega, h, ?_⟩
    · rintro k f τ ⟨j, rfl, hj, h1, g0, g1, g4, g26, g27, g28⟩
      have hzk := zeroX_keeps ((X.tr.drop at_).take j) X
      by_cases d1 : j < len - at_
      · have hjt : at_ + j < X.tr.length := by omega
        have hxj := hrg _ (List.getElem_mem hjt)
        obtain ⟨_, cs, e1, e2⟩ := h1.ht.at
        have e3 : cs[at_ + j]? = some (.int .i64 X.tr[at_ + j]) := by
          rw [e2 _ (by omega), hzk.2.1, List.getElem?_map, List.getElem?_eq_getElem hjt]; rfl
        have et : (X.tr.drop at_).take (j + 1) = (X.tr.drop at_).take j ++ [X.tr[at_ + j]] := by
          rw [List.take_add_one, List.getElem?_drop, List.getElem?_eq_getElem hjt]; rfl
        have ewn : IntKind.wrap .i64 (-X.tr[at_ + j]) = -X.tr[at_ + j] := wrap_i64 (by omega) (by omega)
        have emx : max X.tr[at_ + j] (-X.tr[at_ + j]) = ((X.tr[at_ + j].natAbs : Nat) : Int) := by omega
        have a1 := viaddr_sl (k := .i64) (b := G.v) (o := 0) (len := X.n + 1) (cap := X.n + 1) (ex := 0) (i := X.tr[at_ + j].natAbs) (by omega)
        rw [Nat.zero_add] at a1
        obtain ⟨τ1, w4, h2⟩ := h1.setV (k := X.tr[at_ + j].natAbs) (by rw [hzk.1]; exact hxj.2) 0 (by omega)
        have o1 := h1.ob
        unfold solC at o1
        rw [hzk.1] at o1
        simp only [go_sem, ↓reduceIte, Nat.reduceMod, Nat.reduceEqDiff, Nat.reduceAdd, Nat.reduceMul, Nat.reduceSub, Nat.reduceLeDiff, Nat.reduceLT, Int.reduceEq, Int.reduceLT, Int.reduceLE, Int.reduceAdd, Int.reduceSub, Int.reduceNeg, reduceCtorEq, Nat.reduceShiftRight, Nat.reduceAnd, Nat.reduceBNe, g0, g1, g4, g26, g27, g28, Int.ofNat_lt, d1, w3 j d1, e1, wrap1_at e3, o1, ewn, emx, a1, w4]
        refine ⟨X.tr.length - at_ - (j + 1), by omega, j + 1, rfl, by omega, by rw [et, zeroX_snoc]; exact h2, ?_⟩
        rw [wrap_i64 (by omega) (by omega)]; simp
      · have ej : j = X.tr.length - at_ := by omega
        rw [List.take_of_length_le (by rw [List.length_drop]; omega)] at h1
        simp only [go_sem, ↓reduceIte, Nat.reduceMod, Nat.reduceEqDiff, Nat.reduceAdd, Nat.reduceMul, Nat.reduceSub, Nat.reduceLeDiff, Nat.reduceLT, Int.reduceEq, Int.reduceLT, Int.reduceLE, Int.reduceAdd, Int.reduceSub, Int.reduceNeg, reduceCtorEq, Nat.reduceShiftRight, Nat.reduceAnd, Nat.reduceBNe, g0, g1, g4, g26, g27, g28, Int.ofNat_lt, d1]
        have hzk := zeroX_keeps (X.tr.drop at_) X
        have h2 := h1.sx (l := [.dead, .dead, .dead, .dead, .dead, .dead, .dead, .dead, .dead, .dead, .dead, .dead, .dead, .dead, .dead, .dead, .dead, .dead, .dead, .dead]) (by simp)
        have ht2 := h2.ht
        have hs2 := h2.hs
        rw [hzk.2.1] at ht2
        rw [hzk.2.2.1] at hs2
        obtain ⟨tv2, t1, t2, t3⟩ := ht2.cut (k := at_) (by rw [List.length_map]; omega) .i64
        obtain ⟨sv2, s1, s2, s3⟩ := hs2.cut (k := level) (by rw [List.length_map]; omega) .i64
        rw [← hzk.2.1] at t2
        rw [← hzk.2.2.1] at s2
        obtain ⟨τ5, τ6, k1, k2, h3⟩ := h2.setCut t2 s2 t3 s3
        rw [show τ = Sx τ [] from rfl]
        refine W_drawn h1.room _ (by simp) ?_
        simp only [List.nil_append, List.length_nil, List.length_cons, List.replicate_succ, List.replicate_zero]
        generalize Sx τ [.dead, .dead, .dead, .dead, .dead, .dead, .dead, .dead, .dead, .dead, .dead, .dead, .dead, .dead, .dead, .dead, .dead, .dead, .dead, .dead] = τ4 at *
        simp only [go_sem, ↓reduceIte, Nat.reduceMod, Nat.reduceEqDiff, Nat.reduceAdd, Nat.reduceMul, Nat.reduceSub, Nat.reduceLeDiff, Nat.reduceLT, Int.reduceEq, Int.reduceLT, Int.reduceLE, Int.reduceAdd, Int.reduceSub, Int.reduceNeg, reduceCtorEq, Nat.reduceShiftRight, Nat.reduceAnd, Nat.reduceBNe, h1.room, g0, g1, g4, h2.ob, solC, t1, s1, k1, k2]
        exact ⟨ov_tup (by simp), _, ⟨rfl, rfl⟩, tv2, sv2, lv, es, by rw [hbk]; exact h3⟩
    · simp only [go_sem, ↓reduceIte, Nat.reduceMod, Nat.reduceEqDiff, Nat.reduceAdd, Nat.reduceMul, Nat.reduceSub, Nat.reduceLeDiff, Nat.reduceLT, Int.reduceEq, Int.reduceLT, Int.reduceLE, Int.reduceAdd, Int.reduceSub, Int.reduceNeg, reduceCtorEq, Nat.reduceShiftRight, Nat.reduceAnd, Nat.reduceBNe]
      simp
  obtain ⟨v, σ', X', h1, ⟨rfl, rfl⟩, h3⟩ := key
  exact ⟨σ', h1, h3⟩
end
end Go.Proofs.Ytggeadnjikpjnaa
namespace Go.Vm
set_option linter.unusedVariables false
set_option linter.unusedSimpArgs false
/-! ### What follows -/
def satL (ν : Nat → Bool) (x : Int) : Bool := if x < 0 then !(ν x.natAbs) else ν x.natAbs
def Mod (ν : Nat → Bool) (K : List (List Int)) : Prop := ∀ c ∈ K, ∃ x ∈ c, satL ν x = true
def Ent (K : List (List Int)) (c : List Int) : Prop := ∀ ν, Mod ν K → ∃ x ∈ c, satL ν x = true
theorem satL_neg (ν : Nat → Bool) {x : Int} (h : x ≠ 0) : satL ν (-x) = !satL ν x := by
  unfold satL
  rw [Int.natAbs_neg]
  by_cases c : x < 0
  · rw [if_neg (by omega), if_pos c, Bool.not_not]
  · rw [if_pos (by omega), if_neg c]
theorem Ent.mem {K : List (List Int)} {c : List Int} (h : c ∈ K) : Ent K c := fun ν hm => hm c h
theorem Ent.one {K : List (List Int)} {x : Int} (h : Ent K [x]) {ν : Nat → Bool} (hm : Mod ν K) : satL ν x = true := by
  obtain ⟨y, hy, e⟩ := h ν hm
  rw [List.mem_singleton] at hy
  rw [← hy]; exact e
/-! ### How far a search is -/
def valF (f : Nat → Nat) : Nat → Nat
  | 0 => 0
  | n + 1 => 3 * valF f n + f n
theorem valF_lt {f : Nat → Nat} (h : ∀ j, f j ≤ 2) (n : Nat) : valF f n < 3 ^ n := by
  induction n with
  | zero => simp [valF]
  | succ n ih => rw [valF, Nat.pow_succ]; have := h n; omega
theorem valF_congr {f g : Nat → Nat} (n : Nat) (h : ∀ j, j < n → f j = g j) : valF f n = valF g n := by
  induction n with
  | zero => rfl
  | succ n ih => rw [valF, valF, ih fun j hj => h j (by omega), h n (by omega)]
theorem valF_lex {f g : Nat → Nat} (hf : ∀ j, f j ≤ 2) {p : Nat} (h1 : ∀ j, j < p → f j = g j) (h2 : f p < g p) (n : Nat) (hp : p < n) : valF f n + 1 ≤ valF g n := by
  induction n with
  | zero => omega
  | succ n ih =>
    rw [valF, valF]
    by_cases e : p = n
    · subst e
      rw [valF_congr p h1]; omega
    · have := ih (by omega)
      have := hf n
      omega
def dig (X : SV) (j : Nat) : Nat := if j < X.tr.length then (if (j : Int) ∈ X.st then 1 else 2) else 0
theorem dig_le (X : SV) (j : Nat) : dig X j ≤ 2 := by unfold dig; split <;> (try split) <;> omega
def mea (X : SV) : Nat := valF (dig X) X.n
theorem mea_lt (X : SV) : mea X < 3 ^ X.n := valF_lt (dig_le X) X.n
/-! ### Levels, reasons -/
def levAt (st : List Int) (j : Nat) : Nat := st.countP fun y => decide (y ≤ (j : Int))
theorem levAt_le (st : List Int) (j : Nat) : levAt st j ≤ st.length := List.countP_le_length
theorem levAt_all {st : List Int} {j : Nat} (h : ∀ y ∈ st, y ≤ (j : Int)) : levAt st j = st.length := by
  unfold levAt
  rw [List.countP_eq_length]
  intro y hy; simpa using h y hy
theorem levAt_app (st : List Int) (y : Int) (j : Nat) : levAt (st ++ [y]) j = levAt st j + (if y ≤ (j : Int) then 1 else 0) := by
  unfold levAt
  rw [List.countP_append]
  congr 1
  by_cases h : y ≤ (j : Int) <;> simp [h]
/-- In order: so many begin at or ahead of a place. -/
theorem levAt_sorted {st : List Int} (hs : st.Pairwise (· < ·)) {i : Nat} (hi : i < st.length) (j : Nat) : st[i] ≤ (j : Int) ↔ i < levAt st j := by
  induction st generalizing i with
  | nil => simp at hi
  | cons a st ih =>
    have hs' := List.pairwise_cons.mp hs
    unfold levAt
    rw [List.countP_cons]
    by_cases ha : a ≤ (j : Int)
    · have e : (if decide (a ≤ (j : Int)) = true then 1 else 0) = 1 := by simp [ha]
      rw [e]
      cases i with
      | zero => simp [ha]
      | succ i =>
        have := ih hs'.2 (i := i) (by simpa using hi)
        rw [List.getElem_cons_succ, this]
        unfold levAt; omega
    · have e : (if decide (a ≤ (j : Int)) = true then 1 else 0) = 0 := by simp [ha]
      rw [e]
      have hz : st.countP (fun y => decide (y ≤ (j : Int))) = 0 := by
        rw [List.countP_eq_zero]
        intro y hy
        have := hs'.1 y hy
        simp; omega
      rw [hz]
      constructor
      · intro h
        exfalso
        cases i with
        | zero => exact ha h
        | succ i =>
          rw [List.getElem_cons_succ] at h
          have := hs'.1 _ (List.getElem_mem (by simpa using hi : i < st.length))
          omega
      · intro h; omega
structure Cd (K : List (List Int)) (X : SV) : Prop where
  lv : X.lev.length = X.n + 1
  rl : X.rea.length = X.n + 1
  st_s : X.st.Pairwise (· < ·)
  lev : ∀ j x, X.tr[j]? = some x → X.lev.getD x.natAbs 0 = (levAt X.st j : Int)
  rea : ∀ j x, X.tr[j]? = some x → 0 < levAt X.st j → (j : Int) ∉ X.st → ∃ (k : Nat) (c : List Int), X.rea.getD x.natAbs 0 = (k : Int) ∧ X.cl[k]? = some c ∧ x ∈ c ∧ ∀ y ∈ c, y ≠ x → -y ∈ X.tr.take j
  zer : ∀ j x, X.tr[j]? = some x → levAt X.st j = 0 → Ent K [x]
  ent : ∀ c ∈ X.cl, Ent K c
/-- Each level's beginning: nothing was left to go on from. -/
def WP (X : SV) : Prop := ∀ y ∈ X.st, ∀ c ∈ X.cl, okC (X.tr.take y.toNat) (X.tr.take y.toNat) c
theorem getD_set2 (S : List Int) (j m : Nat) (x : Int) (hj : j < S.length) : (S.set j x).getD m 0 = if m = j then x else S.getD m 0 := by
  rw [List.getD_eq_getElem?_getD, List.getElem?_set, List.getD_eq_getElem?_getD]
  by_cases e : j = m
  · subst e; rw [if_pos rfl, if_pos hj, if_pos rfl]; rfl
  · rw [if_neg e, if_neg fun h => e h.symm]
theorem tr_at_put {tr : List Int} {u : Int} {j : Nat} {x : Int} (h : (tr ++ [u])[j]? = some x) : tr[j]? = some x ∨ (j = tr.length ∧ x = u) := by
  by_cases hj : j < tr.length
  · rw [List.getElem?_append_left hj] at h; exact .inl h
  · have := (List.getElem?_eq_some_iff.mp h).1
    rw [List.length_append, List.length_singleton] at this
    have e : j = tr.length := by omega
    subst e
    simp at h
    exact .inr ⟨rfl, h.symm⟩
theorem abs_ne {X : SV} (w : Wf X) {u : Int} (hu0 : u ≠ 0) (hun : u.natAbs ≤ X.n) (hz : litV X.val u = 0) {x : Int} (hx : x ∈ X.tr) : x.natAbs ≠ u.natAbs := fun e => by
  have := (w.zero hu0 hun).mp hz
  rcases Int.natAbs_eq_natAbs_iff.mp e with e | e
  · rw [e] at hx; exact this.1 hx
  · rw [e] at hx; exact this.2 hx
theorem Cd.put {K : List (List Int)} {X : SV} (h : Cd K X) (w : Wf X) {u r : Int} (hu0 : u ≠ 0) (hun : u.natAbs ≤ X.n) (hz : litV X.val u = 0)
    (hr : 0 < X.st.length → (X.tr.length : Int) ∉ X.st → ∃ (k : Nat) (c : List Int), r = (k : Int) ∧ X.cl[k]? = some c ∧ u ∈ c ∧ ∀ y ∈ c, y ≠ u → -y ∈ X.tr) (hz0 : X.st = [] → Ent K [u]) (hst : ∀ y ∈ X.st, y ≤ (X.tr.length : Int)) : Cd K (putX X u r) := by
  have hlev : levAt X.st X.tr.length = X.st.length := levAt_all hst
  have hub : u.natAbs < X.lev.length := by rw [h.lv]; omega
  have hub2 : u.natAbs < X.rea.length := by rw [h.rl]; omega
  refine ⟨by rw [putX_lev, List.length_set]; exact h.lv, by rw [putX_rea, List.length_set]; exact h.rl, h.st_s, fun j x hx => ?_, fun j x hx hl hn => ?_, fun j x hx hl => ?_, h.ent⟩
  · rw [putX_tr] at hx
    rw [putX_lev, putX_st, getD_set2 _ _ _ _ hub]
    rcases tr_at_put hx with hx | ⟨rfl, rfl⟩
    · rw [if_neg (abs_ne w hu0 hun hz (List.mem_of_getElem? hx))]; exact h.lev j x hx
    · rw [if_pos rfl, hlev]
  · rw [putX_tr] at hx
    rw [putX_st] at hl hn
    rw [putX_rea, getD_set2 _ _ _ _ hub2]
    rcases tr_at_put hx with hx | ⟨rfl, rfl⟩
    · rw [if_neg (abs_ne w hu0 hun hz (List.mem_of_getElem? hx))]
      obtain ⟨k, c, h1, h2, h3, h4⟩ := h.rea j x hx hl hn
      have hj := (List.getElem?_eq_some_iff.mp hx).1
      exact ⟨k, c, h1, h2, h3, fun y hy hne => by rw [putX_tr, List.take_append_of_le_length (by omega)]; exact h4 y hy hne⟩
    · rw [if_pos rfl]
      rw [hlev] at hl
      obtain ⟨k, c, h1, h2, h3, h4⟩ := hr hl hn
      exact ⟨k, c, h1, h2, h3, fun y hy hne => by rw [putX_tr, List.take_left]; exact h4 y hy hne⟩
  · rw [putX_tr] at hx
    rw [putX_st] at hl
    rcases tr_at_put hx with hx | ⟨rfl, rfl⟩
    · exact h.zer j x hx hl
    · rw [hlev] at hl; exact hz0 (List.eq_nil_of_length_eq_zero hl)
theorem mea_put {X : SV} (w : Wf X) {u r : Int} (hu0 : u ≠ 0) (hun : u.natAbs ≤ X.n) (hz : litV X.val u = 0) (hst : ∀ y ∈ X.st, y ≤ (X.tr.length : Int)) : mea X + 1 ≤ mea (putX X u r) := by
  have hlen := (w.put hu0 hun hz (r := r)).trlen
  rw [putX_tr, List.length_append, List.length_singleton, putX_n] at hlen
  refine valF_lex (dig_le X) (p := X.tr.length) (fun j hj => ?_) ?_ X.n (by omega)
  · unfold dig
    rw [putX_tr, putX_st, List.length_append, List.length_singleton, if_pos hj, if_pos (show j < X.tr.length + 1 by omega)]
  · unfold dig
    rw [putX_tr, putX_st, List.length_append, List.length_singleton, if_neg (Nat.lt_irrefl _), if_pos (show X.tr.length < X.tr.length + 1 by omega)]
    split <;> omega
theorem WP.put {X : SV} (h : WP X) (hst : ∀ y ∈ X.st, 0 ≤ y ∧ y < X.tr.length) (u r : Int) : WP (putX X u r) := by
  intro y hy c hc
  have hb := hst y hy
  rw [putX_tr, List.take_append_of_le_length (by omega)]
  exact h y hy c hc
/-- What going on keeps. -/
structure JS (K CL : List (List Int)) (m0 : Nat) (X : SV) : Prop where
  cd : Cd K X
  st_b : ∀ y ∈ X.st, 0 ≤ y ∧ y < X.tr.length
  wp : WP X
  cl : X.cl = CL
  m : m0 ≤ mea X
theorem JS.step (K CL : List (List Int)) (m0 : Nat) : Step (JS K CL m0) := by
  refine ⟨fun X k c u w j hc hu hz hy => ?_, fun X d j => ⟨⟨j.cd.lv, j.cd.rl, j.cd.st_s, j.cd.lev, j.cd.rea, j.cd.zer, j.cd.ent⟩, j.st_b, j.wp, j.cl, j.m⟩⟩
  have hcm := List.mem_of_getElem? hc
  have hcr := (w.cl c hcm).2.2
  have hur := hcr u hu
  have hneg : ∀ y ∈ c, y ≠ u → -y ∈ X.tr := fun y hym hne => (w.neg (hcr y hym).1 (hcr y hym).2).mp (hy y hym hne)
  have hst : ∀ y ∈ X.st, y ≤ (X.tr.length : Int) := fun y hy => by have := (j.st_b y hy).2; omega
  refine ⟨j.cd.put w hur.1 hur.2 hz (fun _ _ => ⟨k, c, rfl, hc, hu, hneg⟩) (fun hs => ?_) hst, fun y hy => ⟨(j.st_b y hy).1, by rw [putX_tr, List.length_append]; have := (j.st_b y hy).2; simp; omega⟩, j.wp.put j.st_b u k, j.cl, ?_⟩
  · intro ν hm
    obtain ⟨y, hym, e⟩ := j.cd.ent c hcm ν hm
    by_cases hne : y = u
    · rw [hne] at e; exact ⟨u, by simp, e⟩
    · exfalso
      obtain ⟨q, hq⟩ := List.getElem?_of_mem (hneg y hym hne)
      have h1 := (j.cd.zer q (-y) hq (by rw [hs]; rfl)).one hm
      rw [satL_neg ν (hcr y hym).1, e] at h1; cases h1
  · have := mea_put w hur.1 hur.2 hz hst (r := (k : Int)); have := j.m; omega
end Go.Vm
namespace Go.Vm
set_option linter.unusedVariables false
set_option linter.unusedSimpArgs false
/-- What holds at the head of each turn of a search. -/
structure LI0 (K : List (List Int)) (X : SV) : Prop where
  w : Wf X
  cd : Cd K X
  st_b : ∀ y ∈ X.st, 0 ≤ y ∧ y < X.tr.length
  wp : WP X
  std : ∀ y ∈ X.st, y ≤ (X.done : Int)
  sub : ∀ c ∈ K, c ∈ X.cl
  b1 : X.cl.length ≤ 1000 + mea X
  b2 : ∀ k, (lookI X.inn k).length ≤ 1000000 + 1000 * mea X
  n : X.n ≤ 14
structure LI (K : List (List Int)) (X : SV) : Prop extends LI0 K X where
  wt : Watch X
theorem st_len {st : List Int} {m : Nat} (hs : st.Pairwise (· < ·)) (hb : ∀ y ∈ st, 0 ≤ y ∧ y < (m : Int)) : st.length ≤ m := by
  have h1 : (st.map fun y => y.toNat + 1).Nodup := by
    refine nodup_map_on (fun x hx y hy e => ?_) (hs.imp fun h => by omega)
    have := hb x hx; have := hb y hy; omega
  have h2 := nodup_le m _ h1 fun x hx => by
    obtain ⟨y, hy, rfl⟩ := List.mem_map.mp hx
    have := hb y hy; omega
  rwa [List.length_map] at h2
theorem LI0.sm {K : List (List Int)} {X : SV} (h : LI0 K X) : Sm X := by
  have hm := mea_lt X
  have hp : 3 ^ X.n ≤ 3 ^ 14 := Nat.pow_le_pow_right (by omega) h.n
  have hv : (3 : Nat) ^ 14 = 4782969 := by decide
  have ht := h.w.trlen
  have hs := st_len h.cd.st_s h.st_b
  have hn := h.n
  have := h.b1
  exact ⟨by omega, by omega, by omega, by omega, fun k => by have := h.b2 k; omega⟩
theorem LI0.js {K : List (List Int)} {X : SV} (h : LI0 K X) : JS K X.cl (mea X) X := ⟨h.cd, h.st_b, h.wp, rfl, Nat.le_refl _⟩
theorem aS_wf {X : SV} (w : Wf X) (y : Int) : Wf (X.aS y) := ⟨w.len, w.nd, w.rng, w.vb, w.vt, w.cl, w.occ, w.done⟩
/-- A decision. -/
theorem LI.decide {K : List (List Int)} {X : SV} (h : LI K X) (hd : X.done = X.tr.length) {u : Int} (hu0 : u ≠ 0) (hun : u.natAbs ≤ X.n) (hz : litV X.val u = 0) :
    LI K (putX (X.aS (X.tr.length : Int)) u (-1)) ∧ mea X + 1 ≤ mea (putX (X.aS (X.tr.length : Int)) u (-1)) := by
  have w1 := aS_wf h.w (X.tr.length : Int)
  have hmem : ∀ y ∈ (X.aS (X.tr.length : Int)).st, 0 ≤ y ∧ y ≤ (X.tr.length : Int) := fun y hy => by
    rw [SV.aS_st, List.mem_append, List.mem_singleton] at hy
    rcases hy with hy | rfl
    · have := h.st_b y hy; omega
    · omega
  have hla : ∀ j, j < X.tr.length → levAt (X.st ++ [(X.tr.length : Int)]) j = levAt X.st j := fun j hj => by rw [levAt_app, if_neg (by omega)]; rfl
  have cd1 : Cd K (X.aS (X.tr.length : Int)) := by
    refine ⟨h.cd.lv, h.cd.rl, ?_, fun j x hx => ?_, fun j x hx hl hn => ?_, fun j x hx hl => ?_, h.cd.ent⟩
    · rw [SV.aS_st]
      refine List.pairwise_append.mpr ⟨h.cd.st_s, by simp, fun a ha b hb => ?_⟩
      rw [List.mem_singleton] at hb
      have := (h.st_b a ha).2; omega
    · have hj := (List.getElem?_eq_some_iff.mp (show X.tr[j]? = some x from hx)).1
      rw [SV.aS_st, hla j hj]; exact h.cd.lev j x hx
    · have hj := (List.getElem?_eq_some_iff.mp (show X.tr[j]? = some x from hx)).1
      rw [SV.aS_st] at hl hn
      rw [hla j hj] at hl
      exact h.cd.rea j x hx hl fun hm => hn (List.mem_append_left _ hm)
    · have hj := (List.getElem?_eq_some_iff.mp (show X.tr[j]? = some x from hx)).1
      rw [SV.aS_st, hla j hj] at hl
      exact h.cd.zer j x hx hl
  have hlen := (w1.put hu0 hun hz (r := -1)).trlen
  rw [putX_tr, SV.aS_tr, List.length_append, List.length_singleton, putX_n, SV.aS_n] at hlen
  have hmea : mea X + 1 ≤ mea (putX (X.aS (X.tr.length : Int)) u (-1)) := by
    refine valF_lex (dig_le X) (p := X.tr.length) (fun j hj => ?_) ?_ X.n (by omega)
    · unfold dig
      rw [putX_tr, putX_st, SV.aS_tr, SV.aS_st, List.length_append, List.length_singleton, if_pos hj, if_pos (show j < X.tr.length + 1 by omega)]
      have : ((j : Int) ∈ X.st ++ [(X.tr.length : Int)]) = ((j : Int) ∈ X.st) := by
        rw [List.mem_append, List.mem_singleton]
        exact propext ⟨fun h => h.elim id fun h => by omega, .inl⟩
      simp only [this]
    · unfold dig
      rw [putX_tr, putX_st, SV.aS_tr, SV.aS_st, List.length_append, List.length_singleton, if_neg (Nat.lt_irrefl _), if_pos (show X.tr.length < X.tr.length + 1 by omega)]
      split <;> omega
  refine ⟨⟨⟨w1.put hu0 hun hz, cd1.put w1 hu0 hun hz (fun _ hn => absurd (by rw [SV.aS_st, SV.aS_tr]; simp) hn) (fun he => by rw [SV.aS_st] at he; simp at he) (fun y hy => (hmem y hy).2), fun y hy => ?_, ?_, fun y hy => ?_, h.sub, ?_, fun k => ?_, h.n⟩, fun c hc => ?_⟩, hmea⟩
  · have := hmem y hy
    rw [putX_tr, List.length_append, SV.aS_tr]; simp; omega
  · intro y hy c hc
    have hcc : c ∈ X.cl := hc
    rw [putX_st, SV.aS_st, List.mem_append, List.mem_singleton] at hy
    rw [putX_tr, SV.aS_tr]
    rcases hy with hy | rfl
    · have hb := h.st_b y hy
      rw [List.take_append_of_le_length (by omega)]
      exact h.wp y hy c hcc
    · rw [Int.toNat_natCast, List.take_left]
      have := h.wt c hcc
      rw [hd, List.take_length] at this; exact this
  · have := hmem y hy
    rw [putX_done, SV.aS_done, hd]; exact this.2
  · rw [putX_cl, SV.aS_cl]; have := h.b1; omega
  · rw [putX_inn, SV.aS_inn]; have := h.b2 k; omega
  · have := h.wt c hc
    rw [hd, List.take_length] at this
    rw [putX_tr, putX_done, SV.aS_tr, SV.aS_done, hd, List.take_left]
    exact this.mono (fun x hx => List.mem_append_left _ hx) fun x hx => hx
/-- What a conflict teaches. -/
structure Lrn (K : List (List Int)) (X : SV) (u : Int) (rest : List Int) (level : Nat) : Prop where
  up : ∃ j, X.tr[j]? = some (-u) ∧ levAt X.st j = X.st.length
  rp : ∀ y ∈ rest, ∃ j, X.tr[j]? = some (-y) ∧ 0 < levAt X.st j ∧ levAt X.st j ≤ level
  lv : level < X.st.length
  mx : rest ≠ [] → ∃ y ∈ rest, ∃ j, X.tr[j]? = some (-y) ∧ levAt X.st j = level
  em : rest = [] → level = 0
  nd : (u :: rest).Nodup
  ent : Ent K (u :: rest)
theorem zeroX_val (l : List Int) : ∀ (X : SV), (∀ x ∈ l, x.natAbs < X.val.length) → ∀ m, (zeroX X l).val.getD m 0 = if (∃ x ∈ l, x.natAbs = m) then 0 else X.val.getD m 0 := by
  induction l with
  | nil => intro X _ m; simp [zeroX]
  | cons a l ih =>
    intro X hl m
    show (zeroX (X.sV a.natAbs 0) l).val.getD m 0 = _
    rw [ih (X.sV a.natAbs 0) (fun x hx => by rw [SV.sV_val, List.length_set]; exact hl x (List.mem_cons_of_mem _ hx)) m, SV.sV_val, getD_set2 _ _ _ _ (hl a List.mem_cons_self)]
    by_cases h1 : ∃ x ∈ l, x.natAbs = m
    · obtain ⟨x, hx, e⟩ := h1
      rw [if_pos ⟨x, hx, e⟩, if_pos ⟨x, List.mem_cons_of_mem _ hx, e⟩]
    · rw [if_neg h1]
      by_cases h2 : m = a.natAbs
      · rw [if_pos h2, if_pos ⟨a, List.mem_cons_self, h2.symm⟩]
      · rw [if_neg h2, if_neg]
        rintro ⟨x, hx, e⟩
        rcases List.mem_cons.mp hx with rfl | hx
        · exact h2 e.symm
        · exact h1 ⟨x, hx, e⟩
theorem tr_inj {X : SV} (w : Wf X) {i j : Nat} {x y : Int} (hi : X.tr[i]? = some x) (hj : X.tr[j]? = some y) (e : x.natAbs = y.natAbs) : i = j := by
  have h1 : (X.tr.map Int.natAbs)[i]? = some x.natAbs := by rw [List.getElem?_map, hi]; rfl
  have h2 : (X.tr.map Int.natAbs)[j]? = some y.natAbs := by rw [List.getElem?_map, hj]; rfl
  obtain ⟨l1, g1⟩ := List.getElem?_eq_some_iff.mp h1
  obtain ⟨l2, g2⟩ := List.getElem?_eq_some_iff.mp h2
  exact (List.getElem_inj (h₀ := l1) (h₁ := l2) w.nd).mp (by rw [g1, g2, e])
section
variable {K : List (List Int)} {X : SV} {level p : Nat}
/-- A search that has gone back. -/
theorem back_facts (h : LI0 K X) (hl : level < X.st.length) (hp : X.st[level] = (p : Int)) :
    backX X level = ((zeroX X (X.tr.drop p)).cT p).cS level ∧ p < X.tr.length ∧ p ≤ X.done ∧ Wf ((backX X level).sD p) ∧ Cd K ((backX X level).sD p) ∧ (∀ y ∈ X.st.take level, 0 ≤ y ∧ y < (p : Int)) ∧ WP ((backX X level).sD p) ∧ Watch ((backX X level).sD p) ∧
      (∀ i, i < p → levAt (X.st.take level) i = levAt X.st i) := by
  have hmem := List.getElem_mem hl
  have hb := h.st_b _ hmem
  have hdn := h.std _ hmem
  rw [hp] at hb hdn
  have hpt : p < X.tr.length := by omega
  have hgd : (X.st.getD level 0).toNat = p := by rw [List.getD_eq_getElem?_getD, List.getElem?_eq_getElem hl, hp]; rfl
  have hbk : backX X level = ((zeroX X (X.tr.drop p)).cT p).cS level := by unfold backX; rw [if_neg (by omega), hgd]
  obtain ⟨z1, z2, z3, z4, z5, z6, z7, z8, z9⟩ := zeroX_keeps (X.tr.drop p) X
  have en : ((backX X level).sD p).n = X.n := by rw [hbk]; exact z1
  have et : ((backX X level).sD p).tr = X.tr.take p := by rw [hbk]; show (zeroX X _).tr.take p = _; rw [z2]
  have es : ((backX X level).sD p).st = X.st.take level := by rw [hbk]; show (zeroX X _).st.take level = _; rw [z3]
  have ec : ((backX X level).sD p).cl = X.cl := by rw [hbk]; exact z4
  have ei : ((backX X level).sD p).inn = X.inn := by rw [hbk]; exact z5
  have elv : ((backX X level).sD p).lev = X.lev := by rw [hbk]; exact z8
  have erl : ((backX X level).sD p).rea = X.rea := by rw [hbk]; exact z9
  have ev : ∀ m, ((backX X level).sD p).val.getD m 0 = if (∃ x ∈ X.tr.drop p, x.natAbs = m) then 0 else X.val.getD m 0 := fun m => by
    rw [hbk]
    exact zeroX_val _ X (fun x hx => by rw [h.w.len]; have := (h.w.rng x (List.mem_of_mem_drop hx)).2; omega) m
  have hvl : ((backX X level).sD p).val.length = X.n + 1 := by
    rw [hbk]
    show (zeroX X _).val.length = _
    have : ∀ (l : List Int) (X : SV), (zeroX X l).val.length = X.val.length := by
      intro l
      induction l with
      | nil => intro X; rfl
      | cons a l ih => intro X; show (zeroX (X.sV a.natAbs 0) l).val.length = _; rw [ih, SV.sV_val, List.length_set]
    rw [this, h.w.len]
  have hsplit : X.tr.take p ++ X.tr.drop p = X.tr := List.take_append_drop p X.tr
  have hnd := h.w.nd
  rw [← hsplit, List.map_append, List.nodup_append] at hnd
  have hdis : ∀ x ∈ X.tr.take p, ∀ z ∈ X.tr.drop p, x.natAbs ≠ z.natAbs := fun x hx z hz => hnd.2.2 _ (List.mem_map_of_mem hx) _ (List.mem_map_of_mem hz)
  have hl2 : ∀ y : Int, litV ((backX X level).sD p).val y = if (∃ x ∈ X.tr.drop p, x.natAbs = y.natAbs) then 0 else litV X.val y := fun y => by
    unfold litV
    rw [ev]
    by_cases hq : ∃ x ∈ X.tr.drop p, x.natAbs = y.natAbs
    · rw [if_pos hq, if_pos hq]; split <;> rfl
    · rw [if_neg hq, if_neg hq]
  have hst : ∀ y ∈ X.st.take level, 0 ≤ y ∧ y < (p : Int) := fun y hy => by
    refine ⟨(h.st_b y (List.mem_of_mem_take hy)).1, ?_⟩
    obtain ⟨i, hi, rfl⟩ := List.getElem_of_mem hy
    rw [List.length_take] at hi
    rw [List.getElem_take, ← hp]
    exact List.pairwise_iff_getElem.mp h.cd.st_s i level (by omega) hl (by omega)
  have hlev : ∀ i, i < p → levAt (X.st.take level) i = levAt X.st i := fun i hi => by
    have e : X.st = X.st.take level ++ X.st.drop level := (List.take_append_drop level X.st).symm
    have : levAt X.st i = levAt (X.st.take level) i + (X.st.drop level).countP (fun y => decide (y ≤ (i : Int))) := by
      conv => lhs; rw [e]
      unfold levAt
      rw [List.countP_append]
    rw [this]
    have hz : (X.st.drop level).countP (fun y => decide (y ≤ (i : Int))) = 0 := by
      rw [List.countP_eq_zero]
      intro y hy
      obtain ⟨q, hq, rfl⟩ := List.getElem_of_mem hy
      rw [List.length_drop] at hq
      rw [List.getElem_drop]
      have : X.st[level] ≤ X.st[level + q] := by
        by_cases e0 : q = 0
        · subst e0; exact Int.le_refl _
        · exact Int.le_of_lt (List.pairwise_iff_getElem.mp h.cd.st_s level (level + q) hl (by omega) (by omega))
      rw [hp] at this
      simp; omega
    omega
  have hat : ∀ j x, (X.tr.take p)[j]? = some x → X.tr[j]? = some x ∧ j < p := fun j x hx => by
    have hj := (List.getElem?_eq_some_iff.mp hx).1
    rw [List.length_take] at hj
    rw [List.getElem?_take_of_lt (by omega)] at hx
    exact ⟨hx, by omega⟩
  refine ⟨hbk, hpt, by omega, ⟨by rw [hvl, en], ?_, ?_, ?_, ?_, by rw [ec, en]; exact h.w.cl, by rw [ei, ec]; exact h.w.occ, by rw [et, List.length_take, SV.sD_done]; omega⟩, ⟨by rw [elv, en]; exact h.cd.lv, by rw [erl, en]; exact h.cd.rl, by rw [es]; exact h.cd.st_s.sublist (List.take_sublist _ _), ?_, ?_, ?_, by rw [ec]; exact h.cd.ent⟩, hst, ?_, ?_, hlev⟩
  · rw [et]; exact hnd.1
  · intro x hx; rw [et] at hx; rw [en]; exact h.w.rng x (List.mem_of_mem_take hx)
  · intro v hv
    obtain ⟨i, hi, rfl⟩ := List.getElem_of_mem hv
    have := ev i
    rw [List.getD_eq_getElem?_getD, List.getElem?_eq_getElem hi] at this
    simp only [Option.getD_some] at this
    rw [this]
    split
    · omega
    · rw [List.getD_eq_getElem?_getD]
      cases e : X.val[i]? with
      | none => simp
      | some v => exact h.w.vb v (List.mem_of_getElem? e)
  · intro x h0 hn
    rw [en] at hn
    rw [hl2, et]
    by_cases hq : ∃ z ∈ X.tr.drop p, z.natAbs = x.natAbs
    · rw [if_pos hq]
      obtain ⟨z, hz, e⟩ := hq
      constructor
      · intro e; omega
      · intro hx; exact absurd e.symm (hdis x hx z hz)
    · rw [if_neg hq, h.w.vt x h0 hn]
      constructor
      · intro hx
        rw [← hsplit, List.mem_append] at hx
        rcases hx with hx | hx
        · exact hx
        · exact absurd ⟨x, hx, rfl⟩ hq
      · exact fun hx => List.mem_of_mem_take hx
  · intro j x hx
    rw [et] at hx
    obtain ⟨hx, hj⟩ := hat j x hx
    rw [elv, es, hlev j hj]; exact h.cd.lev j x hx
  · intro j x hx hl' hn
    rw [et] at hx
    obtain ⟨hx, hj⟩ := hat j x hx
    rw [es] at hl' hn
    rw [hlev j hj] at hl'
    have hn' : (j : Int) ∉ X.st := fun hm => by
      obtain ⟨i, hi, e⟩ := List.getElem_of_mem hm
      apply hn
      have : i < level := by
        apply Classical.byContradiction; intro hc
        have : X.st[level] ≤ X.st[i] := by
          by_cases e0 : i = level
          · subst e0; exact Int.le_refl _
          · exact Int.le_of_lt (List.pairwise_iff_getElem.mp h.cd.st_s level i hl hi (by omega))
        omega
      rw [← e]
      exact List.mem_iff_getElem.mpr ⟨i, by rw [List.length_take]; omega, by rw [List.getElem_take]⟩
    obtain ⟨k, c, r1, r2, r3, r4⟩ := h.cd.rea j x hx hl' hn'
    exact ⟨k, c, by rw [erl]; exact r1, by rw [ec]; exact r2, r3, fun y hy hne => by rw [et, List.take_take, Nat.min_eq_left (by omega)]; exact r4 y hy hne⟩
  · intro j x hx hl'
    rw [et] at hx
    obtain ⟨hx, hj⟩ := hat j x hx
    rw [es, hlev j hj] at hl'
    exact h.cd.zer j x hx hl'
  · intro y hy c hc
    rw [es] at hy
    rw [ec] at hc
    have hb := hst y hy
    rw [et, List.take_take, Nat.min_eq_left (by omega)]
    exact h.wp y (List.mem_of_mem_take hy) c hc
  · intro c hc
    rw [ec] at hc
    have := h.wp _ hmem c hc
    rw [hp, Int.toNat_natCast] at this
    rw [et, SV.sD_done, List.take_take, Nat.min_self]
    exact this
end
end Go.Vm
namespace Go.Vm
set_option linter.unusedVariables false
set_option linter.unusedSimpArgs false
theorem ents_put (j : Int) (u r : Int) (c : List Int) : ∀ (X : SV), entsX j (putX X u r) c = putX (entsX j X c) u r := by
  induction c with
  | nil => intro X; rfl
  | cons a c ih => intro X; exact ih (X.aE a j)
/-- A clause that was learned, kept, its first literal put. -/
def lrnX (X : SV) (c : List Int) (u r : Int) : SV := putX (entsX (X.cl.length : Int) (X.aL c) c) u r
theorem nd_in {K : List (List Int)} {X : SV} {u : Int} {rest : List Int} {level : Nat} (h : LI0 K X) (L : Lrn K X u rest level) : ∀ y ∈ u :: rest, y ≠ 0 ∧ y.natAbs ≤ X.n := fun y hy => by
  rcases List.mem_cons.mp hy with rfl | hy
  · obtain ⟨j, hj, _⟩ := L.up
    have := h.w.rng _ (List.mem_of_getElem? hj); omega
  · obtain ⟨j, hj, _⟩ := L.rp y hy
    have := h.w.rng _ (List.mem_of_getElem? hj); omega
section
variable {K : List (List Int)} {X : SV} {level p : Nat} {u : Int} {rest : List Int}
theorem back_lits (h : LI0 K X) (L : Lrn K X u rest level) (hp : X.st[level]'L.lv = (p : Int)) :
    litV ((backX X level).sD p).val u = 0 ∧ ∀ y ∈ rest, litV ((backX X level).sD p).val y = -1 := by
  obtain ⟨hbk, hpt, hpd, hw, hcd, hst, hwp, hwt, hlev⟩ := back_facts h L.lv hp
  have hr := nd_in h L
  have en : ((backX X level).sD p).n = X.n := by rw [hbk]; exact (zeroX_keeps (X.tr.drop p) X).1
  have et : ((backX X level).sD p).tr = X.tr.take p := by rw [hbk]; show (zeroX X _).tr.take p = _; rw [(zeroX_keeps (X.tr.drop p) X).2.1]
  obtain ⟨j, hj, hjl⟩ := L.up
  have hpj : p ≤ j := by
    have := (levAt_sorted h.cd.st_s L.lv j).mpr (by rw [hjl]; exact L.lv)
    rw [hp] at this; omega
  have hu := hr u List.mem_cons_self
  refine ⟨?_, fun y hy => ?_⟩
  · rw [hw.zero hu.1 (by rw [en]; exact hu.2), et]
    constructor
    · intro hm
      obtain ⟨i, hi⟩ := List.getElem?_of_mem hm
      have hi1 := (List.getElem?_eq_some_iff.mp hi).1
      rw [List.length_take] at hi1
      rw [List.getElem?_take_of_lt (by omega)] at hi
      have := tr_inj h.w hi hj (by omega)
      omega
    · intro hm
      obtain ⟨i, hi⟩ := List.getElem?_of_mem hm
      have hi1 := (List.getElem?_eq_some_iff.mp hi).1
      rw [List.length_take] at hi1
      rw [List.getElem?_take_of_lt (by omega)] at hi
      have := tr_inj h.w hi hj rfl
      omega
  · have hyr := hr y (List.mem_cons_of_mem _ hy)
    rw [hw.neg hyr.1 (by rw [en]; exact hyr.2), et]
    obtain ⟨i, hi, h1, h2⟩ := L.rp y hy
    have : i < p := by
      apply Classical.byContradiction; intro hc
      have := (levAt_sorted h.cd.st_s L.lv i).mp (by rw [hp]; omega)
      omega
    exact List.mem_of_getElem? (by rw [List.getElem?_take_of_lt this]; exact hi)
theorem LI0.learn (h : LI0 K X) (L : Lrn K X u rest level) (hp : X.st[level]'L.lv = (p : Int)) (r : Int) (hrr : rest ≠ [] → r = (X.cl.length : Int)) :
    LI K (lrnX ((backX X level).sD p) (u :: rest) u r) ∧ mea X + 1 ≤ mea (lrnX ((backX X level).sD p) (u :: rest) u r) := by
  obtain ⟨hbk, hpt, hpd, hw, hcd, hst, hwp, hwt, hlev⟩ := back_facts h L.lv hp
  obtain ⟨hlu, hlr⟩ := back_lits h L hp
  have hr := nd_in h L
  obtain ⟨z1, z2, z3, z4, z5, z6, z7, z8, z9⟩ := zeroX_keeps (X.tr.drop p) X
  have en : ((backX X level).sD p).n = X.n := by rw [hbk]; exact z1
  have et : ((backX X level).sD p).tr = X.tr.take p := by rw [hbk]; show (zeroX X _).tr.take p = _; rw [z2]
  have es : ((backX X level).sD p).st = X.st.take level := by rw [hbk]; show (zeroX X _).st.take level = _; rw [z3]
  have ec : ((backX X level).sD p).cl = X.cl := by rw [hbk]; exact z4
  have ei : ((backX X level).sD p).inn = X.inn := by rw [hbk]; exact z5
  have ed : ((backX X level).sD p).done = p := rfl
  have hup := L.up
  generalize (backX X level).sD p = Y at *
  have htl : Y.tr.length = p := by rw [et, List.length_take]; omega
  have hu := hr u List.mem_cons_self
  have w3 := hw.keep (c := u :: rest) ⟨by simp, L.nd, fun y hy => by rw [en]; exact hr y hy⟩
  obtain ⟨k1, k2, k3, k4, k5, k6, k7, k8, k9⟩ := entsX_keeps (Y.cl.length : Int) (u :: rest) (Y.aL (u :: rest))
  have hlk := entsX_look (Y.cl.length : Int) (u :: rest) (Y.aL (u :: rest))
  unfold lrnX
  have f1 : (entsX (Y.cl.length : Int) (Y.aL (u :: rest)) (u :: rest)).n = X.n := by rw [k1]; exact en
  have f2 : (entsX (Y.cl.length : Int) (Y.aL (u :: rest)) (u :: rest)).st = X.st.take level := by rw [k2]; exact es
  have f3 : (entsX (Y.cl.length : Int) (Y.aL (u :: rest)) (u :: rest)).cl = X.cl ++ [u :: rest] := by rw [k3, SV.aL_cl, ec]
  have f4 : (entsX (Y.cl.length : Int) (Y.aL (u :: rest)) (u :: rest)).tr = X.tr.take p := by rw [k4]; exact et
  have f6 : (entsX (Y.cl.length : Int) (Y.aL (u :: rest)) (u :: rest)).done = p := by rw [k6]; exact ed
  have cd3 : Cd K (entsX (Y.cl.length : Int) (Y.aL (u :: rest)) (u :: rest)) := by
    refine ⟨by rw [k8, k1]; exact hcd.lv, by rw [k9, k1]; exact hcd.rl, by rw [k2]; exact hcd.st_s, by rw [k4, k8, k2]; exact hcd.lev, fun j x hx hl hn => ?_, by rw [k4, k2]; exact hcd.zer, fun c hc => ?_⟩
    · rw [k4] at hx
      rw [k2] at hl hn
      obtain ⟨k, c, r1, r2, r3, r4⟩ := hcd.rea j x hx hl hn
      exact ⟨k, c, by rw [k9]; exact r1, by rw [k3, SV.aL_cl, List.getElem?_append_left (List.getElem?_eq_some_iff.mp r2).1]; exact r2, r3, by rw [k4]; exact r4⟩
    · rw [f3, List.mem_append, List.mem_singleton] at hc
      rcases hc with hc | rfl
      · exact hcd.ent c (by rw [ec]; exact hc)
      · exact L.ent
  have hz3 : litV (entsX (Y.cl.length : Int) (Y.aL (u :: rest)) (u :: rest)).val u = 0 := by rw [k5]; exact hlu
  have hstl : ∀ y ∈ (entsX (Y.cl.length : Int) (Y.aL (u :: rest)) (u :: rest)).st, y ≤ ((entsX (Y.cl.length : Int) (Y.aL (u :: rest)) (u :: rest)).tr.length : Int) := fun y hy => by
    rw [f2] at hy
    have := (hst y hy).2
    rw [k4]; show y ≤ (Y.tr.length : Int); omega
  have hneg : ∀ y ∈ rest, -y ∈ X.tr.take p := fun y hy => by
    have hyr := hr y (List.mem_cons_of_mem _ hy)
    rw [← et]; exact (hw.neg hyr.1 (by rw [en]; exact hyr.2)).mp (hlr y hy)
  have hlev0 : rest ≠ [] → 0 < level := fun hne => by
    obtain ⟨y, hy, _⟩ := L.mx hne
    obtain ⟨j, _, h1, h2⟩ := L.rp y hy
    omega
  have hu0 : -u ∉ X.tr.take p := by rw [← et]; exact ((hw.zero hu.1 (by rw [en]; exact hu.2)).mp hlu).2
  have hmea : mea X + 1 ≤ mea (putX (entsX (Y.cl.length : Int) (Y.aL (u :: rest)) (u :: rest)) u r) := by
    have hn' : p < X.n := by have := h.w.trlen; omega
    unfold mea
    rw [show (putX (entsX (Y.cl.length : Int) (Y.aL (u :: rest)) (u :: rest)) u r).n = X.n from f1]
    have hlen : (X.tr.take p ++ [u]).length = p + 1 := by rw [List.length_append, List.length_take, List.length_singleton]; omega
    refine valF_lex (dig_le X) (p := p) (fun j hj => ?_) ?_ X.n hn'
    · unfold dig
      rw [putX_tr, putX_st, f4, f2, hlen, if_pos (show j < X.tr.length by omega), if_pos (show j < p + 1 by omega)]
      have : ((j : Int) ∈ X.st) = ((j : Int) ∈ X.st.take level) := by
        apply propext
        constructor
        · intro hm
          obtain ⟨i, hi, e⟩ := List.getElem_of_mem hm
          have : i < level := by
            apply Classical.byContradiction; intro hc
            have : X.st[level]'L.lv ≤ X.st[i] := by
              by_cases e0 : i = level
              · subst e0; exact Int.le_refl _
              · exact Int.le_of_lt (List.pairwise_iff_getElem.mp h.cd.st_s level i L.lv hi (by omega))
            omega
          rw [← e]
          exact List.mem_iff_getElem.mpr ⟨i, by rw [List.length_take]; omega, by rw [List.getElem_take]⟩
        · exact fun hm => List.mem_of_mem_take hm
      simp only [this]
    · unfold dig
      rw [putX_tr, putX_st, f4, f2, hlen, if_pos hpt, if_pos (show p < p + 1 by omega), if_pos (by rw [← hp]; exact List.getElem_mem L.lv), if_neg (fun hm => by have := (hst _ hm).2; omega)]
      omega
  have hput := w3.put hu.1 (by rw [f1]; exact hu.2) hz3 (r := r)
  refine ⟨⟨⟨hput, cd3.put w3 hu.1 (by rw [f1]; exact hu.2) hz3 (fun hl hn => ?_) (fun he => ?_) hstl, fun y hy => ?_, ?_, fun y hy => ?_, fun c hc => ?_, ?_, fun k => ?_, by rw [putX_n, f1]; exact h.n⟩, fun c hc => ?_⟩, hmea⟩
  · rw [f2] at hl
    have hne : rest ≠ [] := fun e => by rw [L.em e] at hl; simp at hl
    refine ⟨X.cl.length, u :: rest, hrr hne, by rw [f3]; simp, by simp, fun y hy hyu => ?_⟩
    rw [f4]
    rcases List.mem_cons.mp hy with rfl | hy
    · exact absurd rfl hyu
    · exact hneg y hy
  · rw [f2] at he
    have hl0 : level = 0 := by
      have := congrArg List.length he
      rw [List.length_take, List.length_nil] at this
      have := L.lv; omega
    have : rest = [] := by
      apply Classical.byContradiction; intro hne
      have := hlev0 hne; omega
    have hen := L.ent
    rw [this] at hen; exact hen
  · rw [putX_st, f2] at hy
    rw [putX_tr, f4, List.length_append, List.length_take, List.length_singleton]
    have := hst y hy; omega
  · intro y hy c hc
    rw [putX_st, f2] at hy
    rw [putX_cl, f3, List.mem_append, List.mem_singleton] at hc
    have hyp := hst y hy
    have e1 : (X.tr.take p ++ [u]).take y.toNat = X.tr.take y.toNat := by rw [List.take_append_of_le_length (by rw [List.length_take]; omega), List.take_take, Nat.min_eq_left (by omega)]
    rw [putX_tr, f4, e1]
    rcases hc with hc | rfl
    · have := hwp y (by rw [es]; exact hy) c (by rw [ec]; exact hc)
      rw [et, List.take_take, Nat.min_eq_left (by omega)] at this
      exact this
    · obtain ⟨i, hi, e⟩ := List.getElem_of_mem hy
      rw [List.length_take] at hi
      rw [List.getElem_take] at e
      have hne : rest ≠ [] := fun e0 => by have := L.em e0; omega
      obtain ⟨q, hq, j, hj, hjl⟩ := L.mx hne
      have hq1 : u ≠ q := fun e0 => by have := L.nd; rw [e0] at this; exact (List.nodup_cons.mp this).1 hq
      refine .inr ⟨u, by simp, q, by simp [hq], hq1, fun hm => ?_, fun hm => ?_⟩
      · apply hu0
        have : X.tr.take y.toNat = (X.tr.take p).take y.toNat := by rw [List.take_take, Nat.min_eq_left (by omega)]
        rw [this] at hm; exact List.mem_of_mem_take hm
      · obtain ⟨j', hj'⟩ := List.getElem?_of_mem hm
        have hj1 := (List.getElem?_eq_some_iff.mp hj').1
        rw [List.length_take] at hj1
        rw [List.getElem?_take_of_lt (by omega)] at hj'
        have := tr_inj h.w hj' hj rfl
        have h5 := (levAt_sorted h.cd.st_s (show i < X.st.length by omega) j).mpr (by omega)
        omega
  · rw [putX_st, f2] at hy
    rw [putX_done, f6]
    have := (hst y hy).2; omega
  · rw [putX_cl, f3]; exact List.mem_append_left _ (h.sub c hc)
  · rw [putX_cl, f3, List.length_append, List.length_singleton]; have := h.b1; omega
  · rw [putX_inn]
    have h1 := hlk k
    rw [SV.aL_inn, ei] at h1
    have h2 := h.b2 k
    have h3 := nodup_le2 (u :: rest) X.n L.nd hr
    have h4 := h.n
    omega
  · rw [putX_cl, f3, List.mem_append, List.mem_singleton] at hc
    rw [putX_tr, putX_done, f4, f6]
    have e1 : (X.tr.take p ++ [u]).take p = X.tr.take p := by rw [List.take_append_of_le_length (by rw [List.length_take]; omega), List.take_take, Nat.min_self]
    rw [e1]
    rcases hc with hc | rfl
    · have := hwt c (by rw [ec]; exact hc)
      rw [et, ed, List.take_take, Nat.min_self] at this
      exact this.mono (fun x hx => List.mem_append_left _ hx) fun x hx => hx
    · exact .inl ⟨u, by simp, by simp⟩
end
/-- All are wrong where nothing was tried: there is no way. -/
theorem LI.dead {K : List (List Int)} {X : SV} (w : Wf X) (cd : Cd K X) (hs : X.st = []) {c : List Int} (hc : c ∈ X.cl) (hy : ∀ y ∈ c, litV X.val y = -1) : ∀ ν, ¬ Mod ν K := by
  intro ν hm
  obtain ⟨y, hym, e⟩ := cd.ent c hc ν hm
  have hr := (w.cl c hc).2.2 y hym
  obtain ⟨j, hj⟩ := List.getElem?_of_mem ((w.neg hr.1 hr.2).mp (hy y hym))
  have h1 := (cd.zer j (-y) hj (by rw [hs]; rfl)).one hm
  rw [satL_neg ν hr.1, e] at h1; cases h1
/-- All have a value: it is a way. -/
theorem LI.full {K : List (List Int)} {X : SV} (w : Wf X) (wt : Watch X) (hd : X.done = X.tr.length) (hsub : ∀ c ∈ K, c ∈ X.cl) (hv : ∀ m, 1 ≤ m → m ≤ X.n → X.val.getD m 0 ≠ 0) : ∀ c ∈ K, ∃ x ∈ c, litV X.val x = 1 := by
  intro c hc
  have hcl := hsub c hc
  have hr := (w.cl c hcl).2.2
  have h := wt c hcl
  rw [hd, List.take_length] at h
  have hnz : ∀ x ∈ c, litV X.val x ≠ 0 := fun x hx => by
    have := hv x.natAbs (by have := (hr x hx).1; omega) (hr x hx).2
    unfold litV; split <;> omega
  rcases h with ⟨x, hx, hxt⟩ | ⟨x, hx, y, hy, _, h1, _⟩
  · exact ⟨x, hx, (w.vt x (hr x hx).1 (hr x hx).2).mpr hxt⟩
  · refine ⟨x, hx, ?_⟩
    have h2 := hnz x hx
    have h3 : litV X.val x ≠ -1 := fun e => h1 ((w.neg (hr x hx).1 (hr x hx).2).mp e)
    have := w.lb x
    omega
end Go.Vm
namespace Go.Vm
set_option linter.unusedVariables false
set_option linter.unusedSimpArgs false
def sv (X : SV) (seen : List Bool) (j : Nat) : Bool := seen.getD (X.tr.getD j 0).natAbs false
def pend (X : SV) (seen : List Bool) (q : Nat) : List Nat := (List.range q).filter fun j => decide (levAt X.st j = X.st.length) && sv X seen j
theorem pend_mem {X : SV} {seen : List Bool} {q j : Nat} : j ∈ pend X seen q ↔ j < q ∧ levAt X.st j = X.st.length ∧ sv X seen j = true := by
  unfold pend
  rw [List.mem_filter, List.mem_range, Bool.and_eq_true, decide_eq_true_eq]
theorem pend_succ (X : SV) (seen : List Bool) (q : Nat) : pend X seen (q + 1) = if levAt X.st q = X.st.length ∧ sv X seen q = true then pend X seen q ++ [q] else pend X seen q := by
  unfold pend
  rw [List.range_succ, List.filter_append]
  by_cases h : levAt X.st q = X.st.length ∧ sv X seen q = true
  · rw [if_pos h]; simp [h.1, h.2]
  · rw [if_neg h]
    have : (decide (levAt X.st q = X.st.length) && sv X seen q) = false := by
      rw [Bool.eq_false_iff]; intro e
      rw [Bool.and_eq_true, decide_eq_true_eq] at e
      exact h e
    simp [this]
theorem getB_set (S : List Bool) (j m : Nat) (x : Bool) (hj : j < S.length) : (S.set j x).getD m false = if m = j then x else S.getD m false := by
  rw [List.getD_eq_getElem?_getD, List.getElem?_set, List.getD_eq_getElem?_getD]
  by_cases e : j = m
  · subst e; rw [if_pos rfl, if_pos hj, if_pos rfl]; rfl
  · rw [if_neg e, if_neg fun h => e h.symm]
theorem filter_one (p p' : Nat → Bool) (j : Nat) (hp : p j = false) (hp' : p' j = true) (h : ∀ i, i ≠ j → p' i = p i) : ∀ q, ((List.range q).filter p').length = ((List.range q).filter p).length + (if j < q then 1 else 0) := by
  intro q
  induction q with
  | zero => simp
  | succ q ih =>
    rw [List.range_succ, List.filter_append, List.filter_append, List.length_append, List.length_append, ih]
    by_cases e : q = j
    · subst e; rw [if_neg (Nat.lt_irrefl _), if_pos (Nat.lt_succ_self _)]; simp [hp, hp']
    · have h1 := h q e
      by_cases hj : j < q
      · rw [if_pos hj, if_pos (by omega)]; simp only [List.filter_cons, List.filter_nil, h1]; omega
      · rw [if_neg hj, if_neg (by omega)]; simp only [List.filter_cons, List.filter_nil, h1]; omega
theorem getD_tr {tr : List Int} {j : Nat} {x : Int} (h : tr[j]? = some x) : tr.getD j 0 = x := by rw [List.getD_eq_getElem?_getD, h]; rfl
theorem list_snoc2 {α : Type} {P : List α → Prop} (h0 : P []) (h1 : ∀ l a, P l → P (l ++ [a])) (l : List α) : P l := by
  have : ∀ l : List α, P l.reverse := by
    intro l
    induction l with
    | nil => exact h0
    | cons a l ih => rw [List.reverse_cons]; exact h1 _ _ ih
  have h := this l.reverse
  rwa [List.reverse_reverse] at h
structure LB (X : SV) (q : Nat) (seen : List Bool) (O : List Int) : Prop where
  len : seen.length = X.n + 1
  q : q ≤ X.tr.length
  o1 : ∀ y ∈ O, ∃ j, X.tr[j]? = some (-y) ∧ 0 < levAt X.st j ∧ levAt X.st j < X.st.length ∧ seen.getD y.natAbs false = true
  o2 : O.Nodup
  o3 : ∀ j x, X.tr[j]? = some x → sv X seen j = true → 0 < levAt X.st j → levAt X.st j < X.st.length → -x ∈ O
/-- Ahead of a clause that is looked at. -/
structure LS (K : List (List Int)) (X : SV) (c : List Int) (told : Int) (q : Nat) (seen : List Bool) (O : List Int) : Prop where
  b : LB X q seen O
  cr : ∀ y ∈ c, y ≠ 0 ∧ y.natAbs ≤ X.n
  c2 : ∀ y ∈ c, y ≠ told → ∃ j, j < q ∧ X.tr[j]? = some (-y)
  ent : ∀ ν, Mod ν K → (∃ y ∈ c, y ≠ told ∧ satL ν y = true) ∨ (∃ j ∈ pend X seen q, satL ν (-(X.tr.getD j 0)) = true) ∨ ∃ y ∈ O, satL ν y = true
  cur : pend X seen q ≠ [] ∨ ∃ y ∈ c, y ≠ told ∧ ∃ j, X.tr[j]? = some (-y) ∧ levAt X.st j = X.st.length
/-- Within it. -/
structure LP (K : List (List Int)) (X : SV) (c : List Int) (told : Int) (q : Nat) (r : Nat) (seen : List Bool) (O : List Int) : Prop where
  s : LS K X c told q seen O
  pr : ∀ y ∈ c.take r, y ≠ told → (∃ j, X.tr[j]? = some (-y) ∧ levAt X.st j = 0) ∨ (∃ j ∈ pend X seen q, X.tr[j]? = some (-y)) ∨ y ∈ O
/-- Behind it. -/
structure LQ (K : List (List Int)) (X : SV) (q : Nat) (seen : List Bool) (O : List Int) : Prop where
  b : LB X q seen O
  ent : ∀ ν, Mod ν K → (∃ j ∈ pend X seen q, satL ν (-(X.tr.getD j 0)) = true) ∨ ∃ y ∈ O, satL ν y = true
  ne : pend X seen q ≠ []
section
variable {K : List (List Int)} {X : SV} {c : List Int} {told : Int} {q r : Nat} {seen : List Bool} {O : List Int}
theorem LP.start (h : LS K X c told q seen O) : LP K X c told q 0 seen O := ⟨h, by intro y hy; cases hy⟩
theorem LP.same (h : LP K X c told q r seen O) (hr : r < c.length) (e : c[r] = told) : LP K X c told q (r + 1) seen O := ⟨h.s, fun y hy hne => by
  rw [← List.take_append_getElem hr, List.mem_append, List.mem_singleton] at hy
  rcases hy with hy | rfl
  · exact h.pr y hy hne
  · exact absurd e hne⟩
theorem LP.zero (h : LP K X c told q r seen O) (hr : r < c.length) {j : Nat} (hj : X.tr[j]? = some (-c[r])) (hl : levAt X.st j = 0) : LP K X c told q (r + 1) seen O := ⟨h.s, fun y hy hne => by
  rw [← List.take_append_getElem hr, List.mem_append, List.mem_singleton] at hy
  rcases hy with hy | rfl
  · exact h.pr y hy hne
  · exact .inl ⟨j, hj, hl⟩⟩
theorem LP.old (h : LP K X c told q r seen O) (hr : r < c.length) (hne : c[r] ≠ told) (hs : seen.getD c[r].natAbs false = true) : LP K X c told q (r + 1) seen O := by
  obtain ⟨j, hjq, hj⟩ := h.s.c2 _ (List.getElem_mem hr) hne
  have hsv : sv X seen j = true := by unfold sv; rw [getD_tr hj, Int.natAbs_neg]; exact hs
  refine ⟨h.s, fun y hy hny => ?_⟩
  rw [← List.take_append_getElem hr, List.mem_append, List.mem_singleton] at hy
  rcases hy with hy | rfl
  · exact h.pr y hy hny
  · have hle := levAt_le X.st j
    by_cases h0 : levAt X.st j = 0
    · exact .inl ⟨j, hj, h0⟩
    · by_cases hL : levAt X.st j = X.st.length
      · exact .inr (.inl ⟨j, pend_mem.mpr ⟨hjq, hL, hsv⟩, hj⟩)
      · have := h.s.b.o3 j _ hj hsv (by omega) (by omega)
        rw [Int.neg_neg] at this
        exact .inr (.inr this)
theorem sv_set (w : Wf X) (hl : seen.length = X.n + 1) {y : Int} (hyn : y.natAbs ≤ X.n) {j : Nat} (hj : X.tr[j]? = some (-y)) (i : Nat) (hi : i < X.tr.length) : sv X (seen.set y.natAbs true) i = (decide (i = j) || sv X seen i) := by
  unfold sv
  rw [getB_set _ _ _ _ (by omega)]
  have h1 : X.tr[i]? = some (X.tr.getD i 0) := by rw [List.getD_eq_getElem?_getD, List.getElem?_eq_getElem hi]; rfl
  by_cases e : (X.tr.getD i 0).natAbs = y.natAbs
  · rw [if_pos e]
    have : i = j := tr_inj w h1 hj (by rw [Int.natAbs_neg]; exact e)
    rw [decide_eq_true this]; rfl
  · rw [if_neg e]
    have : i ≠ j := fun e2 => by
      subst e2
      rw [hj] at h1
      injection h1 with h1
      rw [← h1, Int.natAbs_neg] at e; exact e rfl
    rw [decide_eq_false this]; rfl
/-- One of this level more. -/
theorem LP.here (w : Wf X) (h : LP K X c told q r seen O) (hr : r < c.length) (hne : c[r] ≠ told) (hs : seen.getD c[r].natAbs false = false) {j : Nat} (hjq : j < q) (hj : X.tr[j]? = some (-c[r])) (hL : levAt X.st j = X.st.length) :
    LP K X c told q (r + 1) (seen.set c[r].natAbs true) O ∧ (pend X (seen.set c[r].natAbs true) q).length = (pend X seen q).length + 1 := by
  have hb := h.s.b
  have hcr := h.s.cr _ (List.getElem_mem hr)
  have hsv := sv_set w hb.len hcr.2 hj
  have hsj : sv X seen j = false := by unfold sv; rw [getD_tr hj, Int.natAbs_neg]; exact hs
  have hq := hb.q
  have sub : ∀ i, i ∈ pend X seen q → i ∈ pend X (seen.set c[r].natAbs true) q := fun i hi => by
    obtain ⟨h1, h2, h3⟩ := pend_mem.mp hi
    exact pend_mem.mpr ⟨h1, h2, by rw [hsv i (by omega), h3, Bool.or_true]⟩
  refine ⟨⟨⟨⟨by rw [List.length_set]; exact hb.len, hq, fun y hy => ?_, hb.o2, fun i x hi hsi h0 h1 => ?_⟩, h.s.cr, h.s.c2, fun ν hm => ?_, ?_⟩, fun y hy hny => ?_⟩, ?_⟩
  · obtain ⟨i, i1, i2, i3, i4⟩ := hb.o1 y hy
    refine ⟨i, i1, i2, i3, ?_⟩
    rw [getB_set _ _ _ _ (by rw [hb.len]; omega)]
    split
    · rfl
    · exact i4
  · rw [hsv i (List.getElem?_eq_some_iff.mp hi).1, Bool.or_eq_true, decide_eq_true_eq] at hsi
    rcases hsi with rfl | hsi
    · omega
    · exact hb.o3 i x hi hsi h0 h1
  · rcases h.s.ent ν hm with h1 | ⟨i, hi, e⟩ | h1
    · exact .inl h1
    · exact .inr (.inl ⟨i, sub i hi, e⟩)
    · exact .inr (.inr h1)
  · left
    have : j ∈ pend X (seen.set c[r].natAbs true) q := pend_mem.mpr ⟨hjq, hL, by rw [hsv j (by omega), decide_eq_true rfl, Bool.true_or]⟩
    exact fun e => by rw [e] at this; cases this
  · rw [← List.take_append_getElem hr, List.mem_append, List.mem_singleton] at hy
    rcases hy with hy | rfl
    · rcases h.pr y hy hny with h1 | ⟨i, hi, e⟩ | h1
      · exact .inl h1
      · exact .inr (.inl ⟨i, sub i hi, e⟩)
      · exact .inr (.inr h1)
    · exact .inr (.inl ⟨j, pend_mem.mpr ⟨hjq, hL, by rw [hsv j (by omega), decide_eq_true rfl, Bool.true_or]⟩, hj⟩)
  · have hq2 : ∀ i, i < q → i < X.tr.length := fun i hi => by omega
    have h1 : pend X (seen.set c[r].natAbs true) q = (List.range q).filter fun i => decide (levAt X.st i = X.st.length) && (decide (i = j) || sv X seen i) := by
      unfold pend
      refine List.filter_congr fun i hi => ?_
      rw [hsv i (hq2 i (List.mem_range.mp hi))]
    rw [h1]
    unfold pend
    rw [filter_one (fun i => decide (levAt X.st i = X.st.length) && sv X seen i) _ j (by simp [hsj]) (by simp [hL]) (fun i hi => by simp [hi]), if_pos hjq]
/-- One of a level below more. -/
theorem LP.app (w : Wf X) (h : LP K X c told q r seen O) (hr : r < c.length) (hne : c[r] ≠ told) (hs : seen.getD c[r].natAbs false = false) {j : Nat} (hjq : j < q) (hj : X.tr[j]? = some (-c[r])) (h0 : 0 < levAt X.st j) (hL : levAt X.st j < X.st.length) :
    LP K X c told q (r + 1) (seen.set c[r].natAbs true) (O ++ [c[r]]) ∧ (pend X (seen.set c[r].natAbs true) q).length = (pend X seen q).length := by
  have hb := h.s.b
  have hcr := h.s.cr _ (List.getElem_mem hr)
  have hsv := sv_set w hb.len hcr.2 hj
  have hq := hb.q
  have hpe : pend X (seen.set c[r].natAbs true) q = pend X seen q := by
    unfold pend
    refine List.filter_congr fun i hi => ?_
    rw [hsv i (by have := List.mem_range.mp hi; omega)]
    by_cases e : i = j
    · subst e
      have : decide (levAt X.st i = X.st.length) = false := decide_eq_false (by omega)
      rw [this]; rfl
    · rw [decide_eq_false e, Bool.false_or]
  have hO : c[r] ∉ O := fun hm => by
    obtain ⟨i, i1, i2, i3, i4⟩ := hb.o1 _ hm
    rw [hs] at i4; cases i4
  refine ⟨⟨⟨⟨by rw [List.length_set]; exact hb.len, hq, fun y hy => ?_, List.nodup_append.mpr ⟨hb.o2, by simp, fun a ha b hbb e => ?_⟩, fun i x hi hsi g0 g1 => ?_⟩, h.s.cr, h.s.c2, fun ν hm => ?_, ?_⟩, fun y hy hny => ?_⟩, by rw [hpe]⟩
  · rw [List.mem_append, List.mem_singleton] at hy
    rcases hy with hy | rfl
    · obtain ⟨i, i1, i2, i3, i4⟩ := hb.o1 y hy
      refine ⟨i, i1, i2, i3, ?_⟩
      rw [getB_set _ _ _ _ (by rw [hb.len]; omega)]
      split
      · rfl
      · exact i4
    · exact ⟨j, hj, h0, hL, by rw [getB_set _ _ _ _ (by rw [hb.len]; omega), if_pos rfl]⟩
  · rw [List.mem_singleton] at hbb
    rw [hbb] at e; rw [e] at ha; exact hO ha
  · rw [hsv i (List.getElem?_eq_some_iff.mp hi).1, Bool.or_eq_true, decide_eq_true_eq] at hsi
    rcases hsi with rfl | hsi
    · rw [hj] at hi
      injection hi with hi
      rw [← hi, Int.neg_neg]; simp
    · exact List.mem_append_left _ (hb.o3 i x hi hsi g0 g1)
  · rw [hpe]
    rcases h.s.ent ν hm with h1 | h1 | ⟨y, hy, e⟩
    · exact .inl h1
    · exact .inr (.inl h1)
    · exact .inr (.inr ⟨y, List.mem_append_left _ hy, e⟩)
  · rw [hpe]; exact h.s.cur
  · rw [hpe]
    rw [← List.take_append_getElem hr, List.mem_append, List.mem_singleton] at hy
    rcases hy with hy | rfl
    · rcases h.pr y hy hny with h1 | h1 | h1
      · exact .inl h1
      · exact .inr (.inl h1)
      · exact .inr (.inr (List.mem_append_left _ h1))
    · exact .inr (.inr (by simp))
theorem LP.done (w : Wf X) (cd : Cd K X) (hL : 0 < X.st.length) (h : LP K X c told q c.length seen O) : LQ K X q seen O := by
  have hpr := h.pr
  rw [List.take_length] at hpr
  refine ⟨h.s.b, fun ν hm => ?_, ?_⟩
  · rcases h.s.ent ν hm with ⟨y, hy, hny, e⟩ | h1 | h1
    · rcases hpr y hy hny with ⟨j, hj, hl⟩ | ⟨j, hj, hjt⟩ | h1
      · exfalso
        have h1 := (cd.zer j (-y) hj hl).one hm
        rw [satL_neg ν (h.s.cr y hy).1, e] at h1; cases h1
      · exact .inl ⟨j, hj, by rw [getD_tr hjt, Int.neg_neg]; exact e⟩
      · exact .inr ⟨y, h1, e⟩
    · exact .inl h1
    · exact .inr h1
  · rcases h.s.cur with h1 | ⟨y, hy, hny, j, hj, hjl⟩
    · exact h1
    · rcases hpr y hy hny with ⟨i, hi, hl⟩ | ⟨i, hi, _⟩ | hO
      · have := tr_inj w hi hj rfl
        subst this; omega
      · exact fun e => by rw [e] at hi; cases hi
      · obtain ⟨i, i1, i2, i3, _⟩ := h.s.b.o1 y hO
        have := tr_inj w i1 hj rfl
        subst this; omega
theorem levAt_mono (st : List Int) {i j : Nat} (h : i ≤ j) : levAt st i ≤ levAt st j := by
  unfold levAt
  refine List.countP_mono_left fun y _ hy => ?_
  rw [decide_eq_true_eq] at hy ⊢
  omega
theorem LB.down (h : LB X q seen O) {q' : Nat} (hq : q' ≤ q) : LB X q' seen O := ⟨h.len, Nat.le_trans hq h.q, h.o1, h.o2, h.o3⟩
theorem LQ.pos (h : LQ K X q seen O) : 0 < q := by
  apply Nat.pos_of_ne_zero; intro e; subst e; exact h.ne rfl
theorem LQ.skip (h : LQ K X (q + 1) seen O) (hs : sv X seen q = false) : LQ K X q seen O ∧ (pend X seen q).length = (pend X seen (q + 1)).length := by
  have e : pend X seen (q + 1) = pend X seen q := by rw [pend_succ, if_neg (fun h => by rw [hs] at h; cases h.2)]
  exact ⟨⟨h.b.down (by omega), by rw [← e]; exact h.ent, by rw [← e]; exact h.ne⟩, by rw [e]⟩
theorem LQ.stop (h : LQ K X (q + 1) seen O) (hs : sv X seen q = true) : levAt X.st q = X.st.length ∧ pend X seen (q + 1) = pend X seen q ++ [q] := by
  have hl : levAt X.st q = X.st.length := by
    obtain ⟨j, hj⟩ := List.exists_mem_of_ne_nil _ h.ne
    obtain ⟨h1, h2, _⟩ := pend_mem.mp hj
    have := levAt_mono X.st (show j ≤ q by omega)
    have := levAt_le X.st q
    omega
  exact ⟨hl, by rw [pend_succ, if_pos ⟨hl, hs⟩]⟩
theorem LQ.last (h : LQ K X (q + 1) seen O) (hs : sv X seen q = true) (he : pend X seen q = []) : Ent K (-(X.tr.getD q 0) :: O) := by
  obtain ⟨_, e⟩ := h.stop hs
  intro ν hm
  rcases h.ent ν hm with ⟨j, hj, e2⟩ | ⟨y, hy, e2⟩
  · rw [e, he, List.nil_append, List.mem_singleton] at hj
    subst hj
    exact ⟨_, List.mem_cons_self, e2⟩
  · exact ⟨y, List.mem_cons_of_mem _ hy, e2⟩
theorem LQ.next (w : Wf X) (cd : Cd K X) (hL : 0 < X.st.length) (h : LQ K X (q + 1) seen O) (hs : sv X seen q = true) (he : pend X seen q ≠ []) :
    ∃ (k : Nat) (c : List Int), X.rea.getD (X.tr.getD q 0).natAbs 0 = (k : Int) ∧ X.cl[k]? = some c ∧ LS K X c (X.tr.getD q 0) q seen O := by
  obtain ⟨hl, e⟩ := h.stop hs
  have hq : q < X.tr.length := by have := h.b.q; omega
  have hx : X.tr[q]? = some (X.tr.getD q 0) := by rw [List.getD_eq_getElem?_getD, List.getElem?_eq_getElem hq]; rfl
  have hns : (q : Int) ∉ X.st := fun hm => by
    obtain ⟨i, hi, e2⟩ := List.getElem_of_mem hm
    obtain ⟨j, hj⟩ := List.exists_mem_of_ne_nil _ he
    obtain ⟨h1, h2, _⟩ := pend_mem.mp hj
    have := (levAt_sorted cd.st_s hi j).mpr (by omega)
    omega
  obtain ⟨k, c, r1, r2, r3, r4⟩ := cd.rea q _ hx (by omega) hns
  have hcm := List.mem_of_getElem? r2
  have hcr := (w.cl c hcm).2.2
  refine ⟨k, c, r1, r2, ⟨h.b.down (by omega), hcr, fun y hy hne => ?_, fun ν hm => ?_, .inl he⟩⟩
  · obtain ⟨j, hj⟩ := List.getElem?_of_mem (r4 y hy hne)
    have hj1 := (List.getElem?_eq_some_iff.mp hj).1
    rw [List.length_take] at hj1
    rw [List.getElem?_take_of_lt (by omega)] at hj
    exact ⟨j, by omega, hj⟩
  · rcases h.ent ν hm with ⟨j, hj, e2⟩ | h1
    · rw [e, List.mem_append, List.mem_singleton] at hj
      rcases hj with hj | rfl
      · exact .inr (.inl ⟨j, hj, e2⟩)
      · obtain ⟨y, hy, ey⟩ := cd.ent c hcm ν hm
        refine .inl ⟨y, hy, fun e3 => ?_, ey⟩
        have h0 := (w.rng _ (List.mem_of_getElem? hx)).1
        rw [satL_neg ν h0] at e2
        rw [e3] at ey
        rw [ey] at e2; cases e2
    · exact .inr (.inr h1)
/-- The levels' greatest. -/
def maxLev (lev : List Int) (O : List Int) : Int := O.foldl (fun m y => max m (lev.getD y.natAbs 0)) 0
theorem maxLev_snoc (lev : List Int) (O : List Int) (y : Int) : maxLev lev (O ++ [y]) = max (maxLev lev O) (lev.getD y.natAbs 0) := by unfold maxLev; rw [List.foldl_append]; rfl
theorem maxLev_spec (lev : List Int) : ∀ (O : List Int), 0 ≤ maxLev lev O ∧ (∀ y ∈ O, lev.getD y.natAbs 0 ≤ maxLev lev O) ∧ (maxLev lev O = 0 ∨ ∃ y ∈ O, lev.getD y.natAbs 0 = maxLev lev O) := by
  intro O
  induction O using list_snoc2 with
  | h0 => exact ⟨Int.le_refl _, (by intro y hy; cases hy), .inl rfl⟩
  | h1 O y ih =>
    obtain ⟨i1, i2, i3⟩ := ih
    rw [maxLev_snoc]
    refine ⟨by omega, fun z hz => ?_, ?_⟩
    · rw [List.mem_append, List.mem_singleton] at hz
      rcases hz with hz | rfl
      · have := i2 z hz; omega
      · omega
    · by_cases hc : maxLev lev O ≤ lev.getD y.natAbs 0
      · right; exact ⟨y, by simp, by omega⟩
      · rcases i3 with i3 | ⟨z, hz, e⟩
        · left; omega
        · right; exact ⟨z, by simp [hz], by omega⟩
/-- What is learned. -/
theorem LQ.lrn (w : Wf X) (cd : Cd K X) (hL : 0 < X.st.length) (h : LQ K X (q + 1) seen O) (hs : sv X seen q = true) (he : pend X seen q = []) :
    ∃ level : Nat, maxLev X.lev O = (level : Int) ∧ Lrn K X (-(X.tr.getD q 0)) O level := by
  obtain ⟨m0, m1, m2⟩ := maxLev_spec X.lev O
  obtain ⟨hl, e⟩ := h.stop hs
  have hq : q < X.tr.length := by have := h.b.q; omega
  have hx : X.tr[q]? = some (X.tr.getD q 0) := by rw [List.getD_eq_getElem?_getD, List.getElem?_eq_getElem hq]; rfl
  have hlv : ∀ y ∈ O, ∃ j, X.tr[j]? = some (-y) ∧ 0 < levAt X.st j ∧ levAt X.st j < X.st.length ∧ X.lev.getD y.natAbs 0 = (levAt X.st j : Int) := fun y hy => by
    obtain ⟨j, j1, j2, j3, _⟩ := h.b.o1 y hy
    have := cd.lev j _ j1
    rw [Int.natAbs_neg] at this
    exact ⟨j, j1, j2, j3, this⟩
  refine ⟨(maxLev X.lev O).toNat, by omega, ⟨⟨q, by rw [Int.neg_neg]; exact hx, hl⟩, fun y hy => ?_, ?_, fun hne => ?_, fun e0 => ?_, ?_, h.last hs he⟩⟩
  · obtain ⟨j, j1, j2, j3, j4⟩ := hlv y hy
    have := m1 y hy
    exact ⟨j, j1, j2, by omega⟩
  · rcases m2 with m2 | ⟨y, hy, m2⟩
    · omega
    · obtain ⟨j, j1, j2, j3, j4⟩ := hlv y hy
      omega
  · rcases m2 with m2 | ⟨y, hy, m2⟩
    · exfalso
      obtain ⟨y, hy⟩ := List.exists_mem_of_ne_nil _ hne
      obtain ⟨j, j1, j2, j3, j4⟩ := hlv y hy
      have := m1 y hy
      omega
    · obtain ⟨j, j1, j2, j3, j4⟩ := hlv y hy
      exact ⟨y, hy, j, j1, by omega⟩
  · rw [e0]; rfl
  · rw [List.nodup_cons]
    refine ⟨fun hm => ?_, h.b.o2⟩
    obtain ⟨j, j1, j2, j3, _⟩ := h.b.o1 _ hm
    rw [Int.neg_neg] at j1
    have := tr_inj w j1 hx rfl
    subst this; omega
end
end Go.Vm
namespace Go.Vm
set_option linter.unusedVariables false
theorem OwS.el {σ : St} {a : AV} {xs : List AV} (h : OwS σ a xs) {k : Nat} (hk : k < xs.length) : ∃ i, (∀ t, viaddr 1 a (.int .i64 (k : Int)) t = .ok (.ptr i k) t) ∧ ∃ cs, σ.obj i = .cells cs ∧ cs[k]? = xs[k]? := by
  cases h with
  | nils => simp at hk
  | sl i len cap cs h h1 h2 h3 h4 =>
    have hl : (cs.take len).length = len := by rw [List.length_take]; omega
    refine ⟨i, fun t => ?_, cs, h, by rw [List.getElem?_take_of_lt (by omega)]⟩
    have := viaddr_sl (k := .i64) (b := i) (o := 0) (len := len) (cap := cap) (ex := 1) (i := k) (by omega) t
    rw [Nat.zero_add] at this; exact this
/-- A row of one's own: a literal, or grown just so far. -/
inductive ExO (σ : St) : AV → List AV → Prop where
  | lit (i : Id) (xs : List AV) (h : σ.obj i = .cells xs) (hm : xs.length ≤ limit) : ExO σ (.sl i 0 xs.length xs.length 0) xs
  | gr (a : AV) (xs : List AV) (h : ExS σ a xs) : ExO σ a xs
theorem ExO.frame {σ σ' : St} {a : AV} {xs : List AV} (h : ExO σ a xs) (hf : ∀ i ∈ ids a, σ'.obj i = σ.obj i) : ExO σ' a xs := by
  cases h with
  | lit i xs h hm => exact .lit i xs (by rw [hf i (List.mem_singleton.mpr rfl)]; exact h) hm
  | gr a xs h => exact .gr a xs (h.frame hf)
theorem ExO.lt {σ : St} {a : AV} {xs : List AV} (h : ExO σ a xs) (hr : Room σ) : ∀ i ∈ ids a, i.val < σ.n.val := by
  cases h with
  | lit i xs h hm => intro j hj; have : j = i := by simpa [ids, AV.onSl] using hj
                     rw [this]; exact St.lt_of_obj hr h
  | gr a xs h => exact h.lt hr
theorem ExO.shape {σ : St} {a : AV} {xs : List AV} (h : ExO σ a xs) (hne : xs ≠ []) : ∃ i ex, a = .sl i 0 xs.length xs.length ex ∧ (ex = 0 ∨ ex = 1) ∧ σ.obj i = .cells xs ∧ ids a = [i] := by
  cases h with
  | lit i xs h hm => exact ⟨i, 0, rfl, .inl rfl, h, rfl⟩
  | gr a xs h => cases h with
    | nils => exact absurd rfl hne
    | sl i xs h h0 hm => exact ⟨i, 1, rfl, .inr rfl, h, rfl⟩
theorem ExO.app {σ : St} {a : AV} {xs : List AV} (h : ExO σ a xs) (hr : Room σ) {y : Id} {x : AV} (hy : σ.obj y = .cells [x]) (bytes : Nat) (hb : (xs.length + 1) * bytes ≤ limit) (hm : xs.length + 1 ≤ limit) :
    ∃ (a' : AV) (σ' : St) (i : Id), vapp 1 bytes a (.sl y 0 1 1 0) σ = .ok a' σ' ∧ ExO σ' a' (xs ++ [x]) ∧ Room σ' ∧ σ.n.val ≤ σ'.n.val ∧ ids a' = [i] ∧ i = σ.n ∧ ∀ c, c ∉ ids a → c.val < σ.n.val → σ'.obj c = σ.obj c := by
  cases h with
  | gr a xs h =>
    obtain ⟨a', σ', i, h1, h2, h3⟩ := h.app hr hy bytes hb hm
    exact ⟨a', σ', i, h1, .gr _ _ h2, h3⟩
  | lit i xs h hm' =>
    have hsy : IsSl σ (.sl y 0 1 1 0) := .sl y 0 1 1 0 [x] (by unfold limit; omega) hy (St.lt_of_obj hr hy) (by simp)
    have hro : rowOf σ (.sl y 0 1 1 0) = [x] := by show (σ.obj y).row.drop 0 = [x]; rw [hy]; rfl
    have hlen : (xs ++ [x]).length = xs.length + 1 := by simp
    have hex := ExS.sl (σ := σ.push (.cells (xs ++ [x]))) σ.n (xs ++ [x]) (push_self _ _) (by simp) (by rw [hlen]; exact hm)
    rw [hlen] at hex
    refine ⟨.sl σ.n 0 (xs.length + 1) (xs.length + 1) 1, σ.push (.cells (xs ++ [x])), σ.n, ?_, .gr _ _ hex, hr.push _, by rw [push_n]; omega, rfl, rfl, fun c hc hcn => push_old hcn⟩
    unfold vapp
    rw [srcOf_sl hsy (by rw [hro]; simp [lenOf, AV.onSl]), hro]
    show (σ.obj i).onCells R.no _ = _
    rw [h]
    show br (Nat.ble (0 + xs.length * 1) (ln xs)) (br (Nat.ble (xs.length + 1) xs.length) _ (br (Nat.beq 0 0) (grown σ 1 bytes (xs.length + 1) (apd (tk (xs.length * 1) (dr 0 xs)) [x])) _)) .no = _
    rw [ln_eq, ble_t (by omega), ble_f (by omega)]
    show grown σ 1 bytes (xs.length + 1) (apd (tk (xs.length * 1) (dr 0 xs)) [x]) = _
    rw [apd_eq, tk_eq, dr_eq, List.drop_zero, Nat.mul_one, List.take_length]
    show br (Nat.ble ((xs.length + 1) * bytes) limit) (br (Nat.ble (xs.length + 1) limit) (σ.alloc (.cells (xs ++ [x])) fun b s => .ok (.sl b 0 (xs.length + 1) (xs.length + 1) 1) s) .no) .no = _
    rw [ble_t hb, ble_t hm, alloc_push]; rfl
theorem tail_sl (i : Id) (m ex : Nat) (hex : ex = 0 ∨ ex = 1) : ∃ a', (∀ t, vsllo 1 (.sl i 0 (m + 1) (m + 1) ex) (.int .i64 1) t = .ok a' t) ∧ (∀ t, vlen a' t = .ok (.int .i64 (m : Int)) t) ∧ ∀ j, j < m → ∀ t, viaddr 1 a' (.int .i64 (j : Int)) t = .ok (.ptr i (1 + j)) t := by
  have key : ∀ t, vsllo 1 (.sl i 0 (m + 1) (m + 1) ex) (.int .i64 1) t = br (br (Nat.beq ex 0) true (br false true (Nat.ble (Nat.succ 1) (m + 1)))) (br (br (Nat.beq ex 0) true (br false true (Nat.beq ex 1))) (R.ok (.sl i (br (Nat.beq (m + 1) 1) 0 (Nat.add 0 (Nat.mul 1 1))) (Nat.sub (m + 1) 1) (Nat.sub (m + 1) 1) (br false 0 ex)) t) .no) (.ok (.ts [] 0 0 false) t) := fun t => by
    show (AV.int .i64 ((1 : Nat) : Int)).idx (m + 1 + 1) (fun l => br (br (Nat.beq ex 0) true (br false true (Nat.ble (Nat.succ l) (m + 1)))) (br (br (Nat.beq ex 0) true (br false true (Nat.beq ex 1))) (R.ok (.sl i (br (Nat.beq (m + 1) l) 0 (Nat.add 0 (Nat.mul l 1))) (Nat.sub (m + 1) l) (Nat.sub (m + 1) l) (br false 0 ex)) t) .no) (.ok (.ts [] 0 0 false) t)) = _
    rw [idx_eq (by omega) (by omega)]; rfl
  by_cases hm : m = 0
  · subst hm
    rcases hex with rfl | rfl
    · exact ⟨.sl i 0 0 0 0, fun t => by rw [key]; rfl, fun t => rfl, fun j hj => by omega⟩
    · exact ⟨.ts [] 0 0 false, fun t => by rw [key]; rfl, fun t => rfl, fun j hj => by omega⟩
  · have h1 : Nat.beq (m + 1) 1 = false := beq_f (by omega)
    have h2 : Nat.ble (Nat.succ 1) (m + 1) = true := ble_t (by omega)
    refine ⟨.sl i 1 m m ex, fun t => ?_, fun t => rfl, fun j hj t => viaddr_sl hj t⟩
    rw [key, h1, h2]
    rcases hex with rfl | rfl <;> rfl
theorem getB_at {S : List Bool} {j : Nat} (h : j < S.length) : (S.map AV.bool)[j]? = some (.bool (S.getD j false)) := by
  rw [List.getElem?_map, List.getElem?_eq_getElem h, List.getD_eq_getElem?_getD, List.getElem?_eq_getElem h]; rfl
theorem getI_at {S : List Int} {j : Nat} (h : j < S.length) (k : IntKind) : (S.map (AV.int k))[j]? = some (.int k (S.getD j 0)) := by
  rw [List.getElem?_map, List.getElem?_eq_getElem h, List.getD_eq_getElem?_getD, List.getElem?_eq_getElem h]; rfl
end Go.Vm
namespace Go.Proofs.Ytggeadnjikpjnaa
open Go Go.Vm
set_option linter.unusedVariables false
set_option linter.unusedSimpArgs false
theorem fn_pure {g : Vm.Id} {nt : Nat} {res : List Res} {body : CC} {args : List AV} {s : St} {Q : AV → Prop} (hg : g.get (Vm.prog Go.Proofs.Try.prog) = .mk nt res body ∧ g.get BT = noB) (h : args.length ≤ nt)
    (hw : W CA body (fun f t => Rs (fun r0 s0 => Ext s s0 ∧ ∃ r, Fz s.n.val s0 r0 r ∧ Q r) res f t) (fun _ _ _ => False) (fun f t => Rs (fun r0 s0 => Ext s s0 ∧ ∃ r, Fz s.n.val s0 r0 r ∧ Q r) res f t) (frame0 args) (Sx s [])) : ∃ r, CA g args s = .ok r s ∧ Q r := by
  obtain ⟨N, hN⟩ := WF_S h hw
  cases he : evF CA N (.mk nt res body) args s with
  | no => rw [he] at hN; exact hN.elim
  | ok r0 s0 =>
    rw [he] at hN
    obtain ⟨hx, r, hf, hQ⟩ : Ext s s0 ∧ ∃ r, Fz s.n.val s0 r0 r ∧ Q r := hN
    exact ⟨r, cc_intro (by rw [hg.1]; exact he) (settled_fz hx hf) hg.2, hQ⟩
section
variable {s σ : St} {b : Vm.Id} {G : Fx} {tv sv' lv : AV} {es : List (AV × AV)} {X : SV} {K : List (List Int)}
theorem learns_ok (h : Sol0 s σ b G tv sv' lv es X) (l0 : LI0 K X) (hst : 0 < X.st.length) {i0 : Nat} {c0 : List Int} (hc0 : X.cl[i0]? = some c0) (hall : ∀ y ∈ c0, litV X.val y = -1) (hcur : ∃ y ∈ c0, ∃ j, X.tr[j]? = some (-y) ∧ levAt X.st j = X.st.length) :
    ∃ (u : Int) (rest : List Int) (level : Nat), CA F.sat_Solver_learns [.ptr b 0, .int .i64 (i0 : Int)] σ = .ok (.tup [tsI (u :: rest), .int .i64 (level : Int)]) σ ∧ Lrn K X u rest level := by
  have w := l0.w
  have cd := l0.cd
  have sm := l0.sm
  have htl := w.trlen
  have hn14 := l0.n
  have hst2 := st_len cd.st_s l0.st_b
  have hr := h.room
  have en1 : IntKind.wrap .i64 ((X.n : Int) + 1) = ((X.n + 1 : Nat) : Int) := by rw [wrap_i64 (by omega) (by omega)]; omega
  have hcl0 : i0 < X.cl.length := (List.getElem?_eq_some_iff.mp hc0).1
  have hcm0 := List.mem_of_getElem? hc0
  have htr0 : 0 < X.tr.length := by obtain ⟨y, _, j, hj, _⟩ := hcur; have := (List.getElem?_eq_some_iff.mp hj).1; omega
  obtain ⟨r, hr1, u, rest, level, rfl, hL⟩ : ∃ r, CA F.sat_Solver_learns [.ptr b 0, .int .i64 (i0 : Int)] σ = .ok r σ ∧ ∃ (u : Int) (rest : List Int) (level : Nat), r = .tup [tsI (u :: rest), .int .i64 (level : Int)] ∧ Lrn K X u rest level := by
    refine fn_pure code_sat_Solver_learns (by simp) ?_
    have fm := vmksl_eq (s := σ) (L := []) hr (by simp) (bytes := 1) (j := .i64) (k := .i64) (l := X.n + 1) (c := X.n + 1) (a := .bool false) (Nat.le_refl _) (by unfold limit; omega) (by unfold limit; omega)
    change vmksl 1 [.bool false] (.int .i64 ((X.n + 1 : Nat) : Int)) (.int .i64 ((X.n + 1 : Nat) : Int)) σ = .ok (.sl (nm σ 0) 0 (X.n + 1) (X.n + 1) 0) (Sx σ [.cells (List.replicate (X.n + 1) (.bool false))]) at fm
    obtain ⟨SB, hSB⟩ : ∃ SB, SB = List.replicate (X.n + 1) (AV.bool false) := ⟨_, rfl⟩
    rw [← hSB] at fm
    simp only [go_sem, ↓reduceIte, Nat.reduceMod, Nat.reduceEqDiff, Nat.reduceAdd, Nat.reduceMul, Nat.reduceSub, Nat.reduceLeDiff, Nat.reduceLT, Int.reduceEq, Int.reduceLT, Int.reduceLE, Int.reduceAdd, Int.reduceSub, Int.reduceNeg, reduceCtorEq, Nat.reduceShiftRight, Nat.reduceAnd, Nat.reduceBNe, Sx_nil, h.ob, solC, en1, fm, hr]
    refine W_drawn hr _ (by simp) ?_
    simp only [List.cons_append, List.nil_append, List.length_nil, List.length_cons, List.replicate_succ, List.replicate_zero, Nat.zero_add]
    obtain ⟨L0, hL0⟩ : ∃ L0 : List AO, L0 = .cells SB :: .cells [.int .i64 0] :: [.dead, .dead, .dead, .dead, .dead, .dead, .dead, .dead, .dead] := ⟨_, rfl⟩
    have lL0 : L0.length = 11 := by rw [hL0]; rfl
    have h0 := h.sx (l := L0) (by omega)
    have hx0 := ext_Sx (s := σ) (l := L0) hr (by omega)
    have oy0 : (Sx σ L0).obj (nm σ 0) = .cells ((List.replicate (X.n + 1) false).map .bool) := by rw [Sx_obj? hr (by omega) (i := 0) (o := .cells SB) (by rw [hL0]; rfl), hSB]; simp
    have oo0 : (Sx σ L0).obj (nm σ 1) = .cells [.int .i64 0] := Sx_obj? hr (by omega) (by rw [hL0]; rfl)
    have v0 := nm_val hr (k := 0) (by omega)
    have v1 := nm_val hr (k := 1) (by omega)
    rw [← hL0]
    generalize Sx σ L0 = τ0 at *
    have ht0 := h0.ht.vlen
    rw [List.length_map] at ht0
    have etl : IntKind.wrap .i64 ((X.tr.length : Int) - 1) = (X.tr.length : Int) - 1 := wrap_i64 (by omega) (by omega)
    obtain ⟨z, z1, zs, z2, z3⟩ := h0.hl.el (k := i0) (by rw [List.length_map]; exact hcl0)
    rw [List.getElem?_map, hc0] at z3
    simp only [go_sem, ↓reduceIte, Nat.reduceMod, Nat.reduceEqDiff, Nat.reduceAdd, Nat.reduceMul, Nat.reduceSub, Nat.reduceLeDiff, Nat.reduceLT, Int.reduceEq, Int.reduceLT, Int.reduceLE, Int.reduceAdd, Int.reduceSub, Int.reduceNeg, reduceCtorEq, Nat.reduceShiftRight, Nat.reduceAnd, Nat.reduceBNe, hr, h0.ob, solC, ht0, etl, z1, z2, wrap1_at z3, Option.map_some]
    have hy01 : nm σ 0 ≠ nm σ 1 := fun e => by have := congrArg Id.val e; omega
    have hcr0 := (w.cl c0 hcm0).2.2
    have hsv0 : ∀ j, sv X (List.replicate (X.n + 1) false) j = false := fun j => by
      unfold sv
      rw [List.getD_eq_getElem?_getD, List.getElem?_replicate]
      split <;> rfl
    have hpe0 : ∀ q, pend X (List.replicate (X.n + 1) false) q = [] := fun q => by
      apply List.eq_nil_iff_forall_not_mem.mpr
      intro j hj
      have := (pend_mem.mp hj).2.2
      rw [hsv0] at this; cases this
    have ls0 : LS K X c0 0 X.tr.length (List.replicate (X.n + 1) false) [] := by
      refine ⟨⟨by simp, Nat.le_refl _, (by intro y hy; cases hy), by simp, fun j x hj hs => by rw [hsv0] at hs; cases hs⟩, hcr0, fun y hy _ => ?_, fun ν hm => ?_, .inr ?_⟩
      · obtain ⟨j, hj⟩ := List.getElem?_of_mem ((w.neg (hcr0 y hy).1 (hcr0 y hy).2).mp (hall y hy))
        exact ⟨j, (List.getElem?_eq_some_iff.mp hj).1, hj⟩
      · obtain ⟨y, hy, e⟩ := cd.ent c0 hcm0 ν hm
        exact .inl ⟨y, hy, (hcr0 y hy).1, e⟩
      · obtain ⟨y, hy, hj⟩ := hcur
        exact ⟨y, hy, (hcr0 y hy).1, hj⟩
    have hyl : (nm σ 0).val < τ0.n.val := St.lt_of_obj h0.room oy0
    have ex0 : ExO τ0 (.sl (nm σ 1) 0 1 1 0) (((0 : Int) :: ([] : List Int)).map (.int .i64)) := .lit (nm σ 1) [.int .i64 0] oo0 (by unfold limit; simp)
    have hsol : ∀ τ, Room τ → Ext σ τ → Sol0 s τ b G tv sv' lv es X := fun τ hr1 hx1 => h.frame hr1 (h.ext.trans hx1) hx1.n fun i hi => hx1.old i (h.ge i hi).2
    generalize hy0 : nm σ 0 = y0 at *
    have hia : ∀ {j : Nat} (hj : j ≤ X.n) (t : St), viaddr 1 (.sl y0 0 (X.n + 1) (X.n + 1) 0) (.int .i64 (j : Int)) t = .ok (.ptr y0 j) t := fun {j} hj t => by
      have := viaddr_sl (k := .i64) (b := y0) (o := 0) (len := X.n + 1) (cap := X.n + 1) (ex := 0) (i := j) (by omega) t
      rw [Nat.zero_add] at this; exact this
    have hil : ∀ {j : Nat} (hj : j ≤ X.n) (t : St), viaddr 1 (.sl G.le 0 (X.n + 1) (X.n + 1) 0) (.int .i64 (j : Int)) t = .ok (.ptr G.le j) t := fun {j} hj t => by
      have := viaddr_sl (k := .i64) (b := G.le) (o := 0) (len := X.n + 1) (cap := X.n + 1) (ex := 0) (i := j) (by omega) t
      rw [Nat.zero_add] at this; exact this
    have hire : ∀ {j : Nat} (hj : j ≤ X.n) (t : St), viaddr 1 (.sl G.re 0 (X.n + 1) (X.n + 1) 0) (.int .i64 (j : Int)) t = .ok (.ptr G.re j) t := fun {j} hj t => by
      have := viaddr_sl (k := .i64) (b := G.re) (o := 0) (len := X.n + 1) (cap := X.n + 1) (ex := 0) (i := j) (by omega) t
      rw [Nat.zero_add] at this; exact this
    have hOl0 : ∀ {q : Nat} {seen : List Bool} (O : List Int), LB X q seen O → O.length ≤ 28 := fun O hb => by
      have := nodup_le2 O X.n hb.o2 fun y hy => by obtain ⟨j, hj, _⟩ := hb.o1 y hy; have := w.rng _ (List.mem_of_getElem? hj); omega
      omega
    refine W_inv (fun k f τ => ∃ (c : List Int) (told : Int) (q : Nat) (seen : List Bool) (O : List Int) (out : AV), q = k ∧ Room τ ∧ Ext σ τ ∧ τ.obj y0 = .cells (seen.map .bool) ∧ y0.val < τ.n.val ∧ ExO τ out (((0 : Int) :: O).map (.int .i64)) ∧ (∀ i ∈ ids out, σ.n.val ≤ i.val ∧ i ≠ y0) ∧ c ∈ X.cl ∧ LS K X c told q seen O ∧
      (vv 0).get f = .ptr b 0 ∧ (vv 6).get f = .sl y0 0 (X.n + 1) (X.n + 1) 0 ∧ (vv 7).get f = out ∧ (vv 8).get f = .int .i64 ((pend X seen q).length : Int) ∧ (vv 9).get f = .int .i64 ((q : Int) - 1) ∧ (vv 10).get f = tsI c ∧ (vv 11).get f = .int .i64 told) ?_ ⟨c0, 0, X.tr.length, _, [], _, rfl, h0.room, hx0, oy0, hyl, ex0, ?_, hcm0, ls0, ?_⟩
    · rintro k f τ ⟨c, told, q, seen, O, out, rfl, hr1, hx1, oy1, yl1, own, hge, hcm, ls, g0, g6, g7, g8, g9, g10, g11⟩
      have hcc := w.cl c hcm
      have hcl := nodup_le2 c X.n hcc.2.1 hcc.2.2
      have hcs := fun t => tsI_ints t c (by unfold limit; omega)
      have hq := ls.b.q
      simp only [go_sem, ↓reduceIte, Nat.reduceMod, Nat.reduceEqDiff, Nat.reduceAdd, Nat.reduceMul, Nat.reduceSub, Nat.reduceLeDiff, Nat.reduceLT, Int.reduceEq, Int.reduceLT, Int.reduceLE, Int.reduceAdd, Int.reduceSub, Int.reduceNeg, reduceCtorEq, Nat.reduceShiftRight, Nat.reduceAnd, Nat.reduceBNe, g0, g6, g7, g8, g9, g10, g11, (hcs τ).vlen]
      -- the clause
      refine W_inv (fun k f τ => ∃ (r : Nat) (seen : List Bool) (O : List Int) (out : AV), k = c.length - r ∧ r ≤ c.length ∧ Room τ ∧ Ext σ τ ∧ τ.obj y0 = .cells (seen.map .bool) ∧ y0.val < τ.n.val ∧ ExO τ out (((0 : Int) :: O).map (.int .i64)) ∧ (∀ i ∈ ids out, σ.n.val ≤ i.val ∧ i ≠ y0) ∧ LP K X c told q r seen O ∧
        (vv 0).get f = .ptr b 0 ∧ (vv 6).get f = .sl y0 0 (X.n + 1) (X.n + 1) 0 ∧ (vv 7).get f = out ∧ (vv 8).get f = .int .i64 ((pend X seen q).length : Int) ∧ (vv 9).get f = .int .i64 ((q : Int) - 1) ∧ (vv 11).get f = .int .i64 told ∧ (vv 39).get f = tsI c ∧ (vv 40).get f = .int .i64 (c.length : Int) ∧ (vv 41).get f = .int .i64 (r : Int)) ?_ ⟨0, seen, O, out, rfl, by omega, hr1, hx1, oy1, yl1, own, hge, LP.start ls, ?_⟩
      · rintro k f τ ⟨r, seen, O, out, rfl, hrl, hr1, hx1, oy1, yl1, own, hge, lp, g0, g6, g7, g8, g9, g11, g39, g40, g41⟩
        have hS := hsol τ hr1 hx1
        have hpl : (pend X seen q).length ≤ q := by
          unfold pend
          exact Nat.le_trans (List.length_filter_le _ _) (by rw [List.length_range]; exact Nat.le_refl _)
        have hOl : O.length ≤ 28 := by
          have := nodup_le2 O X.n lp.s.b.o2 fun y hy => by obtain ⟨j, hj, _⟩ := lp.s.b.o1 y hy; have := w.rng _ (List.mem_of_getElem? hj); omega
          omega
        by_cases c1 : r < c.length
        · have hxm := List.getElem_mem c1
          have hxr := hcc.2.2 _ hxm
          have ex1 := (hcs τ).i64 c1 (ext_self τ)
          have ex2 := fun t => (hcs t).ia c1 1 .i64 t
          simp only [Nat.mul_one] at ex2
          have ewn : IntKind.wrap .i64 (-c[r]) = -c[r] := wrap_i64 (by omega) (by omega)
          have emx : max c[r] (-c[r]) = ((c[r].natAbs : Nat) : Int) := by omega
          have er : IntKind.wrap .i64 ((r : Int) + 1) = ((r + 1 : Nat) : Int) := by rw [wrap_i64 (by omega) (by omega)]; omega
          have hsl := lp.s.b.len
          have eb := getB_at (S := seen) (j := c[r].natAbs) (by omega)
          have el := getI_at (S := X.lev) (j := c[r].natAbs) (by rw [h.lv2]; omega) .i64
          have oy1' := oy1
          by_cases d1 : c[r] = told
          · simp only [go_sem, ↓reduceIte, Nat.reduceMod, Nat.reduceEqDiff, Nat.reduceAdd, Nat.reduceMul, Nat.reduceSub, Nat.reduceLeDiff, Nat.reduceLT, Int.reduceEq, Int.reduceLT, Int.reduceLE, Int.reduceAdd, Int.reduceSub, Int.reduceNeg, reduceCtorEq, Nat.reduceShiftRight, Nat.reduceAnd, Nat.reduceBNe, g0, g6, g7, g8, g9, g11, g39, g40, g41, Int.ofNat_lt, c1, ex2, ex1, ewn, emx, d1, er]
            exact ⟨c.length - (r + 1), by omega, r + 1, seen, O, out, rfl, by omega, hr1, hx1, oy1, yl1, own, hge, lp.same c1 d1, by simp⟩
          · cases d2 : seen.getD c[r].natAbs false with
            | true =>
              rw [d2] at eb
              simp only [go_sem, ↓reduceIte, Nat.reduceMod, Nat.reduceEqDiff, Nat.reduceAdd, Nat.reduceMul, Nat.reduceSub, Nat.reduceLeDiff, Nat.reduceLT, Int.reduceEq, Int.reduceLT, Int.reduceLE, Int.reduceAdd, Int.reduceSub, Int.reduceNeg, reduceCtorEq, Nat.reduceShiftRight, Nat.reduceAnd, Nat.reduceBNe, g0, g6, g7, g8, g9, g11, g39, g40, g41, Int.ofNat_lt, c1, ex2, ex1, ewn, emx, d1, er, hia hxr.2, oy1, wrap1_at eb]
              exact ⟨c.length - (r + 1), by omega, r + 1, seen, O, out, rfl, by omega, hr1, hx1, rfl, yl1, own, hge, lp.old c1 d1 d2, by simp⟩
            | false =>
              rw [d2] at eb
              obtain ⟨j, hjq, hj⟩ := lp.s.c2 _ hxm d1
              have hlv := cd.lev j _ hj
              rw [Int.natAbs_neg] at hlv
              rw [hlv] at el
              by_cases d3 : levAt X.st j = 0
              · have d3' : ((levAt X.st j : Nat) : Int) = 0 := by omega
                simp only [go_sem, ↓reduceIte, Nat.reduceMod, Nat.reduceEqDiff, Nat.reduceAdd, Nat.reduceMul, Nat.reduceSub, Nat.reduceLeDiff, Nat.reduceLT, Int.reduceEq, Int.reduceLT, Int.reduceLE, Int.reduceAdd, Int.reduceSub, Int.reduceNeg, reduceCtorEq, Nat.reduceShiftRight, Nat.reduceAnd, Nat.reduceBNe, g0, g6, g7, g8, g9, g11, g39, g40, g41, Int.ofNat_lt, c1, ex2, ex1, ewn, emx, d1, er, hia hxr.2, oy1, wrap1_at eb, hS.ob, solC, hil hxr.2, hS.ole, wrap1_at el, d3']
                exact ⟨c.length - (r + 1), by omega, r + 1, seen, O, out, rfl, by omega, hr1, hx1, rfl, yl1, own, hge, lp.zero c1 hj d3, by simp⟩
              · have d3' : ¬ ((levAt X.st j : Nat) : Int) = 0 := by omega
                have hsv := hS.hs.vlen
                rw [List.length_map] at hsv
                have ew := vstore_el (a := .bool true) oy1 rfl (show c[r].natAbs < (seen.map AV.bool).length by rw [List.length_map]; omega)
                have hy0v : σ.n.val ≤ y0.val := by omega
                have hr2 := hr1.put yl1 (.cells ((seen.map .bool).set c[r].natAbs (.bool true)))
                have hx2 := hx1.put hy0v (.cells ((seen.map .bool).set c[r].natAbs (.bool true)))
                have oy2 : (τ.put y0 (.cells ((seen.map .bool).set c[r].natAbs (.bool true)))).obj y0 = .cells ((seen.set c[r].natAbs true).map .bool) := by rw [put_self, List.map_set]
                have own2 : ExO (τ.put y0 (.cells ((seen.map .bool).set c[r].natAbs (.bool true)))) out (((0 : Int) :: O).map (.int .i64)) := own.frame fun i hi => by rw [St.obj_put, if_neg (hge i hi).2]
                have yl2 : y0.val < (τ.put y0 (.cells ((seen.map .bool).set c[r].natAbs (.bool true)))).n.val := by rw [put_n]; exact yl1
                simp only [go_sem, ↓reduceIte, Nat.reduceMod, Nat.reduceEqDiff, Nat.reduceAdd, Nat.reduceMul, Nat.reduceSub, Nat.reduceLeDiff, Nat.reduceLT, Int.reduceEq, Int.reduceLT, Int.reduceLE, Int.reduceAdd, Int.reduceSub, Int.reduceNeg, reduceCtorEq, Nat.reduceShiftRight, Nat.reduceAnd, Nat.reduceBNe, g0, g6, g7, g8, g9, g11, g39, g40, g41, Int.ofNat_lt, c1, ex2, ex1, ewn, emx, d1, hia hxr.2, oy1, wrap1_at eb, hS.ob, solC, hil hxr.2, hS.ole, wrap1_at el, d3', ew]
                generalize τ.put y0 (.cells ((seen.map .bool).set c[r].natAbs (.bool true))) = τ1 at *
                rw [show τ1 = Sx τ1 [] from rfl]
                refine W_drawn hr2 _ (by simp) ?_
                simp only [List.nil_append, List.length_nil, List.length_cons, List.replicate_succ, List.replicate_zero]
                have hr3 := hr2.sx (l := [.dead, .dead, .dead, .dead, .dead, .dead, .dead, .dead, .dead, .dead, .dead, .dead, .dead, .dead, .dead]) (by simp)
                have hx3 := ext_Sx (s := τ1) (l := [.dead, .dead, .dead, .dead, .dead, .dead, .dead, .dead, .dead, .dead, .dead, .dead, .dead, .dead, .dead]) hr2 (by simp)
                have n3 := Sx_n (s := τ1) (l := [.dead, .dead, .dead, .dead, .dead, .dead, .dead, .dead, .dead, .dead, .dead, .dead, .dead, .dead, .dead]) hr2 (by simp)
                generalize Sx τ1 [.dead, .dead, .dead, .dead, .dead, .dead, .dead, .dead, .dead, .dead, .dead, .dead, .dead, .dead, .dead] = τ2 at *
                have hx4 := hx2.trans hx3
                have hS2 := hsol τ2 hr3 hx4
                have oy3 : τ2.obj y0 = .cells ((seen.set c[r].natAbs true).map .bool) := by rw [hx3.old y0 yl2]; exact oy2
                have yl3 : y0.val < τ2.n.val := by omega
                have own3 : ExO τ2 out (((0 : Int) :: O).map (.int .i64)) := own2.frame fun i hi => hx3.old i (own2.lt hr2 i hi)
                by_cases d4 : levAt X.st j = X.st.length
                · have d4' : ((levAt X.st j : Nat) : Int) = (X.st.length : Int) := by omega
                  obtain ⟨lp2, hpe⟩ := lp.here w c1 d1 d2 hjq hj d4
                  have eh : IntKind.wrap .i64 (((pend X seen q).length : Int) + 1) = ((pend X (seen.set c[r].natAbs true) q).length : Int) := by rw [wrap_i64 (by omega) (by omega)]; omega
                  simp only [go_sem, ↓reduceIte, Nat.reduceMod, Nat.reduceEqDiff, Nat.reduceAdd, Nat.reduceMul, Nat.reduceSub, Nat.reduceLeDiff, Nat.reduceLT, Int.reduceEq, Int.reduceLT, Int.reduceLE, Int.reduceAdd, Int.reduceSub, Int.reduceNeg, reduceCtorEq, Nat.reduceShiftRight, Nat.reduceAnd, Nat.reduceBNe, hr2, g0, g6, g7, g8, g9, g11, g39, g40, g41, hS2.ob, solC, hil hxr.2, hS2.ole, wrap1_at el, hsv, d4', eh, er]
                  exact ⟨c.length - (r + 1), by omega, r + 1, _, O, out, rfl, by omega, hr3, hx4, oy3, yl3, own3, hge, lp2, by simp⟩
                · have d4' : ¬ ((levAt X.st j : Nat) : Int) = (X.st.length : Int) := by omega
                  have hle := levAt_le X.st j
                  obtain ⟨lp2, hpe⟩ := lp.app w c1 d1 d2 hjq hj (by omega) (by omega)
                  have hr4 := hr3.push (.cells [.int .i64 c[r]])
                  have own4 : ExO (τ2.push (.cells [.int .i64 c[r]])) out (((0 : Int) :: O).map (.int .i64)) := own3.frame fun i hi => push_old (own3.lt hr3 i hi)
                  obtain ⟨out', τ5, i5, k1, k2, k3, k4, k5, k6, k7⟩ := own4.app hr4 (y := τ2.n) (x := .int .i64 c[r]) (push_self _ _) 8 (by simp; unfold limit; omega) (by simp; unfold limit; omega)
                  rw [push_n] at k4
                  have k6v : i5.val = τ2.n.val + 1 := by rw [k6, push_n]
                  have n4 := hx4.n
                  simp only [go_sem, ↓reduceIte, Nat.reduceMod, Nat.reduceEqDiff, Nat.reduceAdd, Nat.reduceMul, Nat.reduceSub, Nat.reduceLeDiff, Nat.reduceLT, Int.reduceEq, Int.reduceLT, Int.reduceLE, Int.reduceAdd, Int.reduceSub, Int.reduceNeg, reduceCtorEq, Nat.reduceShiftRight, Nat.reduceAnd, Nat.reduceBNe, hr2, g0, g6, g7, g8, g9, g11, g39, g40, g41, hS2.ob, solC, hil hxr.2, hS2.ole, wrap1_at el, hsv, d4', vblit_push, k1, er]
                  refine ⟨c.length - (r + 1), by omega, r + 1, _, O ++ [c[r]], out', rfl, by omega, k3, ⟨by omega, fun d hd => ?_⟩, ?_, by omega, ?_, ?_, lp2, ?_⟩
                  · rw [k7 d (fun hm => by have := (hge d hm).1; omega) (by rw [push_n]; omega), push_old (by omega)]
                    exact hx4.old d hd
                  · rw [k7 y0 (fun hm => (hge y0 hm).2 rfl) (by rw [push_n]; omega), push_old yl3]; exact oy3
                  · rw [List.map_cons] at k2
                    simpa using k2
                  · intro i hi
                    rw [k5, List.mem_singleton] at hi
                    subst hi
                    refine ⟨by omega, fun e => ?_⟩
                    rw [e] at k6v; omega
                  · rw [hpe]; simp
        · have er : r = c.length := by omega
          subst er
          have lq := lp.done w cd hst
          simp only [go_sem, ↓reduceIte, Nat.reduceMod, Nat.reduceEqDiff, Nat.reduceAdd, Nat.reduceMul, Nat.reduceSub, Nat.reduceLeDiff, Nat.reduceLT, Int.reduceEq, Int.reduceLT, Int.reduceLE, Int.reduceAdd, Int.reduceSub, Int.reduceNeg, reduceCtorEq, Nat.reduceShiftRight, Nat.reduceAnd, Nat.reduceBNe, g0, g6, g7, g8, g9, g11, g39, g40, g41, Int.ofNat_lt, c1]
          refine W_inv (fun k f τ => ∃ (m : Nat), m = k ∧ m ≤ q ∧ Room τ ∧ Ext σ τ ∧ τ.obj y0 = .cells (seen.map .bool) ∧ y0.val < τ.n.val ∧ ExO τ out (((0 : Int) :: O).map (.int .i64)) ∧ LQ K X m seen O ∧
            (vv 0).get f = .ptr b 0 ∧ (vv 6).get f = .sl y0 0 (X.n + 1) (X.n + 1) 0 ∧ (vv 7).get f = out ∧ (vv 8).get f = .int .i64 ((pend X seen m).length : Int) ∧ (vv 9).get f = .int .i64 ((m : Int) - 1)) ?_ ⟨q, rfl, Nat.le_refl _, hr1, hx1, oy1, yl1, own, lq, ?_⟩
          · rintro k f τ ⟨m, rfl, hmq, hr1, hx1, oy1, yl1, own, lq, g0, g6, g7, g8, g9⟩
            have hmp := lq.pos
            obtain ⟨m, rfl⟩ : ∃ m', m = m' + 1 := ⟨m - 1, by omega⟩
            have hmt : m < X.tr.length := by have := lq.b.q; omega
            have e9 : ((m + 1 : Nat) : Int) - 1 = (m : Int) := by omega
            rw [e9] at g9
            have hx : X.tr[m]? = some (X.tr.getD m 0) := by rw [List.getD_eq_getElem?_getD, List.getElem?_eq_getElem hmt]; rfl
            have hxr := w.rng _ (List.mem_of_getElem? hx)
            obtain ⟨x, hxd⟩ : ∃ x, x = X.tr.getD m 0 := ⟨_, rfl⟩
            rw [← hxd] at hx hxr
            have ewn : IntKind.wrap .i64 (-x) = -x := wrap_i64 (by omega) (by omega)
            have emx : max x (-x) = ((x.natAbs : Nat) : Int) := by omega
            have em1 : IntKind.wrap .i64 ((m : Int) - 1) = (m : Int) - 1 := wrap_i64 (by omega) (by omega)
            have hsl := lq.b.len
            have eb := getB_at (S := seen) (j := x.natAbs) (by omega)
            have hsvm : sv X seen m = seen.getD x.natAbs false := by unfold sv; rw [← hxd]
            rw [← hsvm] at eb
            simp only [go_sem, ↓reduceIte, Nat.reduceMod, Nat.reduceEqDiff, Nat.reduceAdd, Nat.reduceMul, Nat.reduceSub, Nat.reduceLeDiff, Nat.reduceLT, Int.reduceEq, Int.reduceLT, Int.reduceLE, Int.reduceAdd, Int.reduceSub, Int.reduceNeg, reduceCtorEq, Nat.reduceShiftRight, Nat.reduceAnd, Nat.reduceBNe]
            rw [show τ = Sx τ [] from rfl]
            refine W_drawn hr1 _ (by simp) ?_
            simp only [List.nil_append, List.length_nil, List.length_cons, List.replicate_succ, List.replicate_zero]
            have hr2 := hr1.sx (l := [.dead, .dead, .dead, .dead, .dead, .dead, .dead, .dead, .dead, .dead, .dead, .dead, .dead, .dead, .dead, .dead, .dead, .dead, .dead, .dead, .dead, .dead]) (by simp)
            have hx2' := ext_Sx (s := τ) (l := [.dead, .dead, .dead, .dead, .dead, .dead, .dead, .dead, .dead, .dead, .dead, .dead, .dead, .dead, .dead, .dead, .dead, .dead, .dead, .dead, .dead, .dead]) hr1 (by simp)
            have n2 := Sx_n (s := τ) (l := [.dead, .dead, .dead, .dead, .dead, .dead, .dead, .dead, .dead, .dead, .dead, .dead, .dead, .dead, .dead, .dead, .dead, .dead, .dead, .dead, .dead, .dead]) hr1 (by simp)
            generalize Sx τ [.dead, .dead, .dead, .dead, .dead, .dead, .dead, .dead, .dead, .dead, .dead, .dead, .dead, .dead, .dead, .dead, .dead, .dead, .dead, .dead, .dead, .dead] = τ2 at *
            have hx2 := hx1.trans hx2'
            have hS := hsol τ2 hr2 hx2
            have oy2 : τ2.obj y0 = .cells (seen.map .bool) := by rw [hx2'.old y0 yl1]; exact oy1
            have yl2 : y0.val < τ2.n.val := by omega
            have own2 : ExO τ2 out (((0 : Int) :: O).map (.int .i64)) := own.frame fun i hi => hx2'.old i (own.lt hr1 i hi)
            obtain ⟨z, z1, zs, z2, z3⟩ := hS.ht.el (k := m) (by rw [List.length_map]; exact hmt)
            rw [List.getElem?_map, hx] at z3
            cases hsv : sv X seen m with
            | false =>
              rw [hsv] at eb
              obtain ⟨lq2, hpe⟩ := lq.skip hsv
              simp only [go_sem, ↓reduceIte, Nat.reduceMod, Nat.reduceEqDiff, Nat.reduceAdd, Nat.reduceMul, Nat.reduceSub, Nat.reduceLeDiff, Nat.reduceLT, Int.reduceEq, Int.reduceLT, Int.reduceLE, Int.reduceAdd, Int.reduceSub, Int.reduceNeg, reduceCtorEq, Nat.reduceShiftRight, Nat.reduceAnd, Nat.reduceBNe, hr1, g0, g6, g7, g8, g9, hS.ob, solC, z1, z2, wrap1_at z3, Option.map_some, ewn, emx, hia hxr.2, oy2, wrap1_at eb, Bool.not_false, em1]
              exact ⟨m, by omega, m, rfl, by omega, hr2, hx2, yl2, own2, lq2, by rw [hpe], rfl⟩
            | true =>
              rw [hsv] at eb
              obtain ⟨hl, hpe⟩ := lq.stop hsv
              have hpl : (pend X seen (m + 1)).length = (pend X seen m).length + 1 := by rw [hpe, List.length_append]; rfl
              have hpl2 : (pend X seen m).length ≤ m := by
                unfold pend
                exact Nat.le_trans (List.length_filter_le _ _) (by rw [List.length_range]; exact Nat.le_refl _)
              have eh : IntKind.wrap .i64 (((pend X seen (m + 1)).length : Int) - 1) = ((pend X seen m).length : Int) := by rw [wrap_i64 (by omega) (by omega)]; omega
              by_cases hp0 : pend X seen m = []
              · have hp0' : ((pend X seen m).length : Int) = 0 := by rw [hp0]; rfl
                obtain ⟨level, hlv, hlr⟩ := lq.lrn w cd hst hsv hp0
                rw [← hxd] at hlr
                obtain ⟨i, ex, rfl, hex, oo, hid⟩ := own2.shape (by simp)
                have ho1 : ((((0 : Int) :: O).map (AV.int .i64)).length) = O.length + 1 := by simp
                rw [ho1] at g7 own2
                have a0 := viaddr_sl (k := .i64) (b := i) (o := 0) (len := O.length + 1) (cap := O.length + 1) (ex := ex) (i := 0) (by omega)
                have a0' : ∀ t, viaddr 1 (.sl i 0 (O.length + 1) (O.length + 1) ex) (.int .i64 0) t = .ok (.ptr i 0) t := fun t => a0 t
                have ew := vstore_el (a := .int .i64 (-x)) oo rfl (show 0 < (((0 : Int) :: O).map (AV.int .i64)).length by simp)
                obtain ⟨at_, t1, t2, t3⟩ := tail_sl i O.length ex hex
                have hige := hge i (by rw [hid]; simp)
                have hil2 : i.val < τ2.n.val := St.lt_of_obj hr2 oo
                have hr3 := hr2.put hil2 (.cells ((((0 : Int) :: O).map (AV.int .i64)).set 0 (.int .i64 (-x))))
                have hx3 := hx2.put hige.1 (.cells ((((0 : Int) :: O).map (AV.int .i64)).set 0 (.int .i64 (-x))))
                have oi3 : (τ2.put i (.cells ((((0 : Int) :: O).map (AV.int .i64)).set 0 (.int .i64 (-x))))).obj i = .cells (AV.int .i64 (-x) :: O.map (.int .i64)) := by rw [put_self]; rfl
                obtain ⟨τ3, hτ3⟩ : ∃ τ3, τ3 = τ2.put i (.cells ((((0 : Int) :: O).map (AV.int .i64)).set 0 (.int .i64 (-x)))) := ⟨_, rfl⟩
                rw [← hτ3] at ew hr3 hx3 oi3
                simp only [go_sem, ↓reduceIte, Nat.reduceMod, Nat.reduceEqDiff, Nat.reduceAdd, Nat.reduceMul, Nat.reduceSub, Nat.reduceLeDiff, Nat.reduceLT, Int.reduceEq, Int.reduceLT, Int.reduceLE, Int.reduceAdd, Int.reduceSub, Int.reduceNeg, reduceCtorEq, Nat.reduceShiftRight, Nat.reduceAnd, Nat.reduceBNe, hr1, g0, g6, g7, g8, g9, hS.ob, solC, z1, z2, wrap1_at z3, Option.map_some, ewn, emx, hia hxr.2, oy2, wrap1_at eb, Bool.not_true, em1, eh, hp0', a0', ew, t1, t2]
                have hS3 := hsol τ3 hr3 hx3
                refine W_inv (fun k f τ => ∃ (r : Nat), k = O.length - r ∧ r ≤ O.length ∧ τ = τ3 ∧ (vv 0).get f = .ptr b 0 ∧ (vv 7).get f = .sl i 0 (O.length + 1) (O.length + 1) ex ∧ (vv 15).get f = .int .i64 (maxLev X.lev (O.take r)) ∧ (vv 154).get f = at_ ∧ (vv 155).get f = .int .i64 (O.length : Int) ∧ (vv 156).get f = .int .i64 (r : Int)) ?_ ⟨0, rfl, by omega, rfl, ?_⟩
                · rintro k f τ ⟨r, rfl, hrl, rfl, g0, g7, g15, g154, g155, g156⟩
                  by_cases f1 : r < O.length
                  · have hym := List.getElem_mem f1
                    obtain ⟨jj, hjj, _⟩ := lq.b.o1 _ hym
                    have hyr := w.rng _ (List.mem_of_getElem? hjj)
                    have hyn : O[r].natAbs ≤ X.n := by omega
                    have e1 : (AV.int .i64 (-x) :: O.map (AV.int .i64))[1 + r]? = some (.int .i64 O[r]) := by
                      rw [Nat.add_comm, List.getElem?_cons_succ, List.getElem?_map, List.getElem?_eq_getElem f1]; rfl
                    have ewy : IntKind.wrap .i64 (-O[r]) = -O[r] := wrap_i64 (by omega) (by omega)
                    have emy : max O[r] (-O[r]) = ((O[r].natAbs : Nat) : Int) := by omega
                    have el := getI_at (S := X.lev) (j := O[r].natAbs) (by rw [h.lv2]; omega) .i64
                    have et : O.take (r + 1) = O.take r ++ [O[r]] := (List.take_append_getElem f1).symm
                    simp only [go_sem, ↓reduceIte, Nat.reduceMod, Nat.reduceEqDiff, Nat.reduceAdd, Nat.reduceMul, Nat.reduceSub, Nat.reduceLeDiff, Nat.reduceLT, Int.reduceEq, Int.reduceLT, Int.reduceLE, Int.reduceAdd, Int.reduceSub, Int.reduceNeg, reduceCtorEq, Nat.reduceShiftRight, Nat.reduceAnd, Nat.reduceBNe, g0, g7, g15, g154, g155, g156, Int.ofNat_lt, f1, t3 r f1, oi3, wrap1_at e1, hS3.ob, solC, ewy, emy, hil hyn, hS3.ole, wrap1_at el]
                    refine ⟨O.length - (r + 1), by omega, r + 1, rfl, by omega, ?_⟩
                    have hOl := hOl0 O lq.b
                    rw [et, maxLev_snoc, wrap_i64 (by omega) (by omega)]; simp
                  · have erl : r = O.length := by omega
                    subst erl
                    rw [List.take_length, hlv] at g15
                    simp only [go_sem, ↓reduceIte, Nat.reduceMod, Nat.reduceEqDiff, Nat.reduceAdd, Nat.reduceMul, Nat.reduceSub, Nat.reduceLeDiff, Nat.reduceLT, Int.reduceEq, Int.reduceLT, Int.reduceLE, Int.reduceAdd, Int.reduceSub, Int.reduceNeg, reduceCtorEq, Nat.reduceShiftRight, Nat.reduceAnd, Nat.reduceBNe, g0, g7, g15, g154, g155, g156, Int.ofNat_lt, f1]
                    refine ⟨hx3, _, fz_tup2 (.slN i 0 _ _ ex ((-x :: O).map (.int .i64)) ((-x :: O).map (.int .i64)) hige.1 oi3 (by simp) (fun j c d h1 h2 => ?_)) (.int _ _), -x, O, level, ?_, hlr⟩
                    · rw [List.drop_zero] at h1
                      rw [h1] at h2; cases h2
                      obtain ⟨z, _, rfl⟩ := List.mem_map.mp (List.mem_of_getElem? h1)
                      exact .int _ _
                    · simp [tsI]
                · simp only [go_sem, ↓reduceIte, Nat.reduceMod, Nat.reduceEqDiff, Nat.reduceAdd, Nat.reduceMul, Nat.reduceSub, Nat.reduceLeDiff, Nat.reduceLT, Int.reduceEq, Int.reduceLT, Int.reduceLE, Int.reduceAdd, Int.reduceSub, Int.reduceNeg, reduceCtorEq, Nat.reduceShiftRight, Nat.reduceAnd, Nat.reduceBNe, g0, g7]
                  simp [maxLev]
              · have hp0' : ¬ ((pend X seen m).length : Int) = 0 := fun e => hp0 (List.eq_nil_of_length_eq_zero (by omega))
                obtain ⟨kq, c', r1, r2, ls'⟩ := lq.next w cd hst hsv hp0
                rw [← hxd] at r1 ls'
                have er := getI_at (S := X.rea) (j := x.natAbs) (by rw [h.lv3]; omega) .i64
                rw [r1] at er
                simp only [go_sem, ↓reduceIte, Nat.reduceMod, Nat.reduceEqDiff, Nat.reduceAdd, Nat.reduceMul, Nat.reduceSub, Nat.reduceLeDiff, Nat.reduceLT, Int.reduceEq, Int.reduceLT, Int.reduceLE, Int.reduceAdd, Int.reduceSub, Int.reduceNeg, reduceCtorEq, Nat.reduceShiftRight, Nat.reduceAnd, Nat.reduceBNe, hr1, g0, g6, g7, g8, g9, hS.ob, solC, z1, z2, wrap1_at z3, Option.map_some, ewn, emx, hia hxr.2, oy2, wrap1_at eb, Bool.not_true, em1, eh, hp0']
                rw [show τ2 = Sx τ2 [] from rfl]
                refine W_drawn hr2 _ (by simp) ?_
                simp only [List.nil_append, List.length_nil, List.length_cons, List.replicate_succ, List.replicate_zero]
                have hr3 := hr2.sx (l := [.dead, .dead, .dead, .dead, .dead, .dead, .dead, .dead, .dead, .dead, .dead, .dead, .dead, .dead, .dead, .dead, .dead, .dead]) (by simp)
                have hx3' := ext_Sx (s := τ2) (l := [.dead, .dead, .dead, .dead, .dead, .dead, .dead, .dead, .dead, .dead, .dead, .dead, .dead, .dead, .dead, .dead, .dead, .dead]) hr2 (by simp)
                have n3 := Sx_n (s := τ2) (l := [.dead, .dead, .dead, .dead, .dead, .dead, .dead, .dead, .dead, .dead, .dead, .dead, .dead, .dead, .dead, .dead, .dead, .dead]) hr2 (by simp)
                generalize Sx τ2 [.dead, .dead, .dead, .dead, .dead, .dead, .dead, .dead, .dead, .dead, .dead, .dead, .dead, .dead, .dead, .dead, .dead, .dead] = τ3 at *
                have hx3 := hx2.trans hx3'
                have hS3 := hsol τ3 hr3 hx3
                have oy3 : τ3.obj y0 = .cells (seen.map .bool) := by rw [hx3'.old y0 yl2]; exact oy2
                have yl3 : y0.val < τ3.n.val := by omega
                have own3 : ExO τ3 out (((0 : Int) :: O).map (.int .i64)) := own2.frame fun i hi => hx3'.old i (own2.lt hr2 i hi)
                obtain ⟨y, y1, ys, y2, y3⟩ := hS3.hl.el (k := kq) (by rw [List.length_map]; exact (List.getElem?_eq_some_iff.mp r2).1)
                rw [List.getElem?_map, r2] at y3
                simp only [go_sem, ↓reduceIte, Nat.reduceMod, Nat.reduceEqDiff, Nat.reduceAdd, Nat.reduceMul, Nat.reduceSub, Nat.reduceLeDiff, Nat.reduceLT, Int.reduceEq, Int.reduceLT, Int.reduceLE, Int.reduceAdd, Int.reduceSub, Int.reduceNeg, reduceCtorEq, Nat.reduceShiftRight, Nat.reduceAnd, Nat.reduceBNe, hr2, g0, g6, g7, g8, g9, hS3.ob, solC, ewn, emx, hire hxr.2, hS3.ore, wrap1_at er, y1, y2, wrap1_at y3, Option.map_some]
                exact ⟨m, by omega, c', x, m, seen, O, out, rfl, hr3, hx3, oy3, yl3, own3, hge, List.mem_of_getElem? r2, ls', by simp⟩
          · simp only [go_sem, ↓reduceIte, Nat.reduceMod, Nat.reduceEqDiff, Nat.reduceAdd, Nat.reduceMul, Nat.reduceSub, Nat.reduceLeDiff, Nat.reduceLT, Int.reduceEq, Int.reduceLT, Int.reduceLE, Int.reduceAdd, Int.reduceSub, Int.reduceNeg, reduceCtorEq, Nat.reduceShiftRight, Nat.reduceAnd, Nat.reduceBNe, g0, g6, g7, g8, g9]
      · simp only [go_sem, ↓reduceIte, Nat.reduceMod, Nat.reduceEqDiff, Nat.reduceAdd, Nat.reduceMul, Nat.reduceSub, Nat.reduceLeDiff, Nat.reduceLT, Int.reduceEq, Int.reduceLT, Int.reduceLE, Int.reduceAdd, Int.reduceSub, Int.reduceNeg, reduceCtorEq, Nat.reduceShiftRight, Nat.reduceAnd, Nat.reduceBNe, g0, g6, g7, g8, g9, g10, g11]
        simp
    · intro i hi
      have : i = nm σ 1 := by simpa [ids, AV.onSl] using hi
      rw [this]
      exact ⟨by omega, fun e => hy01 e.symm⟩
    · have hp := hpe0 X.tr.length
      rw [List.replicate_succ] at hp
      simp only [go_sem, ↓reduceIte, Nat.reduceMod, Nat.reduceEqDiff, Nat.reduceAdd, Nat.reduceMul, Nat.reduceSub, Nat.reduceLeDiff, Nat.reduceLT, Int.reduceEq, Int.reduceLT, Int.reduceLE, Int.reduceAdd, Int.reduceSub, Int.reduceNeg, reduceCtorEq, Nat.reduceShiftRight, Nat.reduceAnd, Nat.reduceBNe, hp]
      simp
  exact ⟨u, rest, level, hr1, hL⟩
end
end Go.Proofs.Ytggeadnjikpjnaa
namespace Go.Proofs.Ytggeadnjikpjnaa
open Go Go.Vm
set_option linter.unusedVariables false
set_option linter.unusedSimpArgs false
section
variable {s σ : St} {b : Vm.Id} {G : Fx} {tv sv' lv : AV} {es : List (AV × AV)} {X : SV} {K : List (List Int)}
theorem conflicts_ok (h : Sol0 s σ b G tv sv' lv es X) (l0 : LI0 K X) {i0 : Nat} {c0 : List Int} (hc0 : X.cl[i0]? = some c0) (hall : ∀ y ∈ c0, litV X.val y = -1) (hcur : 0 < X.st.length → ∃ y ∈ c0, ∃ j, X.tr[j]? = some (-y) ∧ levAt X.st j = X.st.length) :
    ∃ (r : Bool) (σ' : St) (X' : SV), CA F.sat_Solver_conflicts [.ptr b 0, .int .i64 (i0 : Int)] σ = .ok (.bool r) σ' ∧ Sol s σ' b G X' ∧ ((X.st = [] ∧ X' = X.sC true) ∨ (LI K X' ∧ mea X + 1 ≤ mea X' ∧ X'.closed = X.closed ∧ X'.n = X.n)) := by
  have key : ∃ v σ' X', CA F.sat_Solver_conflicts [.ptr b 0, .int .i64 (i0 : Int)] σ = .ok v σ' ∧ ((∃ r : Bool, v = .bool r) ∧ ((X.st = [] ∧ X' = X.sC true) ∨ (LI K X' ∧ mea X + 1 ≤ mea X' ∧ X'.closed = X.closed ∧ X'.n = X.n))) ∧ Sol s σ' b G X' := by
    have ob := h.ob
    have hsv := h.hs.vlen
    rw [List.length_map] at hsv
    by_cases hst : X.st = []
    · rw [hst] at hsv
      have hsv0 : ∀ t, vlen sv' t = .ok (.int .i64 0) t := fun t => hsv t
      obtain ⟨τ1, w1, h1⟩ := h.setClosed true
      refine fn_sol h code_sat_Solver_conflicts (by simp) ?_
      simp only [go_sem, ↓reduceIte, Nat.reduceMod, Nat.reduceEqDiff, Nat.reduceAdd, Nat.reduceMul, Nat.reduceSub, Nat.reduceLeDiff, Nat.reduceLT, Int.reduceEq, Int.reduceLT, Int.reduceLE, Int.reduceAdd, Int.reduceSub, Int.reduceNeg, reduceCtorEq, Nat.reduceShiftRight, Nat.reduceAnd, Nat.reduceBNe, Sx_nil, ob, solC, hsv0, w1]
      exact ⟨ov_bool _ _, _, ⟨⟨false, rfl⟩, .inl ⟨hst, rfl⟩⟩, _, _, _, _, h1⟩
    · have hsp : 0 < X.st.length := List.length_pos_iff.mpr hst
      have hsne : ¬ ((X.st.length : Int) = 0) := by omega
      have sm := l0.sm
      have w := l0.w
      have hn14 := l0.n
      have htl := w.trlen
      obtain ⟨u, rest, level, f1, L⟩ := learns_ok h l0 hsp hc0 hall (hcur hsp)
      obtain ⟨p, hp⟩ : ∃ p : Nat, X.st[level]'L.lv = (p : Int) := ⟨(X.st[level]'L.lv).toNat, by have := (l0.st_b _ (List.getElem_mem L.lv)).1; omega⟩
      have hstl := st_len l0.cd.st_s l0.st_b
      obtain ⟨σ1, f2, tv1, sv1, lv1, es1, h1⟩ := back_ok h (level := level) (by have := L.lv; omega) (by omega) (by omega) w.rng l0.st_b
      obtain ⟨hbk, hpt, hpd, hw2, hcd2, hst2, hwp2, hwt2, hlev2⟩ := back_facts l0 L.lv hp
      obtain ⟨hlu, hlr⟩ := back_lits l0 L hp
      have hrg := nd_in l0 L
      obtain ⟨z1, z2, z3, z4, z5, z6, z7, z8, z9⟩ := zeroX_keeps (X.tr.drop p) X
      have en : (backX X level).n = X.n := by rw [hbk]; exact z1
      have et : (backX X level).tr = X.tr.take p := by rw [hbk]; show (zeroX X _).tr.take p = _; rw [z2]
      have es' : (backX X level).st = X.st.take level := by rw [hbk]; show (zeroX X _).st.take level = _; rw [z3]
      have ec : (backX X level).cl = X.cl := by rw [hbk]; exact z4
      have ei : (backX X level).inn = X.inn := by rw [hbk]; exact z5
      have ed : (backX X level).done = X.done := by rw [hbk]; exact z6
      have ecl : (backX X level).closed = X.closed := by rw [hbk]; exact z7
      have hlearn := fun r hr => LI0.learn l0 L hp r hr
      have hcle := nodup_le2 (u :: rest) X.n L.nd hrg
      have hrl : X.st.length ≤ 14 := by omega
      generalize hY : backX X level = Y at *
      have hrs : Room σ1 := h1.room
      have h2 := h1.sx (l := [.dead, .dead, .dead, .dead, .dead, .dead, .dead, .dead, .dead, .dead, .dead, .dead, .dead, .dead, .dead]) (by simp)
      obtain ⟨τ2, hτ2⟩ : ∃ τ2, τ2 = Sx σ1 [.dead, .dead, .dead, .dead, .dead, .dead, .dead, .dead, .dead, .dead, .dead, .dead, .dead, .dead, .dead] := ⟨_, rfl⟩
      rw [← hτ2] at h2
      have htv := h2.ht.vlen
      have hYt : Y.tr.length = p := by rw [et, List.length_take]; omega
      rw [List.length_map, hYt] at htv
      have hmin : min (Y.done : Int) (p : Int) = (p : Int) := by rw [ed]; omega
      obtain ⟨σ3, w3, h3⟩ := h2.setDone p
      have sm2 : Sm (Y.sD p) := ⟨by rw [SV.sD_n, en]; omega, by rw [SV.sD_tr]; omega, by rw [SV.sD_st, es', List.length_take]; omega, by rw [SV.sD_cl, ec]; exact sm.cl, fun k => by rw [SV.sD_inn, ei]; exact sm.inn k⟩
      have htsN : tsN (u :: rest) = tsI (u :: rest) := by unfold tsN; rw [if_neg (by simp)]
      obtain ⟨σ4, f4, tv4, sv4, lv4, es4, h4⟩ := keeps_ok h3 (c := u :: rest) (fun x hx => by rw [SV.sD_n, en]; exact hrg x hx) sm2 (by omega)
      rw [htsN] at f4
      have hu := hrg u List.mem_cons_self
      have hcs := fun t => tsI_ints t (u :: rest) (by unfold limit; omega)
      have hv0 : ∀ t, viaddr 1 (tsI (u :: rest)) (.int .i64 0) t = .ok (elp (tsI (u :: rest)) 0) t := fun t => (hcs t).ia0 (by simp) 1 .i64 t
      have hl : ∀ t, vload false 1 (elp (tsI (u :: rest)) 0) t = .ok (.int .i64 u) t := fun t => (hcs t).i64 (i := 0) (by simp) (ext_self t)
      have h5 := h4.sx (l := [.dead, .dead, .dead, .dead, .dead, .dead, .dead, .dead]) (by simp)
      obtain ⟨τ5, hτ5⟩ : ∃ τ5, τ5 = Sx σ4 [.dead, .dead, .dead, .dead, .dead, .dead, .dead, .dead] := ⟨_, rfl⟩
      rw [← hτ5] at h5
      have hkn : (keepX (Y.sD p) (u :: rest)).n = X.n := by
        unfold keepX
        rw [if_neg (by simp), (entsX_keeps _ _ _).1, SV.aL_n, (keep1_keeps _ _).1, SV.sD_n, en]
      have f5 := of_ok h5 (x := u) (by rw [hkn]; exact hu.2) (by rw [hkn]; omega)
      refine fn_sol h code_sat_Solver_conflicts (by simp) ?_
      simp only [go_sem, ↓reduceIte, Nat.reduceMod, Nat.reduceEqDiff, Nat.reduceAdd, Nat.reduceMul, Nat.reduceSub, Nat.reduceLeDiff, Nat.reduceLT, Int.reduceEq, Int.reduceLT, Int.reduceLE, Int.reduceAdd, Int.reduceSub, Int.reduceNeg, reduceCtorEq, Nat.reduceShiftRight, Nat.reduceAnd, Nat.reduceBNe, Sx_nil, ob, solC, hsv, hsne, f1, f2]
      rw [show σ1 = Sx σ1 [] from rfl]
      refine W_drawn hrs _ (by simp) ?_
      simp only [List.nil_append, List.length_nil, List.length_cons, List.replicate_succ, List.replicate_zero]
      rw [← hτ2]
      simp only [go_sem, ↓reduceIte, Nat.reduceMod, Nat.reduceEqDiff, Nat.reduceAdd, Nat.reduceMul, Nat.reduceSub, Nat.reduceLeDiff, Nat.reduceLT, Int.reduceEq, Int.reduceLT, Int.reduceLE, Int.reduceAdd, Int.reduceSub, Int.reduceNeg, reduceCtorEq, Nat.reduceShiftRight, Nat.reduceAnd, Nat.reduceBNe, hrs, h2.ob, solC, htv, hmin, w3, f4]
      rw [show σ4 = Sx σ4 [] from rfl]
      refine W_drawn h4.room _ (by simp) ?_
      simp only [List.nil_append, List.length_nil, List.length_cons, List.replicate_succ, List.replicate_zero]
      rw [← hτ5]
      by_cases hre : rest = []
      · have hlev0 := L.em hre
        have hk : keepX (Y.sD p) (u :: rest) = lrnX (Y.sD p) (u :: rest) u (-1) := by
          unfold keepX lrnX
          rw [if_neg (by simp)]
          have : keep1 (Y.sD p) (u :: rest) = putX (Y.sD p) u (-1) := by
            unfold keep1
            rw [if_pos ⟨by rw [hre]; rfl, by rw [SV.sD_st, es', hlev0]; rfl⟩]
            have e0 : (u :: rest).headD 0 = u := rfl
            rw [e0, if_neg (by rw [hlu]; omega), if_pos hlu]
          rw [this, ← ents_put]; rfl
        obtain ⟨q1, q2⟩ := hlearn (-1) (fun hne => absurd hre hne)
        rw [hk] at f5 h5
        have hlit : litV (lrnX (Y.sD p) (u :: rest) u (-1)).val u = 1 := by
          have := q1.w.vt u hu.1 (by show u.natAbs ≤ (lrnX (Y.sD p) (u :: rest) u (-1)).n; rw [← hk, hkn]; exact hu.2)
          rw [this]
          unfold lrnX; rw [putX_tr]; simp
        rw [hlit] at f5
        simp only [go_sem, ↓reduceIte, Nat.reduceMod, Nat.reduceEqDiff, Nat.reduceAdd, Nat.reduceMul, Nat.reduceSub, Nat.reduceLeDiff, Nat.reduceLT, Int.reduceEq, Int.reduceLT, Int.reduceLE, Int.reduceAdd, Int.reduceSub, Int.reduceNeg, reduceCtorEq, Nat.reduceShiftRight, Nat.reduceAnd, Nat.reduceBNe, h4.room, hv0, hl, h5.ob, solC, f5]
        exact ⟨ov_bool _ _, _, ⟨⟨true, rfl⟩, .inr ⟨q1, q2, by
          unfold lrnX
          rw [putX_closed, (entsX_keeps _ _ _).2.2.2.2.2.2.1, SV.aL_closed, SV.sD_closed, ecl], by rw [← hk]; exact hkn⟩⟩, _, _, _, _, h5⟩
      · have hk : keepX (Y.sD p) (u :: rest) = entsX ((Y.sD p).cl.length : Int) ((Y.sD p).aL (u :: rest)) (u :: rest) := by
          unfold keepX
          rw [if_neg (by simp)]
          have : keep1 (Y.sD p) (u :: rest) = Y.sD p := by
            unfold keep1
            rw [if_neg]
            rintro ⟨h1, _⟩
            apply hre
            simp at h1
            exact h1
          rw [this]
        obtain ⟨q1, q2⟩ := hlearn (X.cl.length : Int) (fun _ => rfl)
        obtain ⟨k1, k2, k3, k4, k5, k6, k7, k8, k9⟩ := entsX_keeps ((Y.sD p).cl.length : Int) (u :: rest) ((Y.sD p).aL (u :: rest))
        rw [hk] at f5 h5
        rw [k5, SV.aL_val, hlu] at f5
        have h6 := h5.sx (l := [.dead, .dead, .dead, .dead, .dead, .dead, .dead, .dead, .dead, .dead, .dead, .dead, .dead]) (by simp)
        obtain ⟨τ6, hτ6⟩ : ∃ τ6, τ6 = Sx τ5 [.dead, .dead, .dead, .dead, .dead, .dead, .dead, .dead, .dead, .dead, .dead, .dead, .dead] := ⟨_, rfl⟩
        rw [← hτ6] at h6
        have hlv := h6.hl.vlen
        have hcll : (entsX ((Y.sD p).cl.length : Int) ((Y.sD p).aL (u :: rest)) (u :: rest)).cl.length = X.cl.length + 1 := by rw [k3, SV.aL_cl, SV.sD_cl, ec, List.length_append]; rfl
        rw [List.length_map, hcll] at hlv
        have ew : IntKind.wrap .i64 (((X.cl.length + 1 : Nat) : Int) - 1) = (X.cl.length : Int) := by have := sm.cl; rw [wrap_i64 (by omega) (by omega)]; omega
        obtain ⟨σ7, f7, h7⟩ := put_ok h6 (x := u) (r := (X.cl.length : Int)) (by rw [k1]; show u.natAbs ≤ Y.n; rw [en]; exact hu.2) (by rw [k1]; show Y.n ≤ _; rw [en]; omega) (by rw [k4]; show Y.tr.length ≤ _; omega) (by rw [k2]; show Y.st.length ≤ _; rw [es', List.length_take]; omega)
        simp only [go_sem, ↓reduceIte, Nat.reduceMod, Nat.reduceEqDiff, Nat.reduceAdd, Nat.reduceMul, Nat.reduceSub, Nat.reduceLeDiff, Nat.reduceLT, Int.reduceEq, Int.reduceLT, Int.reduceLE, Int.reduceAdd, Int.reduceSub, Int.reduceNeg, reduceCtorEq, Nat.reduceShiftRight, Nat.reduceAnd, Nat.reduceBNe, h4.room, hv0, hl, h5.ob, solC, f5]
        rw [show τ5 = Sx τ5 [] from rfl]
        refine W_drawn h5.room _ (by simp) ?_
        simp only [List.nil_append, List.length_nil, List.length_cons, List.replicate_succ, List.replicate_zero]
        rw [← hτ6]
        simp only [go_sem, ↓reduceIte, Nat.reduceMod, Nat.reduceEqDiff, Nat.reduceAdd, Nat.reduceMul, Nat.reduceSub, Nat.reduceLeDiff, Nat.reduceLT, Int.reduceEq, Int.reduceLT, Int.reduceLE, Int.reduceAdd, Int.reduceSub, Int.reduceNeg, reduceCtorEq, Nat.reduceShiftRight, Nat.reduceAnd, Nat.reduceBNe, h5.room, hv0, hl, h6.ob, solC, hlv, ew, f7]
        exact ⟨ov_bool _ _, _, ⟨⟨true, rfl⟩, .inr ⟨q1, q2, by
          unfold lrnX
          rw [putX_closed, k7, SV.aL_closed, SV.sD_closed, ecl], by unfold lrnX; rw [putX_n, k1]; exact en⟩⟩, h7⟩
  obtain ⟨v, σ', X', h1, ⟨⟨r, rfl⟩, h2⟩, h3⟩ := key
  exact ⟨r, σ', X', h1, h3, h2⟩
end
end Go.Proofs.Ytggeadnjikpjnaa
namespace Go.Vm
set_option linter.unusedVariables false
noncomputable def tsO (ok : Bool) (out : List Bool) : AV := if ok = true then .ts (out.map .bool) out.length out.length false else .nils
/-- Values that were told. -/
inductive Outs (m : Nat) (s0 : St) : AV → Bool → List Bool → Prop where
  | none : Outs m s0 .nils false []
  | some (q : Id) (out : List Bool) (n : Nat) (hq : m ≤ q.val) (hn : n = out.length) (ho : s0.obj q = .cells (out.map .bool)) : Outs m s0 (.sl q 0 n n 0) true out
theorem Outs.fz {m : Nat} {s0 : St} {a : AV} {ok : Bool} {out : List Bool} (h : Outs m s0 a ok out) {k : Nat} (hk : k ≤ m) : Fz k s0 a (tsO ok out) := by
  cases h with
  | none => exact .nils
  | some q out n hq hn ho =>
    subst hn
    refine .slN q 0 _ _ 0 _ _ (by omega) ho (by rw [List.drop_zero]) fun j c d h1 h2 => ?_
    rw [List.drop_zero] at h1
    rw [h1] at h2; cases h2
    obtain ⟨z, _, rfl⟩ := List.mem_map.mp (List.mem_of_getElem? h1)
    exact .bool _
theorem tsO_ov (n : Nat) (ok : Bool) (out : List Bool) : Ov n (tsO ok out) := by
  unfold tsO
  split
  · exact ov_ts (fun a ha => by obtain ⟨z, _, rfl⟩ := List.mem_map.mp ha; exact ov_bool _ _) _ _ _
  · exact ov_nils _
/-- A literal under values. -/
def litB (out : List Bool) (x : Int) : Bool := if x < 0 then !(out.getD (x.natAbs - 1) false) else out.getD (x.natAbs - 1) false
theorem neg_abs (k : Nat) : (-((k + 1 : Nat) : Int)).natAbs = k + 1 := by omega
theorem litV_negk (val : List Int) (k : Nat) (hz : val.getD (1 + k) 0 = 0) : litV val (-((k + 1 : Nat) : Int)) = 0 := by
  unfold litV
  rw [if_pos (by omega), neg_abs, show k + 1 = 1 + k by omega, hz]; rfl
theorem wrap_k1 (k : Nat) (h : k ≤ 1000000) : IntKind.wrap .i64 ((k : Int) + 1) = ((k + 1 : Nat) : Int) := by rw [wrap_i64 (by omega) (by omega)]; omega
theorem wrap_nk1 (k : Nat) (h : k ≤ 1000000) : IntKind.wrap .i64 (-((k + 1 : Nat) : Int)) = -((k + 1 : Nat) : Int) := wrap_i64 (by omega) (by omega)
end Go.Vm
namespace Go.Proofs.Ytggeadnjikpjnaa
open Go Go.Vm
set_option linter.unusedVariables false
set_option linter.unusedSimpArgs false
theorem index8_ok (σ : St) {a : AV} {q : Vm.Id} {m : Nat} {val : Nat → Int} (hlen : ∀ t, vlen a t = .ok (.int .i64 (m : Int)) t) (hia : ∀ j, j < m → ∀ t, viaddr 1 a (.int .i64 (j : Int)) t = .ok (.ptr q (1 + j)) t) (hl : ∀ j, j < m → vload false 1 (.ptr q (1 + j)) σ = .ok (.int .i8 (val (1 + j))) σ) (hm : m ≤ 1000000) :
    ∃ j : Int, CA F.slices_Index_int8_int8 [a, .int .i8 0] σ = .ok (.int .i64 j) σ ∧ ((j = -1 ∧ ∀ i, i < m → val (1 + i) ≠ 0) ∨ ∃ k : Nat, k < m ∧ j = (k : Int) ∧ val (1 + k) = 0) := by
  obtain ⟨r, h1, j, rfl, h2⟩ : ∃ r, CA F.slices_Index_int8_int8 [a, .int .i8 0] σ = .ok r σ ∧ ∃ j : Int, r = .int .i64 j ∧ ((j = -1 ∧ ∀ i, i < m → val (1 + i) ≠ 0) ∨ ∃ k : Nat, k < m ∧ j = (k : Int) ∧ val (1 + k) = 0) := by
    refine fn_pure code_slices_Index_int8_int8 (by simp) ?_
    simp only [go_sem, ↓reduceIte, Nat.reduceMod, Nat.reduceEqDiff, Nat.reduceAdd, Nat.reduceMul, Nat.reduceSub, Nat.reduceLeDiff, Nat.reduceLT, Int.reduceEq, Int.reduceLT, Int.reduceLE, Int.reduceAdd, Int.reduceSub, Int.reduceNeg, reduceCtorEq, Nat.reduceShiftRight, Nat.reduceAnd, Nat.reduceBNe, Sx_nil, hlen]
    refine W_inv (fun k f τ => ∃ i : Nat, τ = σ ∧ k = m - i ∧ i ≤ m ∧ (∀ j, j < i → val (1 + j) ≠ 0) ∧ (vv 0).get f = a ∧ (vv 1).get f = .int .i8 0 ∧ (vv 7).get f = .int .i64 (m : Int) ∧ (vv 8).get f = .int .i64 (i : Int)) ?_ ⟨0, rfl, rfl, by omega, fun j hj => by omega, ?_⟩
    · rintro k f τ ⟨i, rfl, rfl, hi, ha, g0, g1, g7, g8⟩
      by_cases c1 : i < m
      · by_cases c2 : 0 = val (1 + i)
        · have hl' := hl i c1
          rw [← c2] at hl'
          simp only [go_sem, ↓reduceIte, Nat.reduceMod, Nat.reduceEqDiff, Nat.reduceAdd, Nat.reduceMul, Nat.reduceSub, Nat.reduceLeDiff, Nat.reduceLT, Int.reduceEq, Int.reduceLT, Int.reduceLE, Int.reduceAdd, Int.reduceSub, Int.reduceNeg, reduceCtorEq, Nat.reduceShiftRight, Nat.reduceAnd, Nat.reduceBNe, g0, g1, g7, g8, Int.ofNat_lt, c1, hia i c1, hl']
          exact ⟨_, .int _ _, _, rfl, .inr ⟨i, c1, rfl, c2.symm⟩⟩
        · simp only [go_sem, ↓reduceIte, Nat.reduceMod, Nat.reduceEqDiff, Nat.reduceAdd, Nat.reduceMul, Nat.reduceSub, Nat.reduceLeDiff, Nat.reduceLT, Int.reduceEq, Int.reduceLT, Int.reduceLE, Int.reduceAdd, Int.reduceSub, Int.reduceNeg, reduceCtorEq, Nat.reduceShiftRight, Nat.reduceAnd, Nat.reduceBNe, g0, g1, g7, g8, Int.ofNat_lt, c1, hia i c1, hl i c1, c2]
          refine ⟨m - (i + 1), by omega, i + 1, rfl, by omega, fun j hj => ?_, ?_⟩
          · by_cases e : j = i
            · subst e; exact fun e => c2 e.symm
            · exact ha j (by omega)
          · rw [wrap_i64 (by omega) (by omega)]; simp
      · have e : i = m := by omega
        subst e
        simp only [go_sem, ↓reduceIte, Nat.reduceMod, Nat.reduceEqDiff, Nat.reduceAdd, Nat.reduceMul, Nat.reduceSub, Nat.reduceLeDiff, Nat.reduceLT, Int.reduceEq, Int.reduceLT, Int.reduceLE, Int.reduceAdd, Int.reduceSub, Int.reduceNeg, reduceCtorEq, Nat.reduceShiftRight, Nat.reduceAnd, Nat.reduceBNe, g0, g1, g7, g8, Int.ofNat_lt, c1]
        exact ⟨_, .int _ _, _, rfl, .inl ⟨rfl, ha⟩⟩
    · simp only [go_sem, ↓reduceIte, Nat.reduceMod, Nat.reduceEqDiff, Nat.reduceAdd, Nat.reduceMul, Nat.reduceSub, Nat.reduceLeDiff, Nat.reduceLT, Int.reduceEq, Int.reduceLT, Int.reduceLE, Int.reduceAdd, Int.reduceSub, Int.reduceNeg, reduceCtorEq, Nat.reduceShiftRight, Nat.reduceAnd, Nat.reduceBNe]
      simp
  exact ⟨j, h1, h2⟩
theorem fn_outs {g : Vm.Id} {nt : Nat} {res : List Res} {body : CC} {args : List AV} {s σ : St} {Q : Bool → List Bool → Prop} (hg : g.get (Vm.prog Go.Proofs.Try.prog) = .mk nt res body ∧ g.get BT = noB) (h : args.length ≤ nt) (hx : Ext s σ)
    (hw : W CA body (fun f t => Rs (fun r0 s0 => ∃ (a : AV) (ok : Bool) (out : List Bool), r0 = .tup [a, .bool ok] ∧ Ext s s0 ∧ Outs s.n.val s0 a ok out ∧ Q ok out) res f t) (fun _ _ _ => False) (fun f t => Rs (fun r0 s0 => ∃ (a : AV) (ok : Bool) (out : List Bool), r0 = .tup [a, .bool ok] ∧ Ext s s0 ∧ Outs s.n.val s0 a ok out ∧ Q ok out) res f t) (frame0 args) (Sx σ [])) :
    ∃ (a : AV) (ok : Bool) (out : List Bool) (σ' : St), CA g args σ = .ok (.tup [a, .bool ok]) σ' ∧ Ext s σ' ∧ Fz s.n.val σ' a (tsO ok out) ∧ Q ok out := by
  obtain ⟨N, hN⟩ := WF_S h hw
  cases he : evF CA N (.mk nt res body) args σ with
  | no => rw [he] at hN; exact hN.elim
  | ok r0 s0 =>
    rw [he] at hN
    obtain ⟨a, ok, out, rfl, h1, h2, h3⟩ : ∃ (a : AV) (ok : Bool) (out : List Bool), r0 = .tup [a, .bool ok] ∧ Ext s s0 ∧ Outs s.n.val s0 a ok out ∧ Q ok out := hN
    by_cases ho : Old σ s0
    rotate_left
    · exact ⟨a, ok, out, s0, cc_intro (by rw [hg.1]; exact he) (.inr ⟨.inl ho, rfl, rfl⟩) hg.2, h1, h2.fz (Nat.le_refl _), h3⟩
    · cases h2 with
      | none => exact ⟨.nils, false, [], σ, cc_intro (by rw [hg.1]; exact he) (.inl ⟨ho, fz_tup2 .nils (.bool _), rfl⟩) hg.2, hx, .nils, h3⟩
      | some q out n hq hn hob =>
        by_cases hlt : q.val < σ.n.val
        · have h4 : Outs s.n.val σ (.sl q 0 n n 0) true out := .some q out n hq hn (by rw [← ho q hlt]; exact hob)
          exact ⟨_, true, out, σ, cc_intro (by rw [hg.1]; exact he) (.inl ⟨ho, fz_tup2 (.slO q 0 n n 0 hlt) (.bool _), rfl⟩) hg.2, hx, h4.fz (Nat.le_refl _), h3⟩
        · have h4 : Outs σ.n.val s0 (.sl q 0 n n 0) true out := .some q out n (by omega) hn hob
          exact ⟨tsO true out, true, out, σ, cc_intro (by rw [hg.1]; exact he) (.inl ⟨ho, fz_tup2 (h4.fz (Nat.le_refl _)) (.bool _), rfl⟩) hg.2, hx, tsO_ov _ _ _ _, h3⟩
section
variable {s σ : St} {b : Vm.Id} {G : Fx} {X : SV} {K : List (List Int)}
theorem solve_ok (h : Sol s σ b G X) (hi : (X.closed = true ∧ ∀ ν, ¬ Mod ν K) ∨ (X.closed = false ∧ LI K X)) (hn14 : X.n ≤ 14) :
    ∃ (a : AV) (ok : Bool) (out : List Bool) (σ' : St), CA F.sat_Solver_Solve [.ptr b 0] σ = .ok (.tup [a, .bool ok]) σ' ∧ Ext s σ' ∧ Fz s.n.val σ' a (tsO ok out) ∧ ((ok = false ∧ out = [] ∧ ∀ ν, ¬ Mod ν K) ∨ (ok = true ∧ out.length = X.n ∧ ∀ c ∈ K, ∃ x ∈ c, x ≠ 0 ∧ x.natAbs ≤ X.n ∧ litB out x = true)) := by
  have hxs : Ext s σ := by obtain ⟨_, _, _, _, h⟩ := h; exact h.ext
  refine fn_outs (Q := fun ok out => (ok = false ∧ out = [] ∧ ∀ ν, ¬ Mod ν K) ∨ (ok = true ∧ out.length = X.n ∧ ∀ c ∈ K, ∃ x ∈ c, x ≠ 0 ∧ x.natAbs ≤ X.n ∧ litB out x = true)) code_sat_Solver_Solve (by simp) hxs ?_
  simp only [go_sem, ↓reduceIte, Nat.reduceMod, Nat.reduceEqDiff, Nat.reduceAdd, Nat.reduceMul, Nat.reduceSub, Nat.reduceLeDiff, Nat.reduceLT, Int.reduceEq, Int.reduceLT, Int.reduceLE, Int.reduceAdd, Int.reduceSub, Int.reduceNeg, reduceCtorEq, Nat.reduceShiftRight, Nat.reduceAnd, Nat.reduceBNe, Sx_nil]
  refine W_inv (fun k f τ => ∃ Y : SV, k = (if Y.closed = true then 0 else 1 + 3 ^ X.n - mea Y) ∧ Sol s τ b G Y ∧ Y.n = X.n ∧ ((Y.closed = true ∧ ∀ ν, ¬ Mod ν K) ∨ (Y.closed = false ∧ LI K Y)) ∧ (vv 0).get f = .ptr b 0) ?_ ⟨X, rfl, h, rfl, hi, ?_⟩
  rotate_left
  · simp only [go_sem, ↓reduceIte, Nat.reduceMod, Nat.reduceEqDiff, Nat.reduceAdd, Nat.reduceMul, Nat.reduceSub, Nat.reduceLeDiff, Nat.reduceLT, Int.reduceEq, Int.reduceLT, Int.reduceLE, Int.reduceAdd, Int.reduceSub, Int.reduceNeg, reduceCtorEq, Nat.reduceShiftRight, Nat.reduceAnd, Nat.reduceBNe]
  rintro k f τ ⟨Y, rfl, ⟨tv1, sv1, lv1, es1, h1⟩, en, hY, g0⟩
  have ob1 := h1.ob
  unfold solC at ob1
  rcases hY with ⟨hc, hno⟩ | ⟨hc, li⟩
  · rw [hc] at ob1
    simp only [go_sem, ↓reduceIte, Nat.reduceMod, Nat.reduceEqDiff, Nat.reduceAdd, Nat.reduceMul, Nat.reduceSub, Nat.reduceLeDiff, Nat.reduceLT, Int.reduceEq, Int.reduceLT, Int.reduceLE, Int.reduceAdd, Int.reduceSub, Int.reduceNeg, reduceCtorEq, Nat.reduceShiftRight, Nat.reduceAnd, Nat.reduceBNe, g0, ob1, Bool.not_true]
    exact ⟨_, _, _, rfl, h1.ext, .none, .inl ⟨rfl, rfl, hno⟩⟩
  have sm := li.sm
  obtain ⟨i, τ2, Z, f2, g, tv2, sv2, lv2, es2, h2⟩ := goes_ok h1 li.w li.wt sm (JS.step K Y.cl (mea Y)) li.js
  have hmea := g.j.m
  have l0 : LI0 K Z := ⟨g.wf, g.j.cd, g.j.st_b, g.j.wp, fun y hy => by rw [g.st] at hy; have := li.std y hy; have := g.dn; omega, fun c hc => by rw [g.cl]; exact li.sub c hc, by rw [g.cl]; have := li.b1; omega, fun k => by rw [g.inn]; have := li.b2 k; omega, by rw [g.n]; exact li.n⟩
  have hcz : Z.closed = false := g.closed.trans hc
  have hzn : Z.n = X.n := g.n.trans en
  have hlt1 := mea_lt Y
  rw [en] at hlt1
  rw [if_neg (by rw [hc]; simp)]
  rw [hc] at ob1
  rcases g.out with ⟨rfl, wt, hd⟩ | ⟨k, c, y, j, rfl, hk, hall, hym, hdj, htj⟩
  rotate_left
  · obtain ⟨r, τ3, Z', f3, S3, hZ⟩ := conflicts_ok h2 l0 hk hall fun _ => ⟨y, hym, j, htj, levAt_all fun z hz => by rw [g.st] at hz; have := li.std z hz; omega⟩
    have ci : ¬ ((k : Int) = -1) := by omega
    simp only [go_sem, ↓reduceIte, Nat.reduceMod, Nat.reduceEqDiff, Nat.reduceAdd, Nat.reduceMul, Nat.reduceSub, Nat.reduceLeDiff, Nat.reduceLT, Int.reduceEq, Int.reduceLT, Int.reduceLE, Int.reduceAdd, Int.reduceSub, Int.reduceNeg, reduceCtorEq, Nat.reduceShiftRight, Nat.reduceAnd, Nat.reduceBNe, g0, ob1, Bool.not_false, f2, ne_eq, ci, not_false_eq_true, f3]
    rcases hZ with ⟨hst, rfl⟩ | ⟨hl, hm2, hcl2, hn2⟩
    · exact ⟨0, by omega, Z.sC true, by rw [if_pos (SV.sC_closed Z true)], S3, hzn, .inl ⟨rfl, LI.dead l0.w l0.cd hst (List.mem_of_getElem? hk) hall⟩⟩
    · have hlt2 := mea_lt Z'
      have hcz' : Z'.closed = false := hcl2.trans hcz
      rw [hn2, hzn] at hlt2
      exact ⟨1 + 3 ^ X.n - mea Z', by omega, Z', by rw [if_neg (by rw [hcz']; simp)], S3, hn2.trans hzn, .inr ⟨hcz', hl⟩⟩
  have lz : LI K Z := {toLI0 := l0, wt := wt}
  have ob2 := h2.ob
  unfold solC at ob2
  obtain ⟨a', w1, w2, w3⟩ := tail_sl G.v Z.n 0 (.inl rfl)
  have hld : ∀ j, j < Z.n → vload false 1 (.ptr G.v (1 + j)) τ2 = .ok (.int .i8 (Z.val.getD (1 + j) 0)) τ2 := fun j hj => by
    obtain ⟨q1, _⟩ := h2.valAt (k := 1 + j) (by omega)
    simp only [go_sem, ↓reduceIte, Nat.reduceMod, Nat.reduceEqDiff, Nat.reduceAdd, Nat.reduceMul, Nat.reduceSub, Nat.reduceLeDiff, Nat.reduceLT, Int.reduceEq, Int.reduceLT, Int.reduceLE, Int.reduceAdd, Int.reduceSub, Int.reduceNeg, reduceCtorEq, Nat.reduceShiftRight, Nat.reduceAnd, Nat.reduceBNe, h2.ov, wrap1_at q1]
  obtain ⟨j, f4, hj⟩ := index8_ok τ2 (val := fun k => Z.val.getD k 0) w2 w3 hld (by rw [hzn]; omega)
  have hr2 := h2.room
  rcases hj with ⟨rfl, hnz⟩ | ⟨k, hkn, rfl, hz⟩
  · have ew : IntKind.wrap .i64 0 = 0 := wrap_i64 (by omega) (by omega)
    have fm := vmksl_eq (s := τ2) (L := []) hr2 (by simp) (bytes := 1) (j := .i64) (k := .i64) (l := Z.n) (c := Z.n) (a := .bool false) (Nat.le_refl _) (by unfold limit; omega) (by unfold limit; omega)
    change vmksl 1 [.bool false] (.int .i64 ((Z.n : Nat) : Int)) (.int .i64 ((Z.n : Nat) : Int)) τ2 = .ok (.sl (nm τ2 0) 0 Z.n Z.n 0) (Sx τ2 [.cells (List.replicate Z.n (.bool false))]) at fm
    have full := LI.full l0.w wt hd l0.sub (fun m h1 h2 => by have := hnz (m - 1) (by omega); rw [show 1 + (m - 1) = m by omega] at this; exact this)
    simp only [go_sem, ↓reduceIte, Nat.reduceMod, Nat.reduceEqDiff, Nat.reduceAdd, Nat.reduceMul, Nat.reduceSub, Nat.reduceLeDiff, Nat.reduceLT, Int.reduceEq, Int.reduceLT, Int.reduceLE, Int.reduceAdd, Int.reduceSub, Int.reduceNeg, reduceCtorEq, Nat.reduceShiftRight, Nat.reduceAnd, Nat.reduceBNe, g0, ob1, Bool.not_false, f2, ne_eq, not_true_eq_false, ob2, w1, f4, ew, fm]
    refine W_inv (fun q f τ => ∃ (i : Nat) (S : List Bool), q = Z.n - i ∧ i ≤ Z.n ∧ S.length = Z.n ∧ (∀ j, j < i → S.getD j false = decide (0 < Z.val.getD (j + 1) 0)) ∧ τ = Sx τ2 [.cells (S.map .bool)] ∧ (vv 0).get f = .ptr b 0 ∧ (vv 6).get f = .sl (nm τ2 0) 0 Z.n Z.n 0 ∧ (vv 36).get f = .int .i64 (Z.n : Int) ∧ (vv 37).get f = .int .i64 (i : Int)) ?_ ⟨0, List.replicate Z.n false, rfl, by omega, by simp, fun j hj => by omega, by simp, ?_⟩
    rotate_left
    · simp only [go_sem, ↓reduceIte, Nat.reduceMod, Nat.reduceEqDiff, Nat.reduceAdd, Nat.reduceMul, Nat.reduceSub, Nat.reduceLeDiff, Nat.reduceLT, Int.reduceEq, Int.reduceLT, Int.reduceLE, Int.reduceAdd, Int.reduceSub, Int.reduceNeg, reduceCtorEq, Nat.reduceShiftRight, Nat.reduceAnd, Nat.reduceBNe, g0]
      simp
    rintro q f τ ⟨i, S, rfl, hi, hS, hv, rfl, p0, p6, p36, p37⟩
    have h3 := h2.sx (l := [.cells (S.map .bool)]) (by simp)
    have ob3 := h3.ob
    unfold solC at ob3
    have hob : (Sx τ2 [.cells (S.map .bool)]).obj (nm τ2 0) = .cells (S.map .bool) := Sx_obj? hr2 (by simp) (i := 0) rfl
    by_cases c1 : i < Z.n
    · obtain ⟨q1, _⟩ := h3.valAt (k := i + 1) (by omega)
      have e1 : IntKind.wrap .i64 ((i : Int) + 1) = ((i + 1 : Nat) : Int) := by rw [wrap_i64 (by omega) (by omega)]; omega
      have a1 : ∀ t, viaddr 1 (.sl G.v 0 (Z.n + 1) (Z.n + 1) 0) (.int .i64 ((i + 1 : Nat) : Int)) t = .ok (.ptr G.v (i + 1)) t := fun t => by
        have := viaddr_sl (k := .i64) (b := G.v) (o := 0) (len := Z.n + 1) (cap := Z.n + 1) (ex := 0) (i := i + 1) (by omega) t
        rw [Nat.zero_add] at this; exact this
      have a2 : ∀ t, viaddr 1 (.sl (nm τ2 0) 0 Z.n Z.n 0) (.int .i64 (i : Int)) t = .ok (.ptr (nm τ2 0) i) t := fun t => by
        have := viaddr_sl (k := .i64) (b := nm τ2 0) (o := 0) (len := Z.n) (cap := Z.n) (ex := 0) (i := i) c1 t
        rw [Nat.zero_add] at this; exact this
      have a3 : vstore 1 (.ptr (nm τ2 0) i) (.bool (decide (0 < Z.val.getD (i + 1) 0))) (Sx τ2 [.cells (S.map .bool)]) = .ok Vm.undef (Sx τ2 [.cells ((S.set i (decide (0 < Z.val.getD (i + 1) 0))).map .bool)]) := by
        rw [vstore_el hob rfl (by rw [List.length_map]; omega), Sx_put hr2 (by simp) (by simp), List.map_set]; rfl
      simp only [go_sem, ↓reduceIte, Nat.reduceMod, Nat.reduceEqDiff, Nat.reduceAdd, Nat.reduceMul, Nat.reduceSub, Nat.reduceLeDiff, Nat.reduceLT, Int.reduceEq, Int.reduceLT, Int.reduceLE, Int.reduceAdd, Int.reduceSub, Int.reduceNeg, reduceCtorEq, Nat.reduceShiftRight, Nat.reduceAnd, Nat.reduceBNe, p0, p6, p36, p37, Int.ofNat_lt, c1, ob3, e1, a1, h3.ov, wrap1_at q1, a2, a3]
      refine ⟨Z.n - (i + 1), by omega, i + 1, _, rfl, by omega, by rw [List.length_set]; exact hS, fun j hj => ?_, rfl, ?_⟩
      · rw [getB_set _ _ _ _ (by omega)]
        by_cases e : j = i
        · subst e; rw [if_pos rfl]
        · rw [if_neg e]; exact hv j (by omega)
      · simp
    · have e : i = Z.n := by omega
      subst e
      simp only [go_sem, ↓reduceIte, Nat.reduceMod, Nat.reduceEqDiff, Nat.reduceAdd, Nat.reduceMul, Nat.reduceSub, Nat.reduceLeDiff, Nat.reduceLT, Int.reduceEq, Int.reduceLT, Int.reduceLE, Int.reduceAdd, Int.reduceSub, Int.reduceNeg, reduceCtorEq, Nat.reduceShiftRight, Nat.reduceAnd, Nat.reduceBNe, p0, p6, p36, p37, Int.ofNat_lt, c1]
      have nv := nm_val hr2 (k := 0) (by omega)
      have := h2.ext.n
      refine ⟨_, _, S, rfl, h3.ext, .some _ S _ (by omega) hS.symm hob, .inr ⟨rfl, hS.trans hzn, fun c hc => ?_⟩⟩
      obtain ⟨x, hx, e⟩ := full c hc
      have hxr := (l0.w.cl c (l0.sub c hc)).2.2 x hx
      refine ⟨x, hx, hxr.1, by rw [← hzn]; exact hxr.2, ?_⟩
      have h5 := hv (x.natAbs - 1) (by omega)
      rw [show x.natAbs - 1 + 1 = x.natAbs by omega] at h5
      unfold litB
      rw [h5]
      unfold litV at e
      split at e
      · rw [if_pos (by assumption), decide_eq_false (by omega)]; rfl
      · rw [if_neg (by assumption), decide_eq_true (by omega)]
  · have cne : ¬ (((k + 1 : Nat) : Int) = 0) := by omega
    have hna : (-((k + 1 : Nat) : Int)).natAbs = k + 1 := neg_abs k
    have hlz : litV Z.val (-((k + 1 : Nat) : Int)) = 0 := litV_negk _ k hz
    have hkz : k + 1 ≤ Z.n := by omega
    have hu0 : -((k + 1 : Nat) : Int) ≠ 0 := fun e => cne (by omega)
    have hun : (-((k + 1 : Nat) : Int)).natAbs ≤ Z.n := by rw [hna]; exact hkz
    obtain ⟨q1, q2⟩ := lz.decide hd hu0 hun hlz
    have ek : IntKind.wrap .i64 ((k : Int) + 1) = ((k + 1 : Nat) : Int) := wrap_k1 k (by omega)
    have en2 : IntKind.wrap .i64 (-((k + 1 : Nat) : Int)) = -((k + 1 : Nat) : Int) := wrap_nk1 k (by omega)
    have htl := l0.w.trlen
    have hstl := st_len l0.cd.st_s l0.st_b
    have h3 := h2.sx (l := [.dead, .dead, .dead, .dead, .dead, .dead, .dead, .dead, .dead, .dead, .dead, .dead, .dead, .dead, .dead, .dead, .dead, .dead]) (by simp)
    have n0 := Sx_n (s := τ2) (l := [.dead, .dead, .dead, .dead, .dead, .dead, .dead, .dead, .dead, .dead, .dead, .dead, .dead, .dead, .dead, .dead, .dead, .dead]) hr2 (by simp)
    simp only [List.length_cons, List.length_nil] at n0
    have nv := nm_val hr2 (k := 12) (by omega)
    have hf12 : nm τ2 12 ∉ foot b G tv2 sv2 lv2 es2 := fun hm => by have := (h2.ge _ hm).2; omega
    simp only [go_sem, ↓reduceIte, Nat.reduceMod, Nat.reduceEqDiff, Nat.reduceAdd, Nat.reduceMul, Nat.reduceSub, Nat.reduceLeDiff, Nat.reduceLT, Int.reduceEq, Int.reduceLT, Int.reduceLE, Int.reduceAdd, Int.reduceSub, Int.reduceNeg, reduceCtorEq, Nat.reduceShiftRight, Nat.reduceAnd, Nat.reduceBNe, g0, ob1, Bool.not_false, f2, ne_eq, not_true_eq_false, ob2, w1, f4, ek, cne]
    rw [show τ2 = Sx τ2 [] from rfl]
    refine W_drawn hr2 _ (by simp) ?_
    simp only [List.nil_append, List.length_nil, List.length_cons, List.replicate_succ, List.replicate_zero]
    generalize Sx τ2 [.dead, .dead, .dead, .dead, .dead, .dead, .dead, .dead, .dead, .dead, .dead, .dead, .dead, .dead, .dead, .dead, .dead, .dead] = τ0 at *
    have h4 := h3.put (c := nm τ2 12) (by omega) (by have := h2.ext.n; omega) hf12 (.cells [.int .i64 (Z.tr.length : Int)])
    obtain ⟨sv', σ1, σ2, w4, w5, h5⟩ := h4.appS (y := nm τ2 12) (x := (Z.tr.length : Int)) (put_self _ _ _) (by omega)
    have ob3 := h3.ob
    unfold solC at ob3
    have htv := h3.ht.vlen
    rw [List.length_map] at htv
    obtain ⟨σ3, f5, h6⟩ := put_ok h5 (x := -((k + 1 : Nat) : Int)) (r := -1) hun (by rw [SV.aS_n]; omega) (by rw [SV.aS_tr]; omega) (by rw [SV.aS_st, List.length_append, List.length_singleton]; omega)
    simp only [go_sem, ↓reduceIte, Nat.reduceMod, Nat.reduceEqDiff, Nat.reduceAdd, Nat.reduceMul, Nat.reduceSub, Nat.reduceLeDiff, Nat.reduceLT, Int.reduceEq, Int.reduceLT, Int.reduceLE, Int.reduceAdd, Int.reduceSub, Int.reduceNeg, reduceCtorEq, Nat.reduceShiftRight, Nat.reduceAnd, Nat.reduceBNe, hr2, g0, ob3, htv, w4, w5, en2, f5]
    have hlt2 := mea_lt (putX (Z.aS (Z.tr.length : Int)) (-((k + 1 : Nat) : Int)) (-1))
    have e3 : (putX (Z.aS (Z.tr.length : Int)) (-((k + 1 : Nat) : Int)) (-1)).n = X.n := hzn
    rw [e3] at hlt2
    have e4 : (putX (Z.aS (Z.tr.length : Int)) (-((k + 1 : Nat) : Int)) (-1)).closed = false := hcz
    exact ⟨1 + 3 ^ X.n - mea (putX (Z.aS (Z.tr.length : Int)) (-((k + 1 : Nat) : Int)) (-1)), by omega, _, by rw [if_neg (by rw [e4]; simp)], h6, e3, .inr ⟨e4, q1⟩⟩
end
end Go.Proofs.Ytggeadnjikpjnaa
namespace Go.Vm
set_option linter.unusedVariables false
set_option linter.unusedSimpArgs false
theorem addX_lev (X : SV) (c : List Int) (hs : X.st = []) (h : ∀ m, X.lev.getD m 0 = 0) (m : Nat) : (addX X c).lev.getD m 0 = 0 := by
  unfold addX keepX
  split
  · exact h m
  · have h1 := entsX_keeps (X.cl.length : Int) (knownL X.n c) ((keep1 X (knownL X.n c)).aL (knownL X.n c))
    rw [SV.sD_lev, h1.2.2.2.2.2.2.2.1, SV.aL_lev]
    unfold keep1
    split
    · split
      · exact h m
      · split
        · rw [putX_lev, hs, List.getD_eq_getElem?_getD, List.getElem?_set]
          split
          · split <;> simp
          · rw [← List.getD_eq_getElem?_getD]; exact h m
        · exact h m
    · exact h m
theorem newX_lev (n : Nat) (l : List (List Int)) : (newX n l).st = [] ∧ ∀ m, (newX n l).lev.getD m 0 = 0 := by
  refine list_snoc2 (P := fun l => (newX n l).st = [] ∧ ∀ m, (newX n l).lev.getD m 0 = 0) ⟨rfl, fun m => ?_⟩ (fun l a h => ?_) l
  · show (List.replicate (n + 1) (0 : Int)).getD m 0 = 0
    rw [List.getD_eq_getElem?_getD, List.getElem?_replicate]
    split <;> rfl
  · rw [newX_snoc]
    exact ⟨(addX_keeps _ _).2.1.trans h.1, addX_lev _ _ h.1 h.2⟩
theorem newX_look (n : Nat) (l : List (List Int)) : (∀ c ∈ l, c.length ≤ 1000) → ∀ k, (lookI (newX n l).inn k).length ≤ 1000 * l.length := by
  refine list_snoc2 (P := fun l => (∀ c ∈ l, c.length ≤ 1000) → ∀ k, (lookI (newX n l).inn k).length ≤ 1000 * l.length) (fun _ k => Nat.le_refl _) (fun l a h hc k => ?_) l
  rw [newX_snoc]
  have h1 := (addX_keeps (newX n l) a).2.2.2.2 k
  have h2 := h (fun c hc' => hc c (List.mem_append_left _ hc')) k
  have h3 := hc a (by simp)
  rw [List.length_append, List.length_singleton]; omega
theorem Der.sat {C : List (List Int)} (h0 : ∀ c ∈ C, ∀ x ∈ c, x ≠ 0) {x : Int} (d : Der C x) : ∀ ν, Mod ν C → satL ν x = true := by
  induction d with
  | step c x hc hx hd ih =>
    intro ν hm
    obtain ⟨y, hy, e⟩ := hm c hc
    by_cases hyx : y = x
    · rw [← hyx]; exact e
    · have := ih y hy hyx ν hm
      rw [satL_neg ν (h0 c hc y hy), e] at this; cases this
theorem Contra.no {C : List (List Int)} (h0 : ∀ c ∈ C, ∀ x ∈ c, x ≠ 0) (h : Contra C) : ∀ ν, ¬ Mod ν C := by
  intro ν hm
  obtain ⟨c, hc, hd⟩ := h
  obtain ⟨y, hy, e⟩ := hm c hc
  have := (hd y hy).sat h0 ν hm
  rw [satL_neg ν (h0 c hc y hy), e] at this; cases this
/-- Where a search begins. -/
theorem newX_li {n : Nat} {l : List (List Int)} (hn : n ≤ 14) (hl : l.length ≤ 1000) (hc : ∀ c ∈ l, c.length ≤ 1000) (h2 : (newX n l).lev.length = n + 1) (h3 : (newX n l).rea.length = n + 1) :
    ((newX n l).closed = true ∧ ∀ ν, ¬ Mod ν (l.map (knownL n))) ∨ ((newX n l).closed = false ∧ LI (l.map (knownL n)) (newX n l)) := by
  have fr := newX_fresh n l
  have h0 : ∀ c ∈ l.map (knownL n), ∀ x ∈ c, x ≠ 0 := fun c hc x hx => by
    obtain ⟨d, _, rfl⟩ := List.mem_map.mp hc
    exact (knownL_in n d x hx).1
  cases hcl : (newX n l).closed with
  | true => exact .inl ⟨rfl, (fr.bad hcl).no h0⟩
  | false =>
    refine .inr ⟨rfl, ?_⟩
    obtain ⟨g1, g2⟩ := fr.good hcl
    have hcK : ∀ c, c ∈ (newX n l).cl ↔ c ∈ l.map (knownL n) := fun c => by
      rw [fr.cl, List.mem_filter]
      exact ⟨fun h => h.1, fun h => ⟨h, by simp; intro e; subst e; exact g1 h⟩⟩
    have hst := fr.st
    have hlev := (newX_lev n l).2
    have hlv0 : ∀ j, levAt (newX n l).st j = 0 := fun j => by rw [hst]; rfl
    have hlook := newX_look n l hc
    refine ⟨⟨fr.wf, ⟨by rw [h2, fr.n], by rw [h3, fr.n], by rw [hst]; exact List.Pairwise.nil, fun j x hx => by rw [hlev, hlv0]; rfl, fun j x hx hl => by rw [hlv0] at hl; omega, fun j x hx _ => Ent.mem ((hcK _).mp (fr.rea x (List.mem_of_getElem? hx))), fun c hc => Ent.mem ((hcK c).mp hc)⟩, (fun y hy => by rw [hst] at hy; exact absurd hy (by simp)), (fun y hy => by rw [hst] at hy; exact absurd hy (by simp)), (fun y hy => by rw [hst] at hy; exact absurd hy (by simp)), fun c hc => (hcK c).mpr hc, ?_, fun k => ?_, by rw [fr.n]; exact hn⟩, fun c hc => ?_⟩
    · have : (newX n l).cl.length ≤ l.length := by
        rw [fr.cl]
        exact Nat.le_trans (List.length_filter_le _ _) (by rw [List.length_map]; exact Nat.le_refl _)
      exact Nat.le_trans this (by omega)
    · have := hlook k; omega
    · rw [fr.done, List.take_zero]; exact g2 c hc
end Go.Vm
namespace Go.Vm
set_option linter.unusedVariables false
def RBo (r : List AV) (x : Bool) : Prop := ∃ t, r = .bool x :: t
abbrev Bools (s : St) (v : AV) (l : List Bool) : Prop := SlR s v 1 RBo l
theorem Bools.x {s s' : St} {v : AV} {l : List Bool} (h : Bools s v l) (hx : Ext s s') : Bools s' v l := h.ext hx _ fun _ _ h => h
theorem Bools.ld {s : St} {v : AV} {l : List Bool} (h : Bools s v l) {i : Nat} (hi : i < l.length) {σ : St} (hx : Ext s σ) : vload false 1 (elp v i) σ = .ok (.bool l[i]) σ := by
  obtain ⟨t, h1⟩ := h.el i hi
  rw [Nat.mul_one] at h1
  rw [vload_x h.sl (by rw [h1]; simp) false 1 hx, h1, wrap1_one]
theorem tsO_bools (s : St) {out : List Bool} (h : out.length ≤ limit) : Bools s (tsO true out) out := by
  unfold tsO
  rw [if_pos rfl]
  refine ⟨.ts _ _ _ _ h (fun a ha => by obtain ⟨n, _, rfl⟩ := List.mem_map.mp ha; exact ov_bool _ _), rfl, fun i hi => ?_⟩
  show RBo ((out.map AV.bool).drop (i * 1)) out[i]
  rw [Nat.mul_one, List.drop_eq_getElem_cons (by rw [List.length_map]; exact hi), List.getElem_map]
  exact ⟨_, rfl⟩
/-- All hold under values. -/
def holdsB (C : List (List Int)) (out : List Bool) : Bool := C.all fun c => c.any (litB out)
end Go.Vm
namespace Go.Proofs.Ytggeadnjikpjnaa
open Go Go.Vm
set_option linter.unusedVariables false
set_option linter.unusedSimpArgs false
theorem literal_ok (s : St) {v : AV} {out : List Bool} (hv : Bools s v out) {x : Int} (h0 : x ≠ 0) (hx : x.natAbs ≤ out.length) : CA F.ref16_Literal [.int .i64 x, v] s = .ok (.bool (litB out x)) s := by
  have hm := hv.most
  have hi : x.natAbs - 1 < out.length := by omega
  have hl := hv.ld hi (ext_self s)
  have hia := fun t => hv.ia hi 1 .i64 t
  simp only [Nat.mul_one] at hia
  refine fn_of code_ref16_Literal (by simp) ?_
  by_cases c1 : 0 < x
  · have c2 : x ≤ (out.length : Int) := by omega
    have e1 : IntKind.wrap .i64 (x - 1) = ((x.natAbs - 1 : Nat) : Int) := by rw [wrap_i64 (by omega) (by omega)]; omega
    simp only [go_sem, ↓reduceIte, Nat.reduceMod, Nat.reduceEqDiff, Nat.reduceAdd, Nat.reduceMul, Nat.reduceSub, Nat.reduceLeDiff, Nat.reduceLT, Int.reduceEq, Int.reduceLT, Int.reduceLE, Int.reduceAdd, Int.reduceSub, Int.reduceNeg, reduceCtorEq, Nat.reduceShiftRight, Nat.reduceAnd, Nat.reduceBNe, Sx_nil, c1, hv.vlen, c2, e1, hia, hl]
    refine settled_bool (Ext.refl s) ?_
    unfold litB
    rw [if_neg (by omega), List.getD_eq_getElem?_getD, List.getElem?_eq_getElem hi]; rfl
  · have c2 : ¬ (x = -9223372036854775808) := by omega
    have e0 : IntKind.wrap .i64 (-x) = -x := wrap_i64 (by omega) (by omega)
    have c3 : ¬ ((out.length : Int) < -x) := by omega
    have e1 : IntKind.wrap .i64 (-x - 1) = ((x.natAbs - 1 : Nat) : Int) := by rw [wrap_i64 (by omega) (by omega)]; omega
    simp only [go_sem, ↓reduceIte, Nat.reduceMod, Nat.reduceEqDiff, Nat.reduceAdd, Nat.reduceMul, Nat.reduceSub, Nat.reduceLeDiff, Nat.reduceLT, Int.reduceEq, Int.reduceLT, Int.reduceLE, Int.reduceAdd, Int.reduceSub, Int.reduceNeg, reduceCtorEq, Nat.reduceShiftRight, Nat.reduceAnd, Nat.reduceBNe, Sx_nil, c1, h0, c2, e0, hv.vlen, c3, e1, hia, hl]
    refine settled_bool (Ext.refl s) ?_
    unfold litB
    rw [if_pos (by omega), List.getD_eq_getElem?_getD, List.getElem?_eq_getElem hi]; rfl
theorem holds_ok (s : St) {v w : AV} {C : List (List Int)} {out : List Bool} (hv : Rows2 s v C) (hw : Bools s w out) (hC : ∀ c ∈ C, ∀ x ∈ c, x ≠ 0 ∧ x.natAbs ≤ out.length) : CA F.ref16_Holds [v, w] s = .ok (.bool (holdsB C out)) s := by
  have hm := hv.most
  have hmo := hw.most
  refine fn_of code_ref16_Holds (by simp) ?_
  simp only [go_sem, ↓reduceIte, Nat.reduceMod, Nat.reduceEqDiff, Nat.reduceAdd, Nat.reduceMul, Nat.reduceSub, Nat.reduceLeDiff, Nat.reduceLT, Int.reduceEq, Int.reduceLT, Int.reduceLE, Int.reduceAdd, Int.reduceSub, Int.reduceNeg, reduceCtorEq, Nat.reduceShiftRight, Nat.reduceAnd, Nat.reduceBNe, Sx_nil]
  refine W_inv (fun k f τ => ∃ i : Nat, τ = s ∧ k = C.length - i ∧ i ≤ C.length ∧ holdsB (C.take i) out = true ∧ (vv 0).get f = v ∧ (vv 1).get f = w ∧ (vv 5).get f = .int .i64 (i : Int)) ?_ ⟨0, rfl, rfl, by omega, rfl, ?_⟩
  rotate_left
  · simp only [go_sem, ↓reduceIte, Nat.reduceMod, Nat.reduceEqDiff, Nat.reduceAdd, Nat.reduceMul, Nat.reduceSub, Nat.reduceLeDiff, Nat.reduceLT, Int.reduceEq, Int.reduceLT, Int.reduceLE, Int.reduceAdd, Int.reduceSub, Int.reduceNeg, reduceCtorEq, Nat.reduceShiftRight, Nat.reduceAnd, Nat.reduceBNe]
    simp
  rintro k f τ ⟨i, rfl, rfl, hi, ha, g0, g1, g5⟩
  by_cases c1 : i < C.length
  · obtain ⟨a, h1, h2⟩ := hv.at c1
    have h2' := h2 τ (ext_self τ)
    have hcm := List.getElem_mem c1
    have et : C.take (i + 1) = C.take i ++ [C[i]] := (List.take_append_getElem c1).symm
    have hia := fun t => hv.ia c1 1 .i64 t
    simp only [Nat.mul_one] at hia
    have hlm := h1.most
    simp only [go_sem, ↓reduceIte, Nat.reduceMod, Nat.reduceEqDiff, Nat.reduceAdd, Nat.reduceMul, Nat.reduceSub, Nat.reduceLeDiff, Nat.reduceLT, Int.reduceEq, Int.reduceLT, Int.reduceLE, Int.reduceAdd, Int.reduceSub, Int.reduceNeg, reduceCtorEq, Nat.reduceShiftRight, Nat.reduceAnd, Nat.reduceBNe, g0, g1, g5, hv.vlen, Int.ofNat_lt, c1]
    refine W_inv (fun k f τ' => ∃ j : Nat, τ' = τ ∧ k = C[i].length - j ∧ j ≤ C[i].length ∧ (vv 0).get f = v ∧ (vv 1).get f = w ∧ (vv 5).get f = .int .i64 (i : Int) ∧ (vv 6).get f = .bool ((C[i].take j).any (litB out)) ∧ (vv 7).get f = .int .i64 (j : Int)) ?_ ⟨0, rfl, rfl, by omega, ?_⟩
    rotate_left
    · simp only [go_sem, ↓reduceIte, Nat.reduceMod, Nat.reduceEqDiff, Nat.reduceAdd, Nat.reduceMul, Nat.reduceSub, Nat.reduceLeDiff, Nat.reduceLT, Int.reduceEq, Int.reduceLT, Int.reduceLE, Int.reduceAdd, Int.reduceSub, Int.reduceNeg, reduceCtorEq, Nat.reduceShiftRight, Nat.reduceAnd, Nat.reduceBNe, g0, g1, g5]
      simp
    rintro k f τ' ⟨j, rfl, rfl, hj, g0, g1, g5, g6, g7⟩
    by_cases d1 : j < C[i].length
    · have hxm := hC _ hcm _ (List.getElem_mem d1)
      have etj : C[i].take (j + 1) = C[i].take j ++ [C[i][j]] := (List.take_append_getElem d1).symm
      have f1 := literal_ok τ' hw hxm.1 hxm.2
      have hja := fun t => h1.ia d1 1 .i64 t
      simp only [Nat.mul_one] at hja
      have ej : IntKind.wrap .i64 ((j : Int) + 1) = ((j + 1 : Nat) : Int) := by rw [wrap_i64 (by omega) (by omega)]; omega
      have ea : (C[i].take (j + 1)).any (litB out) = ((C[i].take j).any (litB out) || litB out C[i][j]) := by rw [etj, List.any_append]; simp
      generalize (C[i].take j).any (litB out) = B at *
      cases B
      · simp only [go_sem, ↓reduceIte, Nat.reduceMod, Nat.reduceEqDiff, Nat.reduceAdd, Nat.reduceMul, Nat.reduceSub, Nat.reduceLeDiff, Nat.reduceLT, Int.reduceEq, Int.reduceLT, Int.reduceLE, Int.reduceAdd, Int.reduceSub, Int.reduceNeg, reduceCtorEq, Nat.reduceShiftRight, Nat.reduceAnd, Nat.reduceBNe, g0, g1, g5, g6, g7, hia, h2', h1.vlen, Int.ofNat_lt, d1, hja, h1.i64 d1 (ext_self τ'), f1, ej]
        exact ⟨C[i].length - (j + 1), by omega, j + 1, rfl, by omega, by rw [ea]; simp, rfl⟩
      · simp only [go_sem, ↓reduceIte, Nat.reduceMod, Nat.reduceEqDiff, Nat.reduceAdd, Nat.reduceMul, Nat.reduceSub, Nat.reduceLeDiff, Nat.reduceLT, Int.reduceEq, Int.reduceLT, Int.reduceLE, Int.reduceAdd, Int.reduceSub, Int.reduceNeg, reduceCtorEq, Nat.reduceShiftRight, Nat.reduceAnd, Nat.reduceBNe, g0, g1, g5, g6, g7, hia, h2', h1.vlen, Int.ofNat_lt, d1, ej]
        exact ⟨C[i].length - (j + 1), by omega, j + 1, rfl, by omega, by rw [ea]; simp, rfl⟩
    · have ejl : j = C[i].length := by omega
      subst ejl
      rw [List.take_length] at g6
      have ei : IntKind.wrap .i64 ((i : Int) + 1) = ((i + 1 : Nat) : Int) := by rw [wrap_i64 (by omega) (by omega)]; omega
      have ea : holdsB (C.take (i + 1)) out = (holdsB (C.take i) out && C[i].any (litB out)) := by unfold holdsB; rw [et, List.all_append]; simp
      cases hB : C[i].any (litB out) with
      | true =>
        rw [hB] at g6
        simp only [go_sem, ↓reduceIte, Nat.reduceMod, Nat.reduceEqDiff, Nat.reduceAdd, Nat.reduceMul, Nat.reduceSub, Nat.reduceLeDiff, Nat.reduceLT, Int.reduceEq, Int.reduceLT, Int.reduceLE, Int.reduceAdd, Int.reduceSub, Int.reduceNeg, reduceCtorEq, Nat.reduceShiftRight, Nat.reduceAnd, Nat.reduceBNe, g0, g1, g5, g6, g7, hia, h2', h1.vlen, Int.ofNat_lt, d1, Bool.not_true, ei]
        exact ⟨C.length - (i + 1), by omega, i + 1, rfl, by omega, by rw [ea, ha, hB]; rfl, rfl⟩
      | false =>
        rw [hB] at g6
        simp only [go_sem, ↓reduceIte, Nat.reduceMod, Nat.reduceEqDiff, Nat.reduceAdd, Nat.reduceMul, Nat.reduceSub, Nat.reduceLeDiff, Nat.reduceLT, Int.reduceEq, Int.reduceLT, Int.reduceLE, Int.reduceAdd, Int.reduceSub, Int.reduceNeg, reduceCtorEq, Nat.reduceShiftRight, Nat.reduceAnd, Nat.reduceBNe, g0, g1, g5, g6, g7, hia, h2', h1.vlen, Int.ofNat_lt, d1, Bool.not_false]
        refine settled_bool (Ext.refl _) ?_
        symm
        rw [Bool.eq_false_iff]
        intro h
        have := List.all_eq_true.mp h _ hcm
        rw [hB] at this; cases this
  · have e : i = C.length := by omega
    subst e
    rw [List.take_length] at ha
    simp only [go_sem, ↓reduceIte, Nat.reduceMod, Nat.reduceEqDiff, Nat.reduceAdd, Nat.reduceMul, Nat.reduceSub, Nat.reduceLeDiff, Nat.reduceLT, Int.reduceEq, Int.reduceLT, Int.reduceLE, Int.reduceAdd, Int.reduceSub, Int.reduceNeg, reduceCtorEq, Nat.reduceShiftRight, Nat.reduceAnd, Nat.reduceBNe, g0, g1, g5, hv.vlen, Int.ofNat_lt, c1]
    exact settled_bool (Ext.refl _) ha.symm
/-- What values are told of clauses. -/
def Told (K : List (List Int)) (n : Nat) (ok : Bool) (out : List Bool) : Prop := (ok = false ∧ out = [] ∧ ∀ ν, ¬ Mod ν K) ∨ (ok = true ∧ out.length = n ∧ ∀ c ∈ K, ∃ x ∈ c, x ≠ 0 ∧ x.natAbs ≤ n ∧ litB out x = true)
theorem solveT_ok (s : St) (hr : Room s) {v : AV} {l : List (List Int)} (hv : Rows2 s v l) (hi : ∀ c ∈ l, I64 c) {n : Nat} (hn : n ≤ 14) (hl : l.length ≤ 1000) (hc : ∀ c ∈ l, c.length ≤ 1000) :
    ∃ (ok : Bool) (out : List Bool), CA F.sat_Solve [v, .int .i64 (n : Int)] s = .ok (.tup [tsO ok out, .bool ok]) s ∧ Told (l.map (knownL n)) n ok out := by
  obtain ⟨b, G, s1, f1, h1⟩ := new_ok s hr hv hi (n := n) (by omega) hl hc
  have hxn := (newX_fresh n l).n
  have hli := newX_li (n := n) (l := l) hn hl hc (by obtain ⟨_, _, _, _, h⟩ := h1; have := h.lv2; rw [hxn] at this; exact this) (by obtain ⟨_, _, _, _, h⟩ := h1; have := h.lv3; rw [hxn] at this; exact this)
  obtain ⟨a, ok, out, s2, f2, h2, h3, h4⟩ := solve_ok h1 hli (by rw [hxn]; exact hn)
  refine ⟨ok, out, ?_, ?_⟩
  · refine fn_of code_sat_Solve (by simp) ?_
    simp only [go_sem, ↓reduceIte, Nat.reduceMod, Nat.reduceEqDiff, Nat.reduceAdd, Nat.reduceMul, Nat.reduceSub, Nat.reduceLeDiff, Nat.reduceLT, Int.reduceEq, Int.reduceLT, Int.reduceLE, Int.reduceAdd, Int.reduceSub, Int.reduceNeg, reduceCtorEq, Nat.reduceShiftRight, Nat.reduceAnd, Nat.reduceBNe, Sx_nil, f1, f2]
    exact settled_fz h2 (fz_tup2 h3 (.bool _))
  · rw [hxn] at h4; exact h4
end Go.Proofs.Ytggeadnjikpjnaa
namespace Go.Vm
set_option linter.unusedVariables false
/-- Values of names by a row of values. -/
def nuB (z : List Bool) (m : Nat) : Bool := z.getD (m - 1) false
theorem satL_nu (z : List Bool) (x : Int) : satL (nuB z) x = litB z x := rfl
theorem holdsB_of {n : Nat} {l : List (List Int)} {out : List Bool} (h : ∀ c ∈ l.map (knownL n), ∃ x ∈ c, x ≠ 0 ∧ x.natAbs ≤ n ∧ litB out x = true) : holdsB (countL n l) out = true := by
  refine List.all_eq_true.mpr fun c hc => ?_
  obtain ⟨c', hc', hm⟩ := (count_known n l).1 c hc
  obtain ⟨x, hx, _, _, e⟩ := h c' hc'
  exact List.any_eq_true.mpr ⟨x, (hm x).mpr hx, e⟩
theorem holdsB_mod {n : Nat} {l : List (List Int)} {z : List Bool} (h : holdsB (countL n l) z = true) : Mod (nuB z) (l.map (knownL n)) := by
  intro c hc
  obtain ⟨c', hc', hm⟩ := (count_known n l).2 c hc
  obtain ⟨x, hx, e⟩ := List.any_eq_true.mp (List.all_eq_true.mp h c' hc')
  exact ⟨x, (hm x).mpr hx, e⟩
theorem bools_sl {σ : St} (hr : Room σ) {i : Id} {S : List Bool} {n ex : Nat} (h : σ.obj i = .cells (S.map .bool)) (hn : n = S.length) (hm : n ≤ limit) : Bools σ (.sl i 0 n n ex) S := by
  subst hn
  refine ⟨.sl i 0 _ _ ex _ hm h (St.lt_of_obj hr h) (Nat.zero_le _), rfl, fun k hk => ?_⟩
  have e : rowOf σ (.sl i 0 S.length S.length ex) = S.map .bool := by show (σ.obj i).row.drop 0 = _; rw [h]; rfl
  rw [e, Nat.mul_one, List.drop_eq_getElem_cons (by rw [List.length_map]; exact hk), List.getElem_map]
  exact ⟨_, rfl⟩
end Go.Vm
namespace Go.Proofs.Ytggeadnjikpjnaa
open Go Go.Vm
set_option linter.unusedVariables false
set_option linter.unusedSimpArgs false
theorem solves_true (s : St) (hr : Room s) {v x : AV} {l : List (List Int)} {xs : List Bool} (hv : Rows2 s v l) (hi64 : ∀ c ∈ l, I64 c) (hx : Bools s x xs) (n : Nat) (hn8 : n ≤ 255) : CA F.law18_SatSolves [v, .int .u8 (n : Int), x] s = .ok (.bool true) s := by
  have fk := law_known s
  have ff := few_ok s hv
  have hxm := hx.most
  have ek : IntKind.wrap .i64 ((n : Int).tmod 14) = ((n % 14 : Nat) : Int) := by
    have e : ((n : Int).tmod 14) = ((n % 14 : Nat) : Int) := rfl
    rw [e, wrap_i64 (by omega) (by omega)]
  have erem : vbin .rem (.int .u8 (n : Int)) (.int .u8 14) s = .ok (.int .u8 ((n : Int).tmod 14)) s := vbin_rem s .u8 (n : Int) 14 (by decide)
  cases hf : fewB l with
  | false =>
    rw [hf] at ff
    refine fn_of code_law18_SatSolves (by simp) ?_
    simp only [go_sem, ↓reduceIte, Nat.reduceMod, Nat.reduceEqDiff, Nat.reduceAdd, Nat.reduceMul, Nat.reduceSub, Nat.reduceLeDiff, Nat.reduceLT, Int.reduceEq, Int.reduceLT, Int.reduceLE, Int.reduceAdd, Int.reduceSub, Int.reduceNeg, reduceCtorEq, Nat.reduceShiftRight, Nat.reduceAnd, Nat.reduceBNe, Sx_nil, fk, Bool.not_true, erem, ek, ff, Bool.not_false]
    exact settled_bool (Ext.refl s) rfl
  | true =>
    rw [hf] at ff
    by_cases hx20 : (20 : Int) < (xs.length : Int)
    · refine fn_of code_law18_SatSolves (by simp) ?_
      simp only [go_sem, ↓reduceIte, Nat.reduceMod, Nat.reduceEqDiff, Nat.reduceAdd, Nat.reduceMul, Nat.reduceSub, Nat.reduceLeDiff, Nat.reduceLT, Int.reduceEq, Int.reduceLT, Int.reduceLE, Int.reduceAdd, Int.reduceSub, Int.reduceNeg, reduceCtorEq, Nat.reduceShiftRight, Nat.reduceAnd, Nat.reduceBNe, Sx_nil, fk, Bool.not_true, erem, ek, ff, hx.vlen, hx20]
      exact settled_bool (Ext.refl s) rfl
    obtain ⟨hf1, hf2⟩ : (∀ c ∈ l, c.length ≤ 8) ∧ l.length ≤ 40 := by
      unfold fewB at hf
      rw [Bool.and_eq_true, decide_eq_true_eq, List.all_eq_true] at hf
      exact ⟨fun c hc => by have := hf.1 c hc; simpa using this, hf.2⟩
    generalize hk : n % 14 = k at *
    have hk14 : k < 14 := by omega
    have hl1 : ∀ c ∈ l, c.length ≤ 1000 := fun c hc => by have := hf1 c hc; omega
    have fc := count_ok s hr hv hi64 (n := k) (by omega) (by omega) hl1
    obtain ⟨ok, out, fs, told⟩ := solveT_ok s hr hv hi64 (n := k) (by omega) (by omega) hl1
    have hCl : (countL k l).length ≤ 40 := by rw [countL_len]; exact hf2
    have hCc : ∀ c ∈ countL k l, c.length ≤ 8 := fun c hc => by
      obtain ⟨d, hd, rfl⟩ := List.mem_map.mp hc
      exact Nat.le_trans (List.length_filter_le _ _) (hf1 d hd)
    have hrg := countL_range k l
    have hyes := @holdsB_of k l
    have hno := @holdsB_mod k l
    generalize countL k l = C at *
    have hCl' : C.length ≤ limit := by unfold limit; omega
    have hCc' : ∀ c ∈ C, c.length ≤ limit := fun c hc => by have := hCc c hc; unfold limit; omega
    rcases told with ⟨rfl, rfl, h3⟩ | ⟨rfl, h2, h3⟩
    rotate_left
    · have hb := tsO_bools s (out := out) (by unfold limit; omega)
      have fh := holds_ok s (tsR_rows s C hCl' hCc') hb (by rw [h2]; exact hrg)
      rw [hyes h3] at fh
      have vy := hb.vlen
      rw [h2] at vy
      refine fn_of code_law18_SatSolves (by simp) ?_
      simp only [go_sem, ↓reduceIte, Nat.reduceMod, Nat.reduceEqDiff, Nat.reduceAdd, Nat.reduceMul, Nat.reduceSub, Nat.reduceLeDiff, Nat.reduceLT, Int.reduceEq, Int.reduceLT, Int.reduceLE, Int.reduceAdd, Int.reduceSub, Int.reduceNeg, reduceCtorEq, Nat.reduceShiftRight, Nat.reduceAnd, Nat.reduceBNe, Sx_nil, fk, Bool.not_true, erem, ek, ff, hx.vlen, hx20, fc, fs, vy, fh]
      exact settled_bool (Ext.refl s) (by simp)
    · have fm := vmksl_eq (s := s) (L := []) hr (by simp) (bytes := 1) (j := .i64) (k := .i64) (l := k) (c := k) (a := .bool false) (Nat.le_refl _) (by unfold limit; omega) (by unfold limit; omega)
      change vmksl 1 [.bool false] (.int .i64 ((k : Nat) : Int)) (.int .i64 ((k : Nat) : Int)) s = .ok (.sl (nm s 0) 0 k k 0) (Sx s [.cells (List.replicate k (.bool false))]) at fm
      have vy : ∀ t, vlen (tsO false []) t = .ok (.int .i64 0) t := fun t => rfl
      refine fn_of code_law18_SatSolves (by simp) ?_
      simp only [go_sem, ↓reduceIte, Nat.reduceMod, Nat.reduceEqDiff, Nat.reduceAdd, Nat.reduceMul, Nat.reduceSub, Nat.reduceLeDiff, Nat.reduceLT, Int.reduceEq, Int.reduceLT, Int.reduceLE, Int.reduceAdd, Int.reduceSub, Int.reduceNeg, reduceCtorEq, Nat.reduceShiftRight, Nat.reduceAnd, Nat.reduceBNe, Sx_nil, fk, Bool.not_true, erem, ek, ff, hx.vlen, hx20, fc, fs, fm]
      refine W_inv (fun q f τ => ∃ (i : Nat) (S : List Bool), q = k - i ∧ i ≤ k ∧ S.length = k ∧ τ = Sx s [.cells (S.map .bool)] ∧ (vv 2).get f = x ∧ (vv 7).get f = .int .i64 (k : Int) ∧ (vv 8).get f = tsR C ∧ (vv 9).get f = tsO false [] ∧ (vv 11).get f = .sl (nm s 0) 0 k k 0 ∧ (vv 12).get f = .int .i64 (i : Int)) ?_ ⟨0, List.replicate k false, rfl, by omega, by simp, by simp, ?_⟩
      rotate_left
      · simp only [go_sem, ↓reduceIte, Nat.reduceMod, Nat.reduceEqDiff, Nat.reduceAdd, Nat.reduceMul, Nat.reduceSub, Nat.reduceLeDiff, Nat.reduceLT, Int.reduceEq, Int.reduceLT, Int.reduceLE, Int.reduceAdd, Int.reduceSub, Int.reduceNeg, reduceCtorEq, Nat.reduceShiftRight, Nat.reduceAnd, Nat.reduceBNe]
        simp
      rintro q f τ ⟨i, S, rfl, hi, hS, rfl, g2, g7, g8, g9, g11, g12⟩
      have hob : (Sx s [.cells (S.map .bool)]).obj (nm s 0) = .cells (S.map .bool) := Sx_obj? hr (by simp) (i := 0) rfl
      have hxs := ext_Sx (s := s) (l := [.cells (S.map .bool)]) hr (by simp)
      have hr1 := hr.sx (l := [.cells (S.map .bool)]) (by simp)
      have hend : CA F.ref16_Holds [tsR C, .sl (nm s 0) 0 k k 0] (Sx s [.cells (S.map .bool)]) = .ok (.bool false) (Sx s [.cells (S.map .bool)]) := by
        have fh := holds_ok _ (tsR_rows (Sx s [.cells (S.map .bool)]) C hCl' hCc') (bools_sl (ex := 0) hr1 hob hS.symm (by unfold limit; omega)) (by rw [hS]; exact hrg)
        have : holdsB C S = false := by
          rw [Bool.eq_false_iff]; intro e
          exact h3 _ (hno e)
        rw [this] at fh; exact fh
      by_cases c1 : i < k
      · by_cases c2 : i < xs.length
        · have hia := fun t => hx.ia c2 1 .i64 t
          simp only [Nat.mul_one] at hia
          have hld := hx.ld c2 hxs
          have a2 : ∀ t, viaddr 1 (.sl (nm s 0) 0 k k 0) (.int .i64 (i : Int)) t = .ok (.ptr (nm s 0) i) t := fun t => by
            have := viaddr_sl (k := .i64) (b := nm s 0) (o := 0) (len := k) (cap := k) (ex := 0) (i := i) c1 t
            rw [Nat.zero_add] at this; exact this
          have a3 : vstore 1 (.ptr (nm s 0) i) (.bool xs[i]) (Sx s [.cells (S.map .bool)]) = .ok Vm.undef (Sx s [.cells ((S.set i xs[i]).map .bool)]) := by
            rw [vstore_el hob rfl (by rw [List.length_map]; omega), Sx_put hr (by simp) (by simp), List.map_set]; rfl
          have ei : IntKind.wrap .i64 ((i : Int) + 1) = ((i + 1 : Nat) : Int) := by rw [wrap_i64 (by omega) (by omega)]; omega
          simp only [go_sem, ↓reduceIte, Nat.reduceMod, Nat.reduceEqDiff, Nat.reduceAdd, Nat.reduceMul, Nat.reduceSub, Nat.reduceLeDiff, Nat.reduceLT, Int.reduceEq, Int.reduceLT, Int.reduceLE, Int.reduceAdd, Int.reduceSub, Int.reduceNeg, reduceCtorEq, Nat.reduceShiftRight, Nat.reduceAnd, Nat.reduceBNe, g2, g7, g8, g9, g11, g12, Int.ofNat_lt, c1, hx.vlen, c2, hia, hld, a2, a3, ei]
          exact ⟨k - (i + 1), by omega, i + 1, _, rfl, by omega, by rw [List.length_set]; exact hS, rfl, rfl⟩
        · simp only [go_sem, ↓reduceIte, Nat.reduceMod, Nat.reduceEqDiff, Nat.reduceAdd, Nat.reduceMul, Nat.reduceSub, Nat.reduceLeDiff, Nat.reduceLT, Int.reduceEq, Int.reduceLT, Int.reduceLE, Int.reduceAdd, Int.reduceSub, Int.reduceNeg, reduceCtorEq, Nat.reduceShiftRight, Nat.reduceAnd, Nat.reduceBNe, g2, g7, g8, g9, g11, g12, Int.ofNat_lt, c1, hx.vlen, c2, vy, hend, Bool.not_false]
          exact settled_bool hxs rfl
      · simp only [go_sem, ↓reduceIte, Nat.reduceMod, Nat.reduceEqDiff, Nat.reduceAdd, Nat.reduceMul, Nat.reduceSub, Nat.reduceLeDiff, Nat.reduceLT, Int.reduceEq, Int.reduceLT, Int.reduceLE, Int.reduceAdd, Int.reduceSub, Int.reduceNeg, reduceCtorEq, Nat.reduceShiftRight, Nat.reduceAnd, Nat.reduceBNe, g2, g7, g8, g9, g11, g12, Int.ofNat_lt, c1, hx.vlen, vy, hend, Bool.not_false]
        exact settled_bool hxs rfl
end Go.Proofs.Ytggeadnjikpjnaa
namespace Go.Vm
set_option linter.unusedVariables false
theorem ints_one {τ : St} (hr : Room τ) {q : Id} {x : Int} {ex : Nat} (h : τ.obj q = .cells [.int .i64 x]) : Ints τ (.sl q 0 1 1 ex) [x] := by
  refine ⟨.sl q 0 _ _ ex _ (by unfold limit; omega) h (St.lt_of_obj hr h) (Nat.zero_le _), rfl, fun k hk => ?_⟩
  have e : rowOf τ (.sl q 0 1 1 ex) = [.int .i64 x] := by show (τ.obj q).row.drop 0 = _; rw [h]; rfl
  have hk0 : k = 0 := by simpa using hk
  subst hk0
  rw [e]
  exact ⟨_, rfl⟩
def RowE (s τ : St) (own : List Id) (e : AV) (c : List Int) : Prop := Ints s e c ∨ ∃ (q : Id) (x : Int), e = .sl q 0 1 1 0 ∧ c = [x] ∧ τ.obj q = .cells [.int .i64 x] ∧ s.n.val ≤ q.val ∧ q.val < τ.n.val ∧ q ∉ own
def RowsE (s τ : St) (own : List Id) : List AV → List (List Int) → Prop
  | [], [] => True
  | e :: l, c :: m => RowE s τ own e c ∧ RowsE s τ own l m
  | _, _ => False
theorem RowsE.len {s τ : St} {own : List Id} : ∀ {l : List AV} {m : List (List Int)}, RowsE s τ own l m → l.length = m.length
  | [], [], _ => rfl
  | _ :: l, _ :: m, h => by simp [RowsE.len h.2]
  | [], _ :: _, h => h.elim
  | _ :: _, [], h => h.elim
theorem RowsE.frame {s τ τ' : St} {own own' : List Id} (hf : ∀ i, i ∉ own → i.val < τ.n.val → τ'.obj i = τ.obj i) (ho : ∀ i, i.val < τ.n.val → i ∈ own' → i ∈ own) (hn : τ.n.val ≤ τ'.n.val) : ∀ {l : List AV} {m : List (List Int)}, RowsE s τ own l m → RowsE s τ' own' l m
  | [], [], _ => trivial
  | e :: l, c :: m, h => by
    refine ⟨?_, RowsE.frame hf ho hn h.2⟩
    rcases h.1 with h1 | ⟨q, x, h1, h2, h3, h4, h5, h6⟩
    · exact .inl h1
    · exact .inr ⟨q, x, h1, h2, by rw [hf q h6 h5]; exact h3, h4, by omega, fun hm => h6 (ho q h5 hm)⟩
  | [], _ :: _, h => h.elim
  | _ :: _, [], h => h.elim
theorem RowsE.snoc {s τ : St} {own : List Id} {e : AV} {c : List Int} (he : RowE s τ own e c) : ∀ {l : List AV} {m : List (List Int)}, RowsE s τ own l m → RowsE s τ own (l ++ [e]) (m ++ [c])
  | [], [], _ => ⟨he, trivial⟩
  | _ :: l, _ :: m, h => ⟨h.1, RowsE.snoc he h.2⟩
  | [], _ :: _, h => h.elim
  | _ :: _, [], h => h.elim
theorem RowsE.at {s τ : St} {own : List Id} (hx : Ext s τ) (hr : Room τ) : ∀ {l : List AV} {m : List (List Int)}, RowsE s τ own l m → ∀ (i : Nat) (h1 : i < l.length) (h2 : i < m.length), Ints τ l[i] m[i]
  | [], [], _, i, h, _ => by simp at h
  | e :: l, c :: m, h, i, h1, h2 => by
    cases i with
    | zero =>
      rcases h.1 with k | ⟨q, x, rfl, rfl, k, _⟩
      · exact k.x hx
      · exact ints_one hr k
    | succ i => exact RowsE.at hx hr h.2 i (by simpa using h1) (by simpa using h2)
  | [], _ :: _, h, _, _, _ => h.elim
  | _ :: _, [], h, _, _, _ => h.elim
theorem ExS.isl {σ : St} {a : AV} {xs : List AV} (h : ExS σ a xs) (hr : Room σ) : IsSl σ a ∧ lenOf a = xs.length ∧ rowOf σ a = xs := by
  cases h with
  | nils => exact ⟨.nils, rfl, rfl⟩
  | sl i xs h h0 hm => exact ⟨.sl i 0 _ _ 1 xs hm h (St.lt_of_obj hr h) (Nat.zero_le _), rfl, by show (σ.obj i).row.drop 0 = _; rw [h]; rfl⟩
theorem RowsE.rows2 {s τ : St} {a : AV} {avs : List AV} {m : List (List Int)} (h : RowsE s τ (ids a) avs m) (ha : ExS τ a avs) (hx : Ext s τ) (hr : Room τ) : Rows2 τ a m := by
  obtain ⟨h1, h2, h3⟩ := ha.isl hr
  have hl := h.len
  refine ⟨h1, by rw [h2, hl], fun i hi => ?_⟩
  have hi' : i < avs.length := by omega
  rw [h3, Nat.mul_one, List.drop_eq_getElem_cons hi']
  exact ⟨_, _, rfl, h.at hx hr i hi' hi⟩
theorem rowsE_of {s : St} {own : List Id} : ∀ (l : List AV) (m : List (List Int)), l.length = m.length → (∀ (i : Nat) (h1 : i < l.length) (h2 : i < m.length), Ints s l[i] m[i]) → RowsE s s own l m
  | [], [], _, _ => trivial
  | e :: l, c :: m, h, k => ⟨.inl (k 0 (by simp) (by simp)), rowsE_of l m (by simpa using h) fun i h1 h2 => k (i + 1) (by simpa using h1) (by simpa using h2)⟩
  | [], _ :: _, h, _ => by simp at h
  | _ :: _, [], h, _ => by simp at h
/-- A row of rows, copied. -/
theorem rows_copy {s : St} (hr : Room s) {v : AV} {l : List (List Int)} (hv : Rows2 s v l) (hl : l.length ≤ 1000000) : ∃ (a : AV) (avs : List AV) (s' : St), vapp 1 24 .nils v s = .ok a s' ∧ ExS s' a avs ∧ Room s' ∧ Ext s s' ∧ (∀ i ∈ ids a, s.n.val ≤ i.val) ∧ RowsE s s' (ids a) avs l := by
  have hlen := hv.len
  have hrow : lenOf v * 1 ≤ (rowOf s v).length := by
    by_cases h0 : l.length = 0
    · omega
    · obtain ⟨a, t, h1, _⟩ := hv.el (l.length - 1) (by omega)
      have := congrArg List.length h1
      rw [List.length_drop, List.length_cons] at this
      omega
  by_cases h0 : l = []
  · have h0' : lenOf v = 0 := by rw [hlen, h0]; rfl
    have := vapp_nils0 (s := s) (L := []) (sz := 1) (bytes := 24) hv.sl hrow h0'
    refine ⟨.nils, [], s, this, .nils, hr, Ext.refl s, by simp [ids, AV.onSl], ?_⟩
    rw [h0]; trivial
  · have h0' : lenOf v ≠ 0 := by rw [hlen]; exact fun e => h0 (List.eq_nil_of_length_eq_zero e)
    have h1 := vapp_nils (s := s) (L := []) hr (by simp) (sz := 1) (bytes := 24) hv.sl hrow (by rw [hlen]; unfold limit; omega) h0'
    have hn0 := nm_val hr (k := 0) (by omega)
    have hob : (Sx s [.cells ((rowOf s v).take (lenOf v * 1))]).obj (nm s 0) = .cells ((rowOf s v).take (lenOf v * 1)) := Sx_obj? hr (by simp) (i := 0) rfl
    have hrs := hr.sx (l := [.cells ((rowOf s v).take (lenOf v * 1))]) (by simp)
    have hxs := ext_Sx (s := s) (l := [.cells ((rowOf s v).take (lenOf v * 1))]) hr (by simp)
    change vapp 1 24 .nils v s = .ok (.sl (nm s 0) 0 (lenOf v) (lenOf v) 1) (Sx s [.cells ((rowOf s v).take (lenOf v * 1))]) at h1
    rw [Nat.mul_one] at *
    obtain ⟨avs, hav⟩ : ∃ avs, avs = (rowOf s v).take (lenOf v) := ⟨_, rfl⟩
    have hal : avs.length = lenOf v := by rw [hav, List.length_take]; omega
    rw [← hav] at h1 hob hrs hxs
    rw [← hal] at h1
    have hids : ids (.sl (nm s 0) 0 avs.length avs.length 1) = [nm s 0] := rfl
    refine ⟨_, avs, _, h1, .sl (nm s 0) avs hob (fun e => h0' (by rw [← hal, e]; rfl)) (by unfold limit; omega), hrs, hxs, fun i hi => by rw [hids, List.mem_singleton] at hi; rw [hi]; omega, ?_⟩
    have hbase : RowsE s s (ids (.sl (nm s 0) 0 avs.length avs.length 1)) avs l := rowsE_of avs l (by omega) fun i h1 h2 => by
      obtain ⟨a, t, k1, k2⟩ := hv.el i h2
      rw [Nat.mul_one] at k1
      have : avs[i] = a := by
        have e1 : (rowOf s v)[i]? = some a := by
          have := congrArg (fun l : List AV => l[0]?) k1
          simpa using this
        have e2 : avs[i]? = some a := by rw [hav, List.getElem?_take_of_lt (by omega)]; exact e1
        rw [List.getElem?_eq_getElem h1] at e2
        exact Option.some.inj e2
      rw [this]; exact k2
    exact hbase.frame (fun i _ hi => hxs.old i hi) (fun i _ h => h) hxs.n
end Go.Vm
namespace Go.Proofs.Ytggeadnjikpjnaa
open Go Go.Vm
set_option linter.unusedVariables false
set_option linter.unusedSimpArgs false
/-- The literals of a clause, each turned, each a clause. -/
def negs (n : Nat) (c : List Int) : List (List Int) := (knownL n c).map fun x => [-x]
theorem learn_ok (s : St) (hr : Room s) {v cv : AV} {l : List (List Int)} {c : List Int} (hv : Rows2 s v l) (hi : ∀ c ∈ l, I64 c) (hcv : Ints s cv c) (hci : I64 c) {n : Nat} (hn : n ≤ 14) (hl : l.length ≤ 900) (hc : ∀ c ∈ l, c.length ≤ 1000) (hcl : c.length ≤ 100) :
    ∃ (ok : Bool) (out : List Bool), CA F.sat_Learn [v, cv, .int .i64 (n : Int)] s = .ok (.bool (!ok)) s ∧ Told ((l ++ negs n c).map (knownL n)) n ok out := by
  obtain ⟨b, G, s1, f1, h1⟩ := new_ok s hr hv hi (n := n) (by omega) (by omega) hc
  have hxn := fun m => (newX_fresh n m).n
  obtain ⟨tv1, sv1, lv1, es1, h1⟩ := h1
  have f2 := known_ok h1 (hcv.x h1.ext) hci (by omega) (by rw [hxn]; omega)
  rw [hxn] at f2
  have hkl := knownL_len n c
  have hk := fun t => tsN_ints t (knownL n c) (by unfold limit; omega)
  have hneg : (negs n c).length = (knownL n c).length := by unfold negs; rw [List.length_map]
  obtain ⟨r, g1, ok, out, rfl, g2⟩ : ∃ r, CA F.sat_Learn [v, cv, .int .i64 (n : Int)] s = .ok r s ∧ ∃ (ok : Bool) (out : List Bool), r = .bool (!ok) ∧ Told ((l ++ negs n c).map (knownL n)) n ok out := by
    refine fn_pure code_sat_Learn (by simp) ?_
    simp only [go_sem, ↓reduceIte, Nat.reduceMod, Nat.reduceEqDiff, Nat.reduceAdd, Nat.reduceMul, Nat.reduceSub, Nat.reduceLeDiff, Nat.reduceLT, Int.reduceEq, Int.reduceLT, Int.reduceLE, Int.reduceAdd, Int.reduceSub, Int.reduceNeg, reduceCtorEq, Nat.reduceShiftRight, Nat.reduceAnd, Nat.reduceBNe, Sx_nil, f1, f2, (hk s1).vlen]
    refine W_inv (fun k f τ => ∃ j : Nat, k = (knownL n c).length - j ∧ j ≤ (knownL n c).length ∧ Sol s τ b G (newX n (l ++ (negs n c).take j)) ∧ (vv 7).get f = .ptr b 0 ∧ (vv 17).get f = tsN (knownL n c) ∧ (vv 18).get f = .int .i64 ((knownL n c).length : Int) ∧ (vv 19).get f = .int .i64 (j : Int)) ?_ ⟨0, rfl, by omega, by rw [List.take_zero, List.append_nil]; exact ⟨_, _, _, _, h1⟩, ?_⟩
    rotate_left
    · simp only [go_sem, ↓reduceIte, Nat.reduceMod, Nat.reduceEqDiff, Nat.reduceAdd, Nat.reduceMul, Nat.reduceSub, Nat.reduceLeDiff, Nat.reduceLT, Int.reduceEq, Int.reduceLT, Int.reduceLE, Int.reduceAdd, Int.reduceSub, Int.reduceNeg, reduceCtorEq, Nat.reduceShiftRight, Nat.reduceAnd, Nat.reduceBNe]
      simp
    rintro k f τ ⟨j, rfl, hj, ⟨tv2, sv2, lv2, es2, h2⟩, g7, g17, g18, g19⟩
    by_cases c1 : j < (knownL n c).length
    · have hxr := knownL_in n c _ (List.getElem_mem c1)
      have hja := fun t => (hk τ).ia c1 1 .i64 t
      simp only [Nat.mul_one] at hja
      have hld := (hk τ).i64 c1 (ext_self τ)
      have en : IntKind.wrap .i64 (-(knownL n c)[j]) = -(knownL n c)[j] := wrap_i64 (by omega) (by omega)
      have h3 := h2.push (.cells [.int .i64 (-(knownL n c)[j])])
      have hsm := newX_sm n (by omega) (l ++ (negs n c).take j) (by rw [List.length_append, List.length_take]; omega) (fun d hd => by
        rcases List.mem_append.mp hd with hd | hd
        · exact hc d hd
        · obtain ⟨x, _, rfl⟩ := List.mem_map.mp (List.mem_of_mem_take hd)
          simp)
      have et : (negs n c).take (j + 1) = (negs n c).take j ++ [[-(knownL n c)[j]]] := by
        rw [← List.take_append_getElem (by omega : j < (negs n c).length)]
        unfold negs
        rw [List.getElem_map]
      obtain ⟨τ2, f3, h4⟩ := add_ok h3 (v := .sl τ.n 0 1 1 0) (c := [-(knownL n c)[j]]) (ints_one h3.room (push_self _ _)) (fun x hx => by rw [List.mem_singleton] at hx; omega) hsm.2.1 (by rw [hsm.2.2]; exact knownL_in _ _) hsm.1 (by simp)
      have h5 : Sol s τ2 b G (newX n (l ++ (negs n c).take (j + 1))) := by
        rw [et, ← List.append_assoc, newX_snoc]; exact h4
      simp only [go_sem, ↓reduceIte, Nat.reduceMod, Nat.reduceEqDiff, Nat.reduceAdd, Nat.reduceMul, Nat.reduceSub, Nat.reduceLeDiff, Nat.reduceLT, Int.reduceEq, Int.reduceLT, Int.reduceLE, Int.reduceAdd, Int.reduceSub, Int.reduceNeg, reduceCtorEq, Nat.reduceShiftRight, Nat.reduceAnd, Nat.reduceBNe, g7, g17, g18, g19, Int.ofNat_lt, c1, hja, hld, en, vblit_push, f3]
      refine ⟨(knownL n c).length - (j + 1), by omega, j + 1, rfl, by omega, h5, ?_⟩
      rw [wrap_i64 (by omega) (by omega)]; simp
    · have e : j = (knownL n c).length := by omega
      subst e
      rw [List.take_of_length_le (by omega)] at h2
      have hli := newX_li (n := n) (l := l ++ negs n c) hn (by rw [List.length_append]; omega) (fun d hd => by
        rcases List.mem_append.mp hd with hd | hd
        · exact hc d hd
        · obtain ⟨x, _, rfl⟩ := List.mem_map.mp hd
          simp) (by have := h2.lv2; rw [hxn] at this; exact this) (by have := h2.lv3; rw [hxn] at this; exact this)
      obtain ⟨a, ok, out, τ2, f3, k1, k2, k3⟩ := solve_ok ⟨_, _, _, _, h2⟩ hli (by rw [hxn]; exact hn)
      rw [hxn] at k3
      simp only [go_sem, ↓reduceIte, Nat.reduceMod, Nat.reduceEqDiff, Nat.reduceAdd, Nat.reduceMul, Nat.reduceSub, Nat.reduceLeDiff, Nat.reduceLT, Int.reduceEq, Int.reduceLT, Int.reduceLE, Int.reduceAdd, Int.reduceSub, Int.reduceNeg, reduceCtorEq, Nat.reduceShiftRight, Nat.reduceAnd, Nat.reduceBNe, g7, g17, g18, g19, Int.ofNat_lt, c1, f3]
      exact ⟨k1, _, .bool _, ok, out, rfl, k3⟩
  exact ⟨ok, out, g1, g2⟩
end Go.Proofs.Ytggeadnjikpjnaa
namespace Go.Vm
set_option linter.unusedVariables false
def negR (d : List Int) : List (List Int) := d.map fun x => [-x]
theorem knownL_one {k : Nat} {y : Int} (h0 : y ≠ 0) (h1 : y.natAbs ≤ k) : knownL k [y] = [y] := by
  show known1 k [] y = [y]
  unfold known1
  rw [if_neg (by rintro (q | q | q); exact h0 q; omega; cases q)]; rfl
theorem mod_negs {k : Nat} {l : List (List Int)} {d : List Int} (hd : ∀ x ∈ d, x ≠ 0 ∧ x.natAbs ≤ k) (ν : Nat → Bool) : Mod ν ((l ++ negR d).map (knownL k)) ↔ Mod ν (l.map (knownL k)) ∧ ∀ x ∈ d, satL ν (-x) = true := by
  unfold Mod negR
  rw [List.map_append]
  constructor
  · intro h
    refine ⟨fun c hc => h c (List.mem_append_left _ hc), fun x hx => ?_⟩
    have hxr := hd x hx
    obtain ⟨y, hy, e⟩ := h (knownL k [-x]) (List.mem_append_right _ (List.mem_map_of_mem (List.mem_map.mpr ⟨x, hx, rfl⟩)))
    rw [knownL_one (by omega) (by omega), List.mem_singleton] at hy
    rw [← hy]; exact e
  · rintro ⟨h1, h2⟩ c hc
    rcases List.mem_append.mp hc with hc | hc
    · exact h1 c hc
    · obtain ⟨c', hc', rfl⟩ := List.mem_map.mp hc
      obtain ⟨x, hx, rfl⟩ := List.mem_map.mp hc'
      have hxr := hd x hx
      exact ⟨-x, by rw [knownL_one (by omega) (by omega)]; simp, h2 x hx⟩
theorem okV_known (k : Nat) (c : List Int) (x : Int) : x ∈ c.filter (okV k) ↔ x ∈ knownL k c := by
  rw [List.mem_filter, knownL_mem]
  unfold okV
  rw [decide_eq_true_eq]
  constructor
  · rintro ⟨h1, h2, h3, h4⟩; exact ⟨h1, h2, by omega⟩
  · rintro ⟨h1, h2, h3⟩; exact ⟨h1, h2, by omega, by omega⟩
theorem holds_one (k : Nat) (c : List Int) (z : List Bool) : holdsB (countL k [c]) z = (c.filter (okV k)).any (litB z) := by
  unfold holdsB countL
  simp
theorem litB_neg (z : List Bool) {x : Int} (h : x ≠ 0) : litB z (-x) = !litB z x := satL_neg (nuB z) h
/-- It follows: whatever makes all hold makes the one hold. -/
theorem follows_plain {k : Nat} {l : List (List Int)} {c : List Int} (h : ∀ ν, ¬ Mod ν ((l ++ negR (knownL k c)).map (knownL k))) (z : List Bool) : holdsB (countL k l) z = false ∨ holdsB (countL k [c]) z = true := by
  cases h1 : holdsB (countL k l) z with
  | false => exact .inl rfl
  | true =>
    refine .inr ?_
    rw [holds_one]
    apply Classical.byContradiction
    intro hn
    apply h (nuB z)
    rw [mod_negs (knownL_in k c)]
    refine ⟨holdsB_mod h1, fun x hx => ?_⟩
    rw [satL_nu, litB_neg _ (knownL_in k c x hx).1]
    cases e : litB z x with
    | false => rfl
    | true => exact absurd (List.any_eq_true.mpr ⟨x, (okV_known k c x).mpr hx, e⟩) hn
/-- It doesn't: values are told with which all hold and the one doesn't. -/
theorem not_plain {k : Nat} {l : List (List Int)} {c : List Int} {out1 out2 : List Bool} {ok2 : Bool} (h : Go.Proofs.Ytggeadnjikpjnaa.Told ((l ++ negR (knownL k c)).map (knownL k)) k true out1) (h2 : Go.Proofs.Ytggeadnjikpjnaa.Told ((l ++ negR (c.filter (okV k))).map (knownL k)) k ok2 out2) :
    ok2 = true ∧ out2.length = k ∧ holdsB (countL k l) out2 = true ∧ holdsB (countL k [c]) out2 = false := by
  have hf : ∀ x ∈ c.filter (okV k), x ≠ 0 ∧ x.natAbs ≤ k := fun x hx => knownL_in k c x ((okV_known k c x).mp hx)
  have hm1 : Mod (nuB out1) ((l ++ negR (knownL k c)).map (knownL k)) := by
    rcases h with ⟨e, _⟩ | ⟨_, _, h⟩
    · cases e
    · intro d hd
      obtain ⟨x, hx, _, _, e⟩ := h d hd
      exact ⟨x, hx, e⟩
  rw [mod_negs (knownL_in k c)] at hm1
  rcases h2 with ⟨_, _, h2⟩ | ⟨e, hl, h2⟩
  · exfalso
    apply h2 (nuB out1)
    rw [mod_negs hf]
    exact ⟨hm1.1, fun x hx => hm1.2 x ((okV_known k c x).mp hx)⟩
  · have hm2 : Mod (nuB out2) ((l ++ negR (c.filter (okV k))).map (knownL k)) := by
      intro d hd
      obtain ⟨x, hx, _, _, e⟩ := h2 d hd
      exact ⟨x, hx, e⟩
    rw [mod_negs hf] at hm2
    refine ⟨e, hl, holdsB_of fun d hd => h2 d (by rw [List.map_append]; exact List.mem_append_left _ hd), ?_⟩
    rw [holds_one, Bool.eq_false_iff]
    intro hn
    obtain ⟨x, hx, e⟩ := List.any_eq_true.mp hn
    have := hm2.2 x hx
    rw [satL_nu, litB_neg _ (hf x hx).1, e] at this
    cases this
end Go.Vm
namespace Go.Proofs.Ytggeadnjikpjnaa
open Go Go.Vm
set_option linter.unusedVariables false
set_option linter.unusedSimpArgs false
theorem learns_true (s : St) (hr : Room s) {v cv x : AV} {l : List (List Int)} {c : List Int} {xs : List Bool} (hv : Rows2 s v l) (hi64 : ∀ c ∈ l, I64 c) (hcv : Ints s cv c) (hci : I64 c) (hx : Bools s x xs) (n : Nat) (hn8 : n ≤ 255) : CA F.law18_SatLearns [v, cv, .int .u8 (n : Int), x] s = .ok (.bool true) s := by
  have fk := law_known s
  have ff := few_ok s hv
  have hxm := hx.most
  have ek : IntKind.wrap .i64 ((n : Int).tmod 12) = ((n % 12 : Nat) : Int) := by
    have e : ((n : Int).tmod 12) = ((n % 12 : Nat) : Int) := rfl
    rw [e, wrap_i64 (by omega) (by omega)]
  have erem : vbin .rem (.int .u8 (n : Int)) (.int .u8 12) s = .ok (.int .u8 ((n : Int).tmod 12)) s := vbin_rem s .u8 (n : Int) 12 (by decide)
  cases hf : fewB l with
  | false =>
    rw [hf] at ff
    refine fn_of code_law18_SatLearns (by simp) ?_
    simp only [go_sem, ↓reduceIte, Nat.reduceMod, Nat.reduceEqDiff, Nat.reduceAdd, Nat.reduceMul, Nat.reduceSub, Nat.reduceLeDiff, Nat.reduceLT, Int.reduceEq, Int.reduceLT, Int.reduceLE, Int.reduceAdd, Int.reduceSub, Int.reduceNeg, reduceCtorEq, Nat.reduceShiftRight, Nat.reduceAnd, Nat.reduceBNe, Sx_nil, fk, Bool.not_true, erem, ek, ff, Bool.not_false]
    exact settled_bool (Ext.refl s) rfl
  | true =>
    rw [hf] at ff
    by_cases hc8 : (8 : Int) < (c.length : Int)
    · refine fn_of code_law18_SatLearns (by simp) ?_
      simp only [go_sem, ↓reduceIte, Nat.reduceMod, Nat.reduceEqDiff, Nat.reduceAdd, Nat.reduceMul, Nat.reduceSub, Nat.reduceLeDiff, Nat.reduceLT, Int.reduceEq, Int.reduceLT, Int.reduceLE, Int.reduceAdd, Int.reduceSub, Int.reduceNeg, reduceCtorEq, Nat.reduceShiftRight, Nat.reduceAnd, Nat.reduceBNe, Sx_nil, fk, Bool.not_true, erem, ek, ff, hcv.vlen, hc8]
      exact settled_bool (Ext.refl s) rfl
    by_cases hx20 : (20 : Int) < (xs.length : Int)
    · refine fn_of code_law18_SatLearns (by simp) ?_
      simp only [go_sem, ↓reduceIte, Nat.reduceMod, Nat.reduceEqDiff, Nat.reduceAdd, Nat.reduceMul, Nat.reduceSub, Nat.reduceLeDiff, Nat.reduceLT, Int.reduceEq, Int.reduceLT, Int.reduceLE, Int.reduceAdd, Int.reduceSub, Int.reduceNeg, reduceCtorEq, Nat.reduceShiftRight, Nat.reduceAnd, Nat.reduceBNe, Sx_nil, fk, Bool.not_true, erem, ek, ff, hcv.vlen, hc8, hx.vlen, hx20]
      exact settled_bool (Ext.refl s) rfl
    obtain ⟨hf1, hf2⟩ : (∀ c ∈ l, c.length ≤ 8) ∧ l.length ≤ 40 := by
      unfold fewB at hf
      rw [Bool.and_eq_true, decide_eq_true_eq, List.all_eq_true] at hf
      exact ⟨fun c hc => by have := hf.1 c hc; simpa using this, hf.2⟩
    generalize hk : n % 12 = k at *
    have hk12 : k < 12 := by omega
    have hl1 : ∀ c ∈ l, c.length ≤ 1000 := fun c hc => by have := hf1 c hc; omega
    have fc := count_ok s hr hv hi64 (n := k) (by omega) (by omega) hl1
    -- the one clause, in a row
    have hr0 := hr.push (.cells [cv])
    have hx0 : Ext s (s.push (.cells [cv])) := ⟨by rw [push_n]; omega, fun d hd => push_old hd⟩
    have hrow1 : Rows2 (s.push (.cells [cv])) (.sl s.n 0 1 1 0) [c] := by
      have ho := push_self s (.cells [cv])
      refine ⟨.sl s.n 0 _ _ 0 _ (by unfold limit; omega) ho (St.lt_of_obj hr0 ho) (Nat.zero_le _), rfl, fun j hj => ?_⟩
      have e : rowOf (s.push (.cells [cv])) (.sl s.n 0 1 1 0) = [cv] := by show ((s.push (.cells [cv])).obj s.n).row.drop 0 = _; rw [ho]; rfl
      have hj0 : j = 0 := by simpa using hj
      subst hj0
      rw [e]
      exact ⟨_, _, rfl, hcv.x hx0⟩
    have fc1 := count_ok (s.push (.cells [cv])) hr0 hrow1 (fun d hd => by rw [List.mem_singleton] at hd; rw [hd]; exact hci) (n := k) (by omega) (by simp) (fun d hd => by rw [List.mem_singleton] at hd; rw [hd]; omega)
    obtain ⟨t0, ht0⟩ : ∃ t0, t0 = s.push (.cells [cv]) := ⟨_, rfl⟩
    have fbl := vblit_push 1 [cv] s
    rw [← ht0] at hr0 hx0 fc1 fbl
    have hCl : (countL k l).length ≤ 40 := by rw [countL_len]; exact hf2
    have hCc : ∀ c ∈ countL k l, c.length ≤ 8 := fun c hc => by
      obtain ⟨d, hd, rfl⟩ := List.mem_map.mp hc
      exact Nat.le_trans (List.length_filter_le _ _) (hf1 d hd)
    have hrg := countL_range k l
    have hrg1 := countL_range k [c]
    have hCl' : (countL k l).length ≤ limit := by unfold limit; omega
    have hCc' : ∀ c ∈ countL k l, c.length ≤ limit := fun c hc => by have := hCc c hc; unfold limit; omega
    have e1c : countL k [c] = [c.filter (okV k)] := rfl
    have hdl : (c.filter (okV k)).length ≤ 8 := Nat.le_trans (List.length_filter_le _ _) (by omega)
    have hDl' : (countL k [c]).length ≤ limit := by rw [e1c]; unfold limit; simp
    have hDc' : ∀ d ∈ countL k [c], d.length ≤ limit := fun d hd => by rw [e1c, List.mem_singleton] at hd; rw [hd]; unfold limit; omega
    have hdr : ∀ y ∈ c.filter (okV k), y ≠ 0 ∧ y.natAbs ≤ k := fun y hy => knownL_in k c y ((okV_known k c y).mp hy)
    have hia1 : ∀ t, viaddr 1 (tsR (countL k [c])) (.int .i64 0) t = .ok (elp (tsR (countL k [c])) 0) t := fun t => tsR_ia hDl' hDc' (i := 0) (by rw [e1c]; simp) t
    have hld1 : ∀ t, vload false 1 (elp (tsR (countL k [c])) 0) t = .ok (tsN (c.filter (okV k))) t := fun t => tsR_ld (i := 0) (m := countL k [c]) (by rw [e1c]; simp) t
    have hD := fun t => tsN_ints t (c.filter (okV k)) (by unfold limit; omega)
    have fol := @follows_plain k l c
    have nfo := @not_plain k l c
    obtain ⟨C, hC⟩ : ∃ C, C = countL k l := ⟨_, rfl⟩
    obtain ⟨D, hDD⟩ : ∃ D, D = countL k [c] := ⟨_, rfl⟩
    rw [← hC] at fc hrg hCl' hCc'
    rw [← hDD] at fc1 hrg1 hDl' hDc' hia1 hld1
    simp only [← hC, ← hDD] at fol nfo
    generalize c.filter (okV k) = d at *
    have fm := vmksl_eq (s := t0) (L := []) hr0 (by simp) (bytes := 1) (j := .i64) (k := .i64) (l := k) (c := k) (a := .bool false) (Nat.le_refl _) (by unfold limit; omega) (by unfold limit; omega)
    change vmksl 1 [.bool false] (.int .i64 ((k : Nat) : Int)) (.int .i64 ((k : Nat) : Int)) t0 = .ok (.sl (nm t0 0) 0 k k 0) (Sx t0 [.cells (List.replicate k (.bool false))]) at fm
    refine fn_of code_law18_SatLearns (by simp) ?_
    simp only [go_sem, ↓reduceIte, Nat.reduceMod, Nat.reduceEqDiff, Nat.reduceAdd, Nat.reduceMul, Nat.reduceSub, Nat.reduceLeDiff, Nat.reduceLT, Int.reduceEq, Int.reduceLT, Int.reduceLE, Int.reduceAdd, Int.reduceSub, Int.reduceNeg, reduceCtorEq, Nat.reduceShiftRight, Nat.reduceAnd, Nat.reduceBNe, Sx_nil, fk, Bool.not_true, erem, ek, ff, hcv.vlen, hc8, hx.vlen, hx20, fc, hcv.one, fbl, fc1, fm]
    refine W.mono (e := fun j f τ => j = 0 ∧ ∃ S : List Bool, S.length = k ∧ τ = Sx t0 [.cells (S.map .bool)] ∧ (vv 0).get f = v ∧ (vv 1).get f = cv ∧ (vv 9).get f = .int .i64 (k : Int) ∧ (vv 10).get f = tsR C ∧ (vv 11).get f = tsR D ∧ (vv 12).get f = .sl (nm t0 0) 0 k k 0) ?_ (fun _ _ h => h) (fun j f τ hK => ?_) (fun _ _ h => h)
    rotate_left
    · obtain ⟨rfl, S, hS, rfl, g0, g1, g9, g10, g11, g12⟩ := hK
      rw [if_pos rfl]
      have hob : (Sx t0 [.cells (S.map .bool)]).obj (nm t0 0) = .cells (S.map .bool) := Sx_obj? hr0 (by simp) (i := 0) rfl
      have hx1 : Ext s (Sx t0 [.cells (S.map .bool)]) := hx0.trans (ext_Sx (s := t0) (l := [.cells (S.map .bool)]) hr0 (by simp))
      have hr1 := hr0.sx (l := [.cells (S.map .bool)]) (by simp)
      have hbz : Bools (Sx t0 [.cells (S.map .bool)]) (.sl (nm t0 0) 0 k k 0) S := bools_sl (ex := 0) hr1 hob hS.symm (by unfold limit; omega)
      generalize Sx t0 [.cells (S.map .bool)] = τ1 at *
      obtain ⟨okL, outL, fl, toldL'⟩ := learn_ok τ1 hr1 (hv.x hx1) hi64 (hcv.x hx1) hci (n := k) (by omega) (by omega) hl1 (by omega)
      have toldL : Told ((l ++ negR (knownL k c)).map (knownL k)) k okL outL := toldL'
      have fh1 := holds_ok τ1 (tsR_rows τ1 C hCl' hCc') hbz (by rw [hS]; exact hrg)
      have fh2 := holds_ok τ1 (tsR_rows τ1 D hDl' hDc') hbz (by rw [hS]; exact hrg1)
      cases okL with
      | false =>
        rcases toldL with ⟨_, _, h3⟩ | ⟨e, _⟩
        rotate_left
        · cases e
        rcases fol h3 S with e | e
        · rw [e] at fh1
          simp only [go_sem, ↓reduceIte, Nat.reduceMod, Nat.reduceEqDiff, Nat.reduceAdd, Nat.reduceMul, Nat.reduceSub, Nat.reduceLeDiff, Nat.reduceLT, Int.reduceEq, Int.reduceLT, Int.reduceLE, Int.reduceAdd, Int.reduceSub, Int.reduceNeg, reduceCtorEq, Nat.reduceShiftRight, Nat.reduceAnd, Nat.reduceBNe, g0, g1, g9, g10, g11, g12, fl, Bool.not_false, fh1]
          exact settled_bool hx1 rfl
        · rw [e] at fh2
          cases hb : holdsB C S with
          | false =>
            rw [hb] at fh1
            simp only [go_sem, ↓reduceIte, Nat.reduceMod, Nat.reduceEqDiff, Nat.reduceAdd, Nat.reduceMul, Nat.reduceSub, Nat.reduceLeDiff, Nat.reduceLT, Int.reduceEq, Int.reduceLT, Int.reduceLE, Int.reduceAdd, Int.reduceSub, Int.reduceNeg, reduceCtorEq, Nat.reduceShiftRight, Nat.reduceAnd, Nat.reduceBNe, g0, g1, g9, g10, g11, g12, fl, Bool.not_false, fh1]
            exact settled_bool hx1 rfl
          | true =>
            rw [hb] at fh1
            simp only [go_sem, ↓reduceIte, Nat.reduceMod, Nat.reduceEqDiff, Nat.reduceAdd, Nat.reduceMul, Nat.reduceSub, Nat.reduceLeDiff, Nat.reduceLT, Int.reduceEq, Int.reduceLT, Int.reduceLE, Int.reduceAdd, Int.reduceSub, Int.reduceNeg, reduceCtorEq, Nat.reduceShiftRight, Nat.reduceAnd, Nat.reduceBNe, g0, g1, g9, g10, g11, g12, fl, Bool.not_false, Bool.not_true, fh1, fh2]
            exact settled_bool hx1 rfl
      | true =>
        obtain ⟨a, avs, τ2, w1, own, hr2, hx2, hge, rows⟩ := rows_copy hr1 (hv.x hx1) (by omega)
        simp only [go_sem, ↓reduceIte, Nat.reduceMod, Nat.reduceEqDiff, Nat.reduceAdd, Nat.reduceMul, Nat.reduceSub, Nat.reduceLeDiff, Nat.reduceLT, Int.reduceEq, Int.reduceLT, Int.reduceLE, Int.reduceAdd, Int.reduceSub, Int.reduceNeg, reduceCtorEq, Nat.reduceShiftRight, Nat.reduceAnd, Nat.reduceBNe, g0, g1, g9, g10, g11, g12, fl, Bool.not_true, w1]
        refine W_inv (fun q f τ => ∃ (j : Nat) (a : AV) (avs : List AV), q = d.length - j ∧ j ≤ d.length ∧ Room τ ∧ Ext τ1 τ ∧ ExS τ a avs ∧ (∀ i ∈ ids a, τ1.n.val ≤ i.val) ∧ RowsE τ1 τ (ids a) avs (l ++ (negR d).take j) ∧ (vv 9).get f = .int .i64 (k : Int) ∧ (vv 10).get f = tsR C ∧ (vv 11).get f = tsR D ∧ (vv 15).get f = a ∧ (vv 16).get f = .int .i64 (j : Int)) ?_ ⟨0, a, avs, rfl, by omega, hr2, hx2, own, hge, by rw [List.take_zero, List.append_nil]; exact rows, ?_⟩
        rotate_left
        · simp only [go_sem, ↓reduceIte, Nat.reduceMod, Nat.reduceEqDiff, Nat.reduceAdd, Nat.reduceMul, Nat.reduceSub, Nat.reduceLeDiff, Nat.reduceLT, Int.reduceEq, Int.reduceLT, Int.reduceLE, Int.reduceAdd, Int.reduceSub, Int.reduceNeg, reduceCtorEq, Nat.reduceShiftRight, Nat.reduceAnd, Nat.reduceBNe, g9, g10, g11]
          simp
        rintro q f τ ⟨j, a, avs, rfl, hj, hr3, hx3, own, hge, rows, g9, g10, g11, g15, g16⟩
        have hnl : (negR d).length = d.length := by unfold negR; rw [List.length_map]
        have hml := rows.len
        rw [List.length_append, List.length_take] at hml
        by_cases c1 : j < d.length
        · have hxr := hdr _ (List.getElem_mem c1)
          have hja := fun t => (hD t).ia c1 1 .i64 t
          simp only [Nat.mul_one] at hja
          have hld := (hD τ).i64 c1 (ext_self τ)
          have en : IntKind.wrap .i64 (-d[j]) = -d[j] := wrap_i64 (by omega) (by omega)
          have ej : IntKind.wrap .i64 ((j : Int) + 1) = ((j + 1 : Nat) : Int) := by rw [wrap_i64 (by omega) (by omega)]; omega
          have hra := hr3.push (.cells [.int .i64 (-d[j])])
          have oa := push_self τ (.cells [.int .i64 (-d[j])])
          obtain ⟨τa, hτa⟩ : ∃ τa, τa = τ.push (.cells [.int .i64 (-d[j])]) := ⟨_, rfl⟩
          have na : τa.n.val = τ.n.val + 1 := by rw [hτa, push_n]
          have olda : ∀ i : Vm.Id, i.val < τ.n.val → τa.obj i = τ.obj i := fun i hi => by rw [hτa]; exact push_old hi
          have fb1 := vblit_push 1 [.int .i64 (-d[j])] τ
          rw [← hτa] at hra oa fb1
          have hrb := hra.push (.cells [.sl τ.n 0 1 1 0])
          have ob := push_self τa (.cells [.sl τ.n 0 1 1 0])
          have fb2 := vblit_push 1 [.sl τ.n 0 1 1 0] τa
          obtain ⟨τb, hτb⟩ : ∃ τb, τb = τa.push (.cells [.sl τ.n 0 1 1 0]) := ⟨_, rfl⟩
          have nb : τb.n.val = τ.n.val + 2 := by rw [hτb, push_n, na]
          have oldb : ∀ i : Vm.Id, i.val < τ.n.val + 1 → τb.obj i = τa.obj i := fun i hi => by rw [hτb]; exact push_old (by omega)
          rw [← hτb] at hrb ob fb2
          have ownb : ExS τb a avs := own.frame fun i hi => by
            have := own.lt hr3 i hi
            rw [oldb i (by omega), olda i this]
          obtain ⟨a', τ', i0, q1, q2, q3, q4, q5, q6, q7⟩ := ownb.app hrb (y := τa.n) (x := .sl τ.n 0 1 1 0) ob 24 (by unfold limit; omega) (by unfold limit; omega)
          have hid : ∀ i ∈ ids a', i.val = τ.n.val + 2 := fun i hi => by rw [q5, List.mem_singleton] at hi; rw [hi, q6, nb]
          have hkeep : ∀ i, i ∉ ids a → i.val < τ.n.val → τ'.obj i = τ.obj i := fun i hi hl => by rw [q7 i hi (by omega), oldb i (by omega), olda i hl]
          have et : (negR d).take (j + 1) = (negR d).take j ++ [[-d[j]]] := by
            rw [← List.take_append_getElem (by omega : j < (negR d).length)]
            unfold negR
            rw [List.getElem_map]
          have hn3 := hx3.n
          have rows' : RowsE τ1 τ' (ids a') (avs ++ [.sl τ.n 0 1 1 0]) (l ++ (negR d).take (j + 1)) := by
            rw [et, ← List.append_assoc]
            refine RowsE.snoc (.inr ⟨τ.n, -d[j], rfl, rfl, ?_, hn3, by omega, fun hm => by have := hid _ hm; omega⟩) (rows.frame hkeep (fun i hi hm => by have := hid i hm; omega) (by omega))
            rw [q7 τ.n (fun hm => by have := own.lt hr3 _ hm; omega) (by omega), oldb _ (by omega), oa]
          simp only [go_sem, ↓reduceIte, Nat.reduceMod, Nat.reduceEqDiff, Nat.reduceAdd, Nat.reduceMul, Nat.reduceSub, Nat.reduceLeDiff, Nat.reduceLT, Int.reduceEq, Int.reduceLT, Int.reduceLE, Int.reduceAdd, Int.reduceSub, Int.reduceNeg, reduceCtorEq, Nat.reduceShiftRight, Nat.reduceAnd, Nat.reduceBNe, g9, g10, g11, g15, g16, hia1, hld1, (hD τ).vlen, Int.ofNat_lt, c1, hja, hld, en, fb1, fb2, q1, ej]
          exact ⟨d.length - (j + 1), by omega, j + 1, a', _, rfl, by omega, q3, ⟨by omega, fun i hi => by rw [hkeep i (fun hm => by have := hge i hm; omega) (by omega)]; exact hx3.old i hi⟩, q2, fun i hi => by have := hid i hi; omega, rows', rfl, rfl⟩
        · have ejl : j = d.length := by omega
          subst ejl
          rw [List.take_of_length_le (by omega)] at rows
          have r2 := rows.rows2 own hx3 hr3
          obtain ⟨ok2, out2, f2, told2⟩ := solveT_ok τ hr3 r2 (fun e he => by
            rcases List.mem_append.mp he with he | he
            · exact hi64 e he
            · obtain ⟨y, hy, rfl⟩ := List.mem_map.mp he
              intro z hz
              rw [List.mem_singleton] at hz
              have := hdr y hy; omega) (n := k) (by omega) (by rw [List.length_append, hnl]; omega) (fun e he => by
            rcases List.mem_append.mp he with he | he
            · exact hl1 e he
            · obtain ⟨y, hy, rfl⟩ := List.mem_map.mp he
              simp)
          obtain ⟨rfl, ho2, hA, hB⟩ := nfo toldL told2
          have hb2 := tsO_bools τ (out := out2) (by unfold limit; omega)
          have fhA := holds_ok τ (tsR_rows τ C hCl' hCc') hb2 (by rw [ho2]; exact hrg)
          have fhB := holds_ok τ (tsR_rows τ D hDl' hDc') hb2 (by rw [ho2]; exact hrg1)
          rw [hA] at fhA
          rw [hB] at fhB
          have vy := hb2.vlen
          rw [ho2] at vy
          simp only [go_sem, ↓reduceIte, Nat.reduceMod, Nat.reduceEqDiff, Nat.reduceAdd, Nat.reduceMul, Nat.reduceSub, Nat.reduceLeDiff, Nat.reduceLT, Int.reduceEq, Int.reduceLT, Int.reduceLE, Int.reduceAdd, Int.reduceSub, Int.reduceNeg, reduceCtorEq, Nat.reduceShiftRight, Nat.reduceAnd, Nat.reduceBNe, g9, g10, g11, g15, g16, hia1, hld1, (hD τ).vlen, Int.ofNat_lt, c1, f2, vy, fhA, fhB, Bool.not_false]
          exact settled_bool (hx1.trans hx3) (by simp)
    · refine W_inv (fun q f τ => ∃ (i : Nat) (S : List Bool), q = k - i ∧ i ≤ k ∧ S.length = k ∧ τ = Sx t0 [.cells (S.map .bool)] ∧ (vv 0).get f = v ∧ (vv 1).get f = cv ∧ (vv 3).get f = x ∧ (vv 9).get f = .int .i64 (k : Int) ∧ (vv 10).get f = tsR C ∧ (vv 11).get f = tsR D ∧ (vv 12).get f = .sl (nm t0 0) 0 k k 0 ∧ (vv 13).get f = .int .i64 (i : Int)) ?_ ⟨0, List.replicate k false, rfl, by omega, by simp, by simp, ?_⟩
      rotate_left
      · simp only [go_sem, ↓reduceIte, Nat.reduceMod, Nat.reduceEqDiff, Nat.reduceAdd, Nat.reduceMul, Nat.reduceSub, Nat.reduceLeDiff, Nat.reduceLT, Int.reduceEq, Int.reduceLT, Int.reduceLE, Int.reduceAdd, Int.reduceSub, Int.reduceNeg, reduceCtorEq, Nat.reduceShiftRight, Nat.reduceAnd, Nat.reduceBNe]
        simp
      rintro q f τ ⟨i, S, rfl, hi, hS, rfl, g0, g1, g3, g9, g10, g11, g12, g13⟩
      have hob : (Sx t0 [.cells (S.map .bool)]).obj (nm t0 0) = .cells (S.map .bool) := Sx_obj? hr0 (by simp) (i := 0) rfl
      have hxs := hx0.trans (ext_Sx (s := t0) (l := [.cells (S.map .bool)]) hr0 (by simp))
      by_cases c1 : i < k
      · by_cases c2 : i < xs.length
        · have hia := fun t => hx.ia c2 1 .i64 t
          simp only [Nat.mul_one] at hia
          have hld := hx.ld c2 hxs
          have a2 : ∀ t, viaddr 1 (.sl (nm t0 0) 0 k k 0) (.int .i64 (i : Int)) t = .ok (.ptr (nm t0 0) i) t := fun t => by
            have := viaddr_sl (k := .i64) (b := nm t0 0) (o := 0) (len := k) (cap := k) (ex := 0) (i := i) c1 t
            rw [Nat.zero_add] at this; exact this
          have a3 : vstore 1 (.ptr (nm t0 0) i) (.bool xs[i]) (Sx t0 [.cells (S.map .bool)]) = .ok Vm.undef (Sx t0 [.cells ((S.set i xs[i]).map .bool)]) := by
            rw [vstore_el hob rfl (by rw [List.length_map]; omega), Sx_put hr0 (by simp) (by simp), List.map_set]; rfl
          have ei : IntKind.wrap .i64 ((i : Int) + 1) = ((i + 1 : Nat) : Int) := by rw [wrap_i64 (by omega) (by omega)]; omega
          simp only [go_sem, ↓reduceIte, Nat.reduceMod, Nat.reduceEqDiff, Nat.reduceAdd, Nat.reduceMul, Nat.reduceSub, Nat.reduceLeDiff, Nat.reduceLT, Int.reduceEq, Int.reduceLT, Int.reduceLE, Int.reduceAdd, Int.reduceSub, Int.reduceNeg, reduceCtorEq, Nat.reduceShiftRight, Nat.reduceAnd, Nat.reduceBNe, g0, g1, g3, g9, g10, g11, g12, g13, Int.ofNat_lt, c1, hx.vlen, c2, hia, hld, a2, a3, ei]
          exact ⟨k - (i + 1), by omega, i + 1, _, rfl, by omega, by rw [List.length_set]; exact hS, rfl, rfl⟩
        · simp only [go_sem, ↓reduceIte, Nat.reduceMod, Nat.reduceEqDiff, Nat.reduceAdd, Nat.reduceMul, Nat.reduceSub, Nat.reduceLeDiff, Nat.reduceLT, Int.reduceEq, Int.reduceLT, Int.reduceLE, Int.reduceAdd, Int.reduceSub, Int.reduceNeg, reduceCtorEq, Nat.reduceShiftRight, Nat.reduceAnd, Nat.reduceBNe, g0, g1, g3, g9, g10, g11, g12, g13, Int.ofNat_lt, c1, hx.vlen, c2]
          exact ⟨S, hS, rfl⟩
      · simp only [go_sem, ↓reduceIte, Nat.reduceMod, Nat.reduceEqDiff, Nat.reduceAdd, Nat.reduceMul, Nat.reduceSub, Nat.reduceLeDiff, Nat.reduceLT, Int.reduceEq, Int.reduceLT, Int.reduceLE, Int.reduceAdd, Int.reduceSub, Int.reduceNeg, reduceCtorEq, Nat.reduceShiftRight, Nat.reduceAnd, Nat.reduceBNe, g0, g1, g3, g9, g10, g11, g12, g13, Int.ofNat_lt, c1, hx.vlen]
        exact ⟨S, hS, rfl⟩
end Go.Proofs.Ytggeadnjikpjnaa
namespace Go.Vm
set_option linter.unusedVariables false
section
variable {H : Type} {enc : TypeId × Value → H} {P : Program} {w : World}
theorem got_bool1 {i : TypeId} (hi : P.underlying i = some .bool) {n : Nat} {cs : List Value} {x : DataW H × List MemPlace} (h : DataW.trod enc P w 0 (fun _ => true) true n i cs = some x) : ∃ (m : Bool) (avs : List AV), Got w 1 RBo cs m avs := by
  obtain ⟨m, rfl, rfl⟩ := DataW.trod_bool hi h
  exact ⟨m, _, rfl, RL.cons (.bool _) (RL.nil _ _), by simp; rfl, by simp; exact ov_bool _ _, fun rest => ⟨rest, rfl⟩⟩
theorem got_bools {si i : TypeId} (hs : P.underlying si = some (.slice i)) (hi : P.underlying i = some .bool) (ci : P.cellsOf i = 1) (bi : 1 ≤ P.bytesOf i) {n : Nat} {cs : List Value} {x : DataW H × List MemPlace} (h : DataW.trod enc P w 0 (fun _ => true) true n si cs = some x) (hz : sized P si x.1) :
    ∃ (u : Value) (v : AV) (l : List Bool), cs = [u] ∧ RV (E1 w) w v u ∧ Bools St.empty v l :=
  got_slice hs ci (by omega) bi h hz fun n _ cs' y hy _ => got_bool1 hi hy
end
end Go.Vm
namespace Go.Proofs.Ytggeadnjikpjnaa
open Go Go.Vm
theorem c4 : Try.prog.cellsOf 4 = 1 := by kernel_rfl
theorem b4 : 1 ≤ Try.prog.bytesOf 4 := by decide +kernel
end Go.Proofs.Ytggeadnjikpjnaa
