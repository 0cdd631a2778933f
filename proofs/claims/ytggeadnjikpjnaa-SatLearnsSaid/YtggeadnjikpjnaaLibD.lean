/- Functions of the program: going on from what holds. No condition. -/
import Derived.Test.YtggeadnjikpjnaaLibC
namespace Go.Vm
set_option linter.unusedVariables false
theorem nodup_le : ∀ (n : Nat) (l : List Nat), l.Nodup → (∀ x ∈ l, 1 ≤ x ∧ x ≤ n) → l.length ≤ n := by
  intro n
  induction n with
  | zero =>
    intro l _ h
    cases l with
    | nil => exact Nat.le_refl _
    | cons a l => have := h a List.mem_cons_self; omega
  | succ n ih =>
    intro l hd h
    have h1 : (l.erase (n + 1)).Nodup := hd.erase _
    have h2 := ih (l.erase (n + 1)) h1 fun x hx => by
      have hx2 := (List.Nodup.mem_erase_iff hd).mp hx
      have := h x hx2.2
      have hne := hx2.1
      omega
    have h3 : l.length ≤ (l.erase (n + 1)).length + 1 := by rw [List.length_erase]; split <;> omega
    omega
theorem litV_neg (val : List Int) {x : Int} (hx : x ≠ 0) : litV val (-x) = -litV val x := by
  unfold litV
  by_cases h : x < 0
  · rw [if_pos h, if_neg (by omega), Int.natAbs_neg]; omega
  · rw [if_neg h, if_pos (by omega), Int.natAbs_neg]
/-- What holds of a solver's trail. -/
structure Wf (X : SV) : Prop where
  len : X.val.length = X.n + 1
  nd : (X.tr.map Int.natAbs).Nodup
  rng : ∀ x ∈ X.tr, x ≠ 0 ∧ x.natAbs ≤ X.n
  vb : ∀ v ∈ X.val, -1 ≤ v ∧ v ≤ 1
  vt : ∀ x : Int, x ≠ 0 → x.natAbs ≤ X.n → (litV X.val x = 1 ↔ x ∈ X.tr)
  cl : ∀ c ∈ X.cl, c ≠ [] ∧ c.Nodup ∧ ∀ x ∈ c, x ≠ 0 ∧ x.natAbs ≤ X.n
  occ : ∀ x i : Int, i ∈ lookI X.inn x ↔ ∃ k : Nat, i = (k : Int) ∧ ∃ c, X.cl[k]? = some c ∧ x ∈ c
  done : X.done ≤ X.tr.length
section
variable {X : SV} (w : Wf X)
include w
theorem Wf.trlen : X.tr.length ≤ X.n := by
  have := nodup_le X.n (X.tr.map Int.natAbs) w.nd fun x hx => by
    obtain ⟨y, hy, rfl⟩ := List.mem_map.mp hx
    have := w.rng y hy
    omega
  rwa [List.length_map] at this
theorem Wf.lb (x : Int) : -1 ≤ litV X.val x ∧ litV X.val x ≤ 1 := by
  have h : -1 ≤ X.val.getD x.natAbs 0 ∧ X.val.getD x.natAbs 0 ≤ 1 := by
    rw [List.getD_eq_getElem?_getD]
    cases e : X.val[x.natAbs]? with
    | none => simp
    | some v => exact w.vb v (List.mem_of_getElem? e)
  unfold litV
  split <;> omega
theorem Wf.neg {x : Int} (h0 : x ≠ 0) (hn : x.natAbs ≤ X.n) : litV X.val x = -1 ↔ -x ∈ X.tr := by
  rw [← w.vt (-x) (by omega) (by omega), litV_neg _ h0]; omega
theorem Wf.zero {x : Int} (h0 : x ≠ 0) (hn : x.natAbs ≤ X.n) : litV X.val x = 0 ↔ x ∉ X.tr ∧ -x ∉ X.tr := by
  rw [← w.vt x h0 hn, ← w.neg h0 hn]
  have := w.lb x
  omega
theorem Wf.put {x r : Int} (h0 : x ≠ 0) (hn : x.natAbs ≤ X.n) (hz : litV X.val x = 0) : Wf (putX X x r) := by
  have hzz := (w.zero h0 hn).mp hz
  refine ⟨by rw [putX_val, List.length_set]; exact w.len, ?_, ?_, ?_, ?_, w.cl, w.occ, ?_⟩
  · rw [putX_tr, List.map_append]
    refine List.nodup_append.mpr ⟨w.nd, by simp, fun a ha b hb e => ?_⟩
    obtain ⟨y, hy, rfl⟩ := List.mem_map.mp ha
    simp only [List.map_cons, List.map_nil, List.mem_singleton] at hb
    rw [hb] at e
    rcases Int.natAbs_eq_natAbs_iff.mp e with e | e
    · rw [e] at hy; exact hzz.1 hy
    · rw [e] at hy; exact hzz.2 hy
  · intro y hy
    rw [putX_tr, List.mem_append, List.mem_singleton] at hy
    rcases hy with hy | rfl
    · exact w.rng y hy
    · exact ⟨h0, hn⟩
  · intro v hv
    rw [putX_val] at hv
    rcases List.mem_or_eq_of_mem_set hv with hv | hv
    · exact w.vb v hv
    · rw [hv]; split <;> omega
  · intro y hy0 hyn
    rw [putX_tr, List.mem_append, List.mem_singleton, ← w.vt y hy0 hyn]
    have hl : x.natAbs < X.val.length := by rw [w.len]; omega
    have hg : ∀ j, (X.val.set x.natAbs (if x < 0 then -1 else 1)).getD j 0 = if j = x.natAbs then (if x < 0 then -1 else 1) else X.val.getD j 0 := by
      intro j
      rw [List.getD_eq_getElem?_getD, List.getElem?_set, List.getD_eq_getElem?_getD]
      by_cases e : x.natAbs = j
      · subst e; rw [if_pos rfl, if_pos hl, if_pos rfl]; rfl
      · rw [if_neg e, if_neg (fun h => e h.symm)]
    have hzero : ∀ y : Int, y.natAbs = x.natAbs → litV X.val y = 0 := fun y hy => by
      rcases Int.natAbs_eq_natAbs_iff.mp hy with e | e
      · rw [e]; exact hz
      · rw [e, litV_neg _ h0, hz]; rfl
    have key : litV (putX X x r).val y = if y.natAbs = x.natAbs then (if y = x then 1 else -1) else litV X.val y := by
      rw [putX_val]
      unfold litV
      rw [hg]
      by_cases e : y.natAbs = x.natAbs
      · rw [if_pos e, if_pos e]
        by_cases e2 : y = x
        · subst e2; rw [if_pos rfl]; by_cases h : y < 0 <;> simp [h]
        · rw [if_neg e2]
          have : y = -x := by omega
          subst this
          by_cases h : x < 0
          · rw [if_neg (by omega), if_pos h]
          · rw [if_pos (by omega), if_neg h]
      · rw [if_neg e, if_neg e]
    rw [key]
    by_cases e : y.natAbs = x.natAbs
    · have hzy := hzero y e
      rw [if_pos e, hzy]
      by_cases e2 : y = x
      · rw [if_pos e2]; simp [e2]
      · rw [if_neg e2]; constructor
        · intro h; omega
        · rintro (h | h)
          · omega
          · exact absurd h e2
    · rw [if_neg e]
      constructor
      · exact .inl
      · rintro (h | h)
        · exact h
        · rw [h] at e; exact absurd rfl e
  · rw [putX_done, putX_tr, List.length_append]; have := w.done; omega
/-- What a clause tells: it holds, or two of it are open; one is left; none. -/
theorem Wf.state {c : List Int} (hd : c.Nodup) (hr : ∀ x ∈ c, x ≠ 0 ∧ x.natAbs ≤ X.n) :
    (stateL X.val 0 c = (0, true) ∧ ((∃ x ∈ c, litV X.val x = 1) ∨ ∃ x ∈ c, ∃ y ∈ c, x ≠ y ∧ litV X.val x = 0 ∧ litV X.val y = 0)) ∨
    (∃ u, stateL X.val 0 c = (u, true) ∧ u ≠ 0 ∧ u ∈ c ∧ litV X.val u = 0 ∧ ∀ y ∈ c, y ≠ u → litV X.val y = -1) ∨
    (stateL X.val 0 c = (0, false) ∧ ∀ y ∈ c, litV X.val y = -1) := by
  have one : ∀ (c : List Int) (u : Int), u ≠ 0 → u ∉ c → c.Nodup → (∀ x ∈ c, x ≠ 0) → litV X.val u = 0 →
      (stateL X.val u c = (0, true) ∧ ((∃ x ∈ c, litV X.val x = 1) ∨ ∃ y ∈ c, litV X.val y = 0)) ∨ (stateL X.val u c = (u, true) ∧ ∀ y ∈ c, litV X.val y = -1) := by
    intro c
    induction c with
    | nil => intro u hu _ _ _ _; right; exact ⟨by simp [stateL, hu], fun y hy => by cases hy⟩
    | cons a c ih =>
      intro u hu hn hd h0 hz
      have hla := w.lb a
      rw [stateL]
      by_cases h1 : 0 < litV X.val a
      · rw [if_pos (.inl h1)]; left; exact ⟨rfl, .inl ⟨a, List.mem_cons_self, by omega⟩⟩
      · by_cases h2 : litV X.val a = 0
        · rw [if_pos (.inr ⟨h2, hu⟩)]; left; exact ⟨rfl, .inr ⟨a, List.mem_cons_self, h2⟩⟩
        · rw [if_neg (by rintro (q | q); exact h1 q; exact h2 q.1), if_neg h2]
          rcases ih u hu (fun h => hn (List.mem_cons_of_mem _ h)) (List.nodup_cons.mp hd).2 (fun x hx => h0 x (List.mem_cons_of_mem _ hx)) hz with ⟨i1, i2⟩ | ⟨i1, i2⟩
          · left
            refine ⟨i1, i2.imp ?_ ?_⟩
            · rintro ⟨x, hx, e⟩; exact ⟨x, List.mem_cons_of_mem _ hx, e⟩
            · rintro ⟨x, hx, e⟩; exact ⟨x, List.mem_cons_of_mem _ hx, e⟩
          · right
            refine ⟨i1, fun y hy => ?_⟩
            rcases List.mem_cons.mp hy with rfl | hy
            · omega
            · exact i2 y hy
  induction c with
  | nil => right; right; exact ⟨rfl, fun y hy => by cases hy⟩
  | cons a c ih =>
    have hla := w.lb a
    have ha := hr a List.mem_cons_self
    have hd' := List.nodup_cons.mp hd
    rw [stateL]
    by_cases h1 : 0 < litV X.val a
    · rw [if_pos (.inl h1)]; left; exact ⟨rfl, .inl ⟨a, List.mem_cons_self, by omega⟩⟩
    · by_cases h2 : litV X.val a = 0
      · rw [if_neg (by rintro (q | q); exact h1 q; exact q.2 rfl), if_pos h2]
        rcases one c a ha.1 hd'.1 hd'.2 (fun x hx => (hr x (List.mem_cons_of_mem _ hx)).1) h2 with ⟨i1, i2⟩ | ⟨i1, i2⟩
        · left
          refine ⟨i1, i2.imp ?_ ?_⟩
          · rintro ⟨x, hx, e⟩; exact ⟨x, List.mem_cons_of_mem _ hx, e⟩
          · rintro ⟨x, hx, e⟩; exact ⟨a, List.mem_cons_self, x, List.mem_cons_of_mem _ hx, fun e => by rw [e] at hd'; exact hd'.1 hx, h2, e⟩
        · right; left
          refine ⟨a, i1, ha.1, List.mem_cons_self, h2, fun y hy hne => ?_⟩
          rcases List.mem_cons.mp hy with rfl | hy
          · exact absurd rfl hne
          · exact i2 y hy
      · rw [if_neg (by rintro (q | q); exact h1 q; exact h2 q.1), if_neg h2]
        rcases ih hd'.2 (fun x hx => hr x (List.mem_cons_of_mem _ hx)) with ⟨i1, i2⟩ | ⟨u, i1, i2, i3, i4, i5⟩ | ⟨i1, i2⟩
        · left
          refine ⟨i1, i2.imp ?_ ?_⟩
          · rintro ⟨x, hx, e⟩; exact ⟨x, List.mem_cons_of_mem _ hx, e⟩
          · rintro ⟨x, hx, y, hy, e⟩; exact ⟨x, List.mem_cons_of_mem _ hx, y, List.mem_cons_of_mem _ hy, e⟩
        · right; left
          refine ⟨u, i1, i2, List.mem_cons_of_mem _ i3, i4, fun y hy hne => ?_⟩
          rcases List.mem_cons.mp hy with rfl | hy
          · omega
          · exact i5 y hy hne
        · right; right
          refine ⟨i1, fun y hy => ?_⟩
          rcases List.mem_cons.mp hy with rfl | hy
          · omega
          · exact i2 y hy
end
/-- A clause that is no matter: one of it holds, or two of it weren't turned among what was processed. -/
def okC (tr P c : List Int) : Prop := (∃ x ∈ c, x ∈ tr) ∨ ∃ x ∈ c, ∃ y ∈ c, x ≠ y ∧ -x ∉ P ∧ -y ∉ P
def Watch (X : SV) : Prop := ∀ c ∈ X.cl, okC X.tr (X.tr.take X.done) c
theorem okC.mono {tr tr' P P' c : List Int} (h : okC tr P c) (ht : ∀ x ∈ tr, x ∈ tr') (hp : ∀ x ∈ P', x ∈ P) : okC tr' P' c := by
  rcases h with ⟨x, hx, h⟩ | ⟨x, hx, y, hy, h1, h2, h3⟩
  · exact .inl ⟨x, hx, ht x h⟩
  · exact .inr ⟨x, hx, y, hy, h1, fun h => h2 (hp _ h), fun h => h3 (hp _ h)⟩
/-- A step of going on, for whatever holds. -/
structure Step (J : SV → Prop) : Prop where
  put : ∀ (X : SV) (k : Nat) (c : List Int) (u : Int), Wf X → J X → X.cl[k]? = some c → u ∈ c → litV X.val u = 0 → (∀ y ∈ c, y ≠ u → litV X.val y = -1) → J (putX X u (k : Int))
  done : ∀ (X : SV) (d : Nat), J X → J (X.sD d)
end Go.Vm
namespace Go.Vm
set_option linter.unusedVariables false
theorem Sol0.lookA {s σ : St} {b : Id} {F : Fx} {tv sv lv : AV} {es : List (AV × AV)} {X : SV} (h : Sol0 s σ b F tv sv lv es X) (k : Int) : ∃ a, (∀ t : St, mget es (.int .i64 k) (.ok .nils t) (fun v => .ok v t) = .ok a t) ∧ OwS σ a ((lookI X.inn k).map (.int .i64)) := by
  obtain ⟨a, E1, E2, es', q1, q2, q3, q4⟩ := ents_upd h.he k
  exact ⟨a, q2, q1⟩
theorem Wf.sD {X : SV} (w : Wf X) {d : Nat} (hd : d ≤ X.tr.length) : Wf (X.sD d) := ⟨w.len, w.nd, w.rng, w.vb, w.vt, w.cl, w.occ, hd⟩
theorem nodup_map_on {α β : Type} {f : α → β} : ∀ {l : List α}, (∀ x ∈ l, ∀ y ∈ l, f x = f y → x = y) → l.Nodup → (l.map f).Nodup
  | [], _, _ => List.nodup_nil
  | a :: l, h, hd => by
    have hd := List.nodup_cons.mp hd
    rw [List.map_cons, List.nodup_cons]
    refine ⟨fun hm => ?_, nodup_map_on (fun x hx y hy e => h x (List.mem_cons_of_mem _ hx) y (List.mem_cons_of_mem _ hy) e) hd.2⟩
    obtain ⟨y, hy, e⟩ := List.mem_map.mp hm
    have := h y (List.mem_cons_of_mem _ hy) a List.mem_cons_self e
    rw [this] at hy; exact hd.1 hy
theorem nodup_le2 (c : List Int) (n : Nat) (hd : c.Nodup) (hr : ∀ x ∈ c, x ≠ 0 ∧ x.natAbs ≤ n) : c.length ≤ 2 * n := by
  have h1 := nodup_le n ((c.filter fun x => decide (0 < x)).map Int.natAbs) (by
    refine nodup_map_on ?_ (hd.filter _)
    intro x hx y hy e
    have h1 := (List.mem_filter.mp hx).2
    have h2 := (List.mem_filter.mp hy).2
    simp at h1 h2; omega) fun x hx => by
      obtain ⟨y, hy, rfl⟩ := List.mem_map.mp hx
      have := hr y (List.mem_filter.mp hy).1; omega
  have h2 := nodup_le n ((c.filter fun x => !decide (0 < x)).map Int.natAbs) (by
    refine nodup_map_on ?_ (hd.filter _)
    intro x hx y hy e
    have h1 := (List.mem_filter.mp hx).2
    have h2 := (List.mem_filter.mp hy).2
    simp at h1 h2; omega) fun x hx => by
      obtain ⟨y, hy, rfl⟩ := List.mem_map.mp hx
      have := hr y (List.mem_filter.mp hy).1; omega
  have h3 : c.length = (c.filter fun x => decide (0 < x)).length + (c.filter fun x => !decide (0 < x)).length := by
    rw [← List.countP_eq_length_filter, ← List.countP_eq_length_filter]
    have := List.length_eq_countP_add_countP (p := fun x : Int => decide (0 < x)) (l := c)
    have e : (fun x : Int => !decide (0 < x)) = fun a => decide (¬ decide (0 < a) = true) := by
      funext x
      by_cases h : 0 < x
      · rw [decide_eq_true h]; rfl
      · rw [decide_eq_false h]; rfl
    rw [e]; exact this
  simp only [List.length_map] at h1 h2
  omega
theorem neg_mem {tr : List Int} {n : Int} {d : Nat} (hn : tr[d]? = some n) : tr.take (d + 1) = tr.take d ++ [n] := by
  rw [List.take_add_one, hn]; rfl
end Go.Vm
namespace Go.Proofs.Ytggeadnjikpjnaa
open Go Go.Vm
set_option linter.unusedVariables false
set_option linter.unusedSimpArgs false
section
variable {s σ : St} {b : Vm.Id} {G : Fx} {tv sv lv : AV} {es : List (AV × AV)} {X : SV}
/-- What going on comes to. -/
structure Gone (J : SV → Prop) (X : SV) (i : Int) (X' : SV) : Prop where
  wf : Wf X'
  j : J X'
  n : X'.n = X.n
  cl : X'.cl = X.cl
  inn : X'.inn = X.inn
  st : X'.st = X.st
  tr : X.tr <+: X'.tr
  closed : X'.closed = X.closed
  dn : X.done ≤ X'.done
  out : (i = -1 ∧ Watch X' ∧ X'.done = X'.tr.length) ∨ ∃ (k : Nat) (c : List Int) (y : Int) (j : Nat), i = (k : Int) ∧ X'.cl[k]? = some c ∧ (∀ y ∈ c, litV X'.val y = -1) ∧ y ∈ c ∧ X.done ≤ j ∧ X'.tr[j]? = some (-y)
theorem goes_ok (h : Sol0 s σ b G tv sv lv es X) (hw : Wf X) (hwt : Watch X) (hsm : Sm X) {J : SV → Prop} (hJ : Step J) (hJ0 : J X) : ∃ i σ' X', CA F.sat_Solver_goes [.ptr b 0] σ = .ok (.int .i64 i) σ' ∧ Gone J X i X' ∧ Sol s σ' b G X' := by
  have key : ∃ v σ' X', CA F.sat_Solver_goes [.ptr b 0] σ = .ok v σ' ∧ (∃ i, v = .int .i64 i ∧ Gone J X i X') ∧ Sol s σ' b G X' := by
    refine fn_sol h code_sat_Solver_goes (by simp) ?_
    simp only [go_sem, ↓reduceIte, Nat.reduceMod, Nat.reduceEqDiff, Nat.reduceAdd, Nat.reduceMul, Nat.reduceSub, Nat.reduceLeDiff, Nat.reduceLT, Int.reduceEq, Int.reduceLT, Int.reduceLE, Int.reduceAdd, Int.reduceSub, Int.reduceNeg, reduceCtorEq, Nat.reduceShiftRight, Nat.reduceAnd, Nat.reduceBNe, Sx_nil]
    refine W_inv (fun k f τ => ∃ (Y : SV) (tv1 : AV), k = Y.n - Y.done ∧ Sol0 s τ b G tv1 sv lv es Y ∧ Wf Y ∧ Watch Y ∧ J Y ∧ Y.n = X.n ∧ Y.cl = X.cl ∧ Y.inn = X.inn ∧ Y.st = X.st ∧ X.tr <+: Y.tr ∧ Y.closed = X.closed ∧ X.done ≤ Y.done ∧ (vv 0).get f = .ptr b 0) ?_ ⟨X, tv, rfl, h, hw, hwt, hJ0, rfl, rfl, rfl, rfl, List.prefix_refl _, rfl, Nat.le_refl _, ?_⟩
    · rintro k f τ ⟨Y, tv1, rfl, h1, w1, wt1, j1, en, ec, ei, est, etr, ecl, ed, g0⟩
      have hsn : Y.n ≤ 1000000 := by rw [en]; exact hsm.n
      have htl := w1.trlen
      have hdn := w1.done
      have h2 := h1.sx (l := [.dead, .dead, .dead, .dead, .dead, .dead, .dead, .dead, .dead, .dead, .dead]) (by simp)
      have hlt := h1.ht.vlen
      rw [List.length_map] at hlt
      simp only [go_sem, ↓reduceIte, Nat.reduceMod, Nat.reduceEqDiff, Nat.reduceAdd, Nat.reduceMul, Nat.reduceSub, Nat.reduceLeDiff, Nat.reduceLT, Int.reduceEq, Int.reduceLT, Int.reduceLE, Int.reduceAdd, Int.reduceSub, Int.reduceNeg, reduceCtorEq, Nat.reduceShiftRight, Nat.reduceAnd, Nat.reduceBNe]
      rw [show τ = Sx τ [] from rfl]
      refine W_drawn h1.room _ (by simp) ?_
      simp only [List.nil_append, List.length_nil, List.length_cons, List.replicate_succ, List.replicate_zero]
      obtain ⟨τ2, hτ2⟩ : ∃ τ2, τ2 = Sx τ [.dead, .dead, .dead, .dead, .dead, .dead, .dead, .dead, .dead, .dead, .dead] := ⟨_, rfl⟩
      rw [← hτ2] at h2 ⊢
      by_cases c1 : Y.done < Y.tr.length
      rotate_left
      · have e1 : Y.done = Y.tr.length := by omega
        simp only [go_sem, ↓reduceIte, Nat.reduceMod, Nat.reduceEqDiff, Nat.reduceAdd, Nat.reduceMul, Nat.reduceSub, Nat.reduceLeDiff, Nat.reduceLT, Int.reduceEq, Int.reduceLT, Int.reduceLE, Int.reduceAdd, Int.reduceSub, Int.reduceNeg, reduceCtorEq, Nat.reduceShiftRight, Nat.reduceAnd, Nat.reduceBNe, h1.room, g0, h2.ob, solC, hlt, Int.ofNat_lt, c1]
        exact ⟨ov_int _ _ _, Y, ⟨-1, rfl, w1, j1, en, ec, ei, est, etr, ecl, ed, .inl ⟨rfl, wt1, e1⟩⟩, _, _, _, _, h2⟩
      · obtain ⟨n, hn⟩ : ∃ n, Y.tr[Y.done]? = some n := ⟨_, List.getElem?_eq_getElem c1⟩
        have hnm := List.mem_of_getElem? hn
        have hnr := w1.rng n hnm
        have h3 := h2.sx (l := [.dead, .dead, .dead, .dead, .dead, .dead, .dead, .dead, .dead, .dead, .dead, .dead]) (by simp)
        obtain ⟨τ3, hτ3⟩ : ∃ τ3, τ3 = Sx τ2 [.dead, .dead, .dead, .dead, .dead, .dead, .dead, .dead, .dead, .dead, .dead, .dead] := ⟨_, rfl⟩
        rw [← hτ3] at h3
        obtain ⟨q, hq1, hq2, qs, hq3, hq4⟩ := h3.ht.ia (k := Y.done) (by rw [List.length_map]; exact c1) .i64 τ3
        have hq2' : ∀ t, viaddr 1 tv1 (.int .i64 (Y.done : Int)) t = .ok (.ptr q Y.done) t := fun t => by
          obtain ⟨q', r1, r2, _⟩ := h3.ht.ia (k := Y.done) (by rw [List.length_map]; exact c1) .i64 t
          rw [r2]
          have := hq1.symm.trans r1
          injection this with e
          rw [e]
        rw [List.getElem?_map, hn] at hq4
        obtain ⟨τ4, e4, h4⟩ := h3.setDone (Y.done + 1)
        have ew : IntKind.wrap .i64 ((Y.done : Int) + 1) = ((Y.done + 1 : Nat) : Int) := by rw [wrap_i64 (by omega) (by omega)]; omega
        have ewn : IntKind.wrap .i64 (-n) = -n := wrap_i64 (by omega) (by omega)
        obtain ⟨a, ha1, ha2⟩ := h4.lookA (-n)
        have hav := ha2.vlen
        rw [List.length_map, SV.sD_inn] at hav
        have hlk : vlookup false .nils (.map G.m) (.int .i64 (-n)) false τ4 = .ok a τ4 := by rw [vlookup_int h4.om]; exact ha1 τ4
        simp only [go_sem, ↓reduceIte, Nat.reduceMod, Nat.reduceEqDiff, Nat.reduceAdd, Nat.reduceMul, Nat.reduceSub, Nat.reduceLeDiff, Nat.reduceLT, Int.reduceEq, Int.reduceLT, Int.reduceLE, Int.reduceAdd, Int.reduceSub, Int.reduceNeg, reduceCtorEq, Nat.reduceShiftRight, Nat.reduceAnd, Nat.reduceBNe, h1.room, g0, h2.ob, solC, hlt, Int.ofNat_lt, c1]
        rw [show τ2 = Sx τ2 [] from rfl]
        refine W_drawn h2.room _ (by simp) ?_
        simp only [List.nil_append, List.length_nil, List.length_cons, List.replicate_succ, List.replicate_zero]
        rw [← hτ3]
        simp only [go_sem, ↓reduceIte, Nat.reduceMod, Nat.reduceEqDiff, Nat.reduceAdd, Nat.reduceMul, Nat.reduceSub, Nat.reduceLeDiff, Nat.reduceLT, Int.reduceEq, Int.reduceLT, Int.reduceLE, Int.reduceAdd, Int.reduceSub, Int.reduceNeg, reduceCtorEq, Nat.reduceShiftRight, Nat.reduceAnd, Nat.reduceBNe, h2.room, g0, h3.ob, solC, hq2', hq3, wrap1_at hq4, Option.map_some, ew, ewn, e4, h4.ob, hlk, hav]
        have w4 : Wf (Y.sD (Y.done + 1)) := w1.sD (by omega)
        have il : (lookI Y.inn (-n)).length ≤ 100000000000 := by rw [ei]; exact hsm.inn (-n)
        refine W_inv (fun k f τ' => ∃ (j : Nat) (Z : SV) (tv2 : AV), k = (lookI Y.inn (-n)).length - j ∧ j ≤ (lookI Y.inn (-n)).length ∧ Sol0 s τ' b G tv2 sv lv es Z ∧ Wf Z ∧ J Z ∧ Z.n = Y.n ∧ Z.cl = Y.cl ∧ Z.inn = Y.inn ∧ Z.st = Y.st ∧ Y.tr <+: Z.tr ∧ Z.closed = Y.closed ∧ Z.done = Y.done + 1 ∧ (∀ (k : Nat) (c : List Int), Z.cl[k]? = some c → okC Z.tr (Z.tr.take (Y.done + 1)) c ∨ (k : Int) ∈ (lookI Y.inn (-n)).drop j) ∧ (vv 0).get f = .ptr b 0 ∧ (vv 43).get f = a ∧ (vv 44).get f = .int .i64 ((lookI Y.inn (-n)).length : Int) ∧ (vv 45).get f = .int .i64 (j : Int)) ?_ ⟨0, Y.sD (Y.done + 1), tv1, rfl, by omega, h4, w4, hJ.done _ _ j1, rfl, rfl, rfl, rfl, List.prefix_refl _, rfl, rfl, ?_, ?_⟩
        · rintro k f τ' ⟨j, Z, tv2, rfl, hj, hz, wz, jz, zn, zc, zi, zs, zt, zcl, zd, zinv, p0, p43, p44, p45⟩
          obtain ⟨a', hb1, hb2⟩ := hz.lookA (-n)
          have haa : a' = a := (ok_inj ((hb1 τ').symm.trans (ha1 τ'))).1
          subst haa
          rw [zi] at hb2
          have hvi := hb2.ints hz.room
          have ztr := wz.trlen
          by_cases d1 : j < (lookI Y.inn (-n)).length
          rotate_left
          · simp only [go_sem, ↓reduceIte, Nat.reduceMod, Nat.reduceEqDiff, Nat.reduceAdd, Nat.reduceMul, Nat.reduceSub, Nat.reduceLeDiff, Nat.reduceLT, Int.reduceEq, Int.reduceLT, Int.reduceLE, Int.reduceAdd, Int.reduceSub, Int.reduceNeg, reduceCtorEq, Nat.reduceShiftRight, Nat.reduceAnd, Nat.reduceBNe, p0, p43, p44, p45, Int.ofNat_lt, d1]
            have ej : j = (lookI Y.inn (-n)).length := by omega
            refine ⟨Z.n - Z.done, by omega, Z, tv2, rfl, hz, wz, fun c hc => ?_, jz, by rw [zn, en], by rw [zc, ec], by rw [zi, ei], by rw [zs, est], List.IsPrefix.trans etr zt, by rw [zcl, ecl], by omega⟩
            obtain ⟨k, hk⟩ := List.getElem?_of_mem hc
            rcases zinv k c hk with h | h
            · rw [zd]; exact h
            · rw [ej, List.drop_length] at h; cases h
          · have hmem := List.getElem_mem d1
            obtain ⟨kq, hkq, c, hc, hnc⟩ := (w1.occ (-n) ((lookI Y.inn (-n))[j])).mp hmem
            have hlj := hvi.i64 d1 (ext_self τ')
            rw [hkq] at hlj
            have hcm := List.mem_of_getElem? hc
            have hcc := w1.cl c hcm
            have hkl : kq < Z.cl.length := by rw [zc]; exact (List.getElem?_eq_some_iff.mp hc).1
            obtain ⟨r, r1, r2, rs, r3, r4⟩ := hz.hl.ia (k := kq) (by rw [List.length_map]; exact hkl) .i64 τ'
            rw [List.getElem?_map, zc, hc] at r4
            have hcr : ∀ x ∈ c, x ≠ 0 ∧ x.natAbs ≤ Z.n := fun x hx => by rw [zn]; exact hcc.2.2 x hx
            have hcl : c.length ≤ limit := by have := nodup_le2 c Z.n hcc.2.1 hcr; unfold limit; omega
            have hst := state_ok hz (tsI_ints τ' c hcl) hcr (by rw [zn]; exact hsn)
            have hdr : (lookI Y.inn (-n)).drop j = (kq : Int) :: (lookI Y.inn (-n)).drop (j + 1) := by rw [List.drop_eq_getElem_cons d1, hkq]
            rcases wz.state hcc.2.1 hcr with ⟨e1, e2⟩ | ⟨u, e1, e2, e3, e5, e6⟩ | ⟨e1, e2⟩
            · rw [e1] at hst
              simp only [go_sem, ↓reduceIte, Nat.reduceMod, Nat.reduceEqDiff, Nat.reduceAdd, Nat.reduceMul, Nat.reduceSub, Nat.reduceLeDiff, Nat.reduceLT, Int.reduceEq, Int.reduceLT, Int.reduceLE, Int.reduceAdd, Int.reduceSub, Int.reduceNeg, reduceCtorEq, Nat.reduceShiftRight, Nat.reduceAnd, Nat.reduceBNe, p0, p43, p44, p45, Int.ofNat_lt, d1, hvi.ia d1, hlj, hz.ob, solC, r2, r3, wrap1_at r4, Option.map_some, hst, Bool.not_true, ne_eq, not_true_eq_false]
              refine ⟨(lookI Y.inn (-n)).length - (j + 1), by omega, j + 1, Z, tv2, rfl, by omega, hz, wz, jz, zn, zc, zi, zs, zt, zcl, zd, fun k c' hk => ?_, ?_⟩
              · rcases zinv k c' hk with h | h
                · exact .inl h
                · rw [hdr] at h
                  rcases List.mem_cons.mp h with h | h
                  · left
                    have : k = kq := by omega
                    subst this
                    rw [zc, hc] at hk
                    cases hk
                    rcases e2 with ⟨x, hx, e⟩ | ⟨x, hx, y, hy, q1, q2, q3⟩
                    · exact .inl ⟨x, hx, (wz.vt x (hcr x hx).1 (hcr x hx).2).mp e⟩
                    · exact .inr ⟨x, hx, y, hy, q1, fun h => ((wz.zero (hcr x hx).1 (hcr x hx).2).mp q2).2 (List.mem_of_mem_take h), fun h => ((wz.zero (hcr y hy).1 (hcr y hy).2).mp q3).2 (List.mem_of_mem_take h)⟩
                  · exact .inr h
              · rw [wrap_i64 (by omega) (by omega)]; simp
            · rw [e1] at hst
              have hu := hcr u e3
              obtain ⟨τ5, tv3, g1, g2⟩ := put0_ok hz (x := u) (r := (kq : Int)) hu.2 (by rw [zn]; exact hsn) (by omega) (by rw [zs, est]; exact hsm.st)
              simp only [go_sem, ↓reduceIte, Nat.reduceMod, Nat.reduceEqDiff, Nat.reduceAdd, Nat.reduceMul, Nat.reduceSub, Nat.reduceLeDiff, Nat.reduceLT, Int.reduceEq, Int.reduceLT, Int.reduceLE, Int.reduceAdd, Int.reduceSub, Int.reduceNeg, reduceCtorEq, Nat.reduceShiftRight, Nat.reduceAnd, Nat.reduceBNe, p0, p43, p44, p45, Int.ofNat_lt, d1, hvi.ia d1, hlj, hz.ob, solC, r2, r3, wrap1_at r4, Option.map_some, hst, Bool.not_true, ne_eq, e2, not_false_eq_true, g1]
              refine ⟨(lookI Y.inn (-n)).length - (j + 1), by omega, j + 1, putX Z u kq, tv3, rfl, by omega, g2, wz.put hu.1 hu.2 e5, hJ.put Z kq c u wz jz (by rw [zc]; exact hc) e3 e5 e6, zn, zc, zi, zs, List.IsPrefix.trans zt (List.prefix_append _ _), zcl, zd, fun k c' hk => ?_, ?_⟩
              · have hle : Y.done + 1 ≤ Z.tr.length := by rw [← zd]; exact wz.done
                have htk : (putX Z u kq).tr.take (Y.done + 1) = Z.tr.take (Y.done + 1) := by rw [putX_tr, List.take_append_of_le_length hle]
                rw [htk]
                rcases zinv k c' hk with h | h
                · exact .inl (h.mono (fun x hx => by rw [putX_tr]; exact List.mem_append_left _ hx) fun x hx => hx)
                · rw [hdr] at h
                  rcases List.mem_cons.mp h with h | h
                  · left
                    have : k = kq := by omega
                    subst this
                    rw [putX_cl, zc, hc] at hk
                    cases hk
                    exact .inl ⟨u, e3, by rw [putX_tr]; simp⟩
                  · exact .inr h
              · rw [wrap_i64 (by omega) (by omega)]; simp
            · rw [e1] at hst
              simp only [go_sem, ↓reduceIte, Nat.reduceMod, Nat.reduceEqDiff, Nat.reduceAdd, Nat.reduceMul, Nat.reduceSub, Nat.reduceLeDiff, Nat.reduceLT, Int.reduceEq, Int.reduceLT, Int.reduceLE, Int.reduceAdd, Int.reduceSub, Int.reduceNeg, reduceCtorEq, Nat.reduceShiftRight, Nat.reduceAnd, Nat.reduceBNe, p0, p43, p44, p45, Int.ofNat_lt, d1, hvi.ia d1, hlj, hz.ob, solC, r2, r3, wrap1_at r4, Option.map_some, hst, Bool.not_false]
              refine ⟨ov_int _ _ _, Z, ⟨(kq : Int), rfl, wz, jz, by rw [zn, en], by rw [zc, ec], by rw [zi, ei], by rw [zs, est], List.IsPrefix.trans etr zt, by rw [zcl, ecl], by omega, .inr ⟨kq, c, -n, Y.done, rfl, by rw [zc]; exact hc, e2, hnc, ed, ?_⟩⟩, _, _, _, _, hz⟩
              obtain ⟨t, ht⟩ := zt
              rw [← ht, List.getElem?_append_left c1, hn, Int.neg_neg]
        · intro k c hk
          rw [SV.sD_cl] at hk
          by_cases hnc : -n ∈ c
          · right
            exact (w1.occ (-n) k).mpr ⟨k, rfl, c, hk, hnc⟩
          · left
            rw [SV.sD_tr, neg_mem hn]
            rcases wt1 c (List.mem_of_getElem? hk) with h | ⟨x, hx, y, hy, q1, q2, q3⟩
            · exact .inl h
            · refine .inr ⟨x, hx, y, hy, q1, fun h => ?_, fun h => ?_⟩
              · rcases List.mem_append.mp h with h | h
                · exact q2 h
                · rw [List.mem_singleton] at h; apply hnc; rw [← h, Int.neg_neg]; exact hx
              · rcases List.mem_append.mp h with h | h
                · exact q3 h
                · rw [List.mem_singleton] at h; apply hnc; rw [← h, Int.neg_neg]; exact hy
        · simp only [go_sem, ↓reduceIte, Nat.reduceMod, Nat.reduceEqDiff, Nat.reduceAdd, Nat.reduceMul, Nat.reduceSub, Nat.reduceLeDiff, Nat.reduceLT, Int.reduceEq, Int.reduceLT, Int.reduceLE, Int.reduceAdd, Int.reduceSub, Int.reduceNeg, reduceCtorEq, Nat.reduceShiftRight, Nat.reduceAnd, Nat.reduceBNe, g0]
          simp
    · simp only [go_sem, ↓reduceIte, Nat.reduceMod, Nat.reduceEqDiff, Nat.reduceAdd, Nat.reduceMul, Nat.reduceSub, Nat.reduceLeDiff, Nat.reduceLT, Int.reduceEq, Int.reduceLT, Int.reduceLE, Int.reduceAdd, Int.reduceSub, Int.reduceNeg, reduceCtorEq, Nat.reduceShiftRight, Nat.reduceAnd, Nat.reduceBNe]
  obtain ⟨v, σ', X', h1, ⟨i, rfl, h2⟩, h3⟩ := key
  exact ⟨i, σ', X', h1, h2, h3⟩
end
end Go.Proofs.Ytggeadnjikpjnaa
namespace Go.Proofs.Ytggeadnjikpjnaa
open Go Go.Vm
set_option linter.unusedVariables false
set_option linter.unusedSimpArgs false
theorem told_clone : F.slices_Clone_int_int.get BT = Clone_B := by kernel_rfl
theorem told_sort : F.slices_SortFunc_int_int.get BT = Sort_B := by kernel_rfl
theorem told_known : F.law18_known.get BT = true_B := by kernel_rfl
theorem law_known (s : St) : CA F.law18_known [] s = .ok (.bool true) s := cc_ok.mpr (.base _ _ _ _ _ (by rw [told_known]; rfl))
theorem clone_raw {σ σ' : St} {a r : AV} (h : WF noC C.slices_Clone_int_int [a] σ fun r0 s0 => r0 = r ∧ s0 = σ') : CA F.slices_Clone_int_int [a] σ = .ok r σ' :=
  cc_ok.mpr (.base _ _ _ _ _ (by rw [told_clone]; exact rawB_eq (by rw [show (Vm.fn 21).get (Vm.prog Go.Proofs.Try.prog) = C.slices_Clone_int_int from codeP_slices_Clone_int_int]; exact h)))
theorem clone_nil (σ : St) : CA F.slices_Clone_int_int [.nils] σ = .ok .nils σ := by
  refine clone_raw (WF_S (by simp) ?_)
  simp only [go_sem, ↓reduceIte, Nat.reduceMod, Nat.reduceEqDiff, Nat.reduceAdd, Nat.reduceMul, Nat.reduceSub, Nat.reduceLeDiff, Nat.reduceLT, Int.reduceEq, Int.reduceLT, Int.reduceLE, Int.reduceAdd, Int.reduceSub, Int.reduceNeg, reduceCtorEq, Nat.reduceShiftRight, Nat.reduceAnd, Nat.reduceBNe, Sx_nil]
theorem clone_emp (σ : St) (hr : Room σ) {i : Vm.Id} {cap : Nat} {cs : List AV} (h : σ.obj i = .cells cs) : CA F.slices_Clone_int_int [.sl i 0 0 cap 1] σ = .ok (.sl (nm σ 0) 0 0 0 0) (Sx σ [.cells []]) := by
  have hi := St.lt_of_obj hr h
  have hsl : IsSl σ (.sl i 0 0 cap 1) := .sl i 0 0 cap 1 cs (Nat.zero_le _) h hi (Nat.zero_le _)
  have hx := ext_Sx (s := σ) (l := [.cells []]) hr (by simp)
  have f1 := vapp_lit0 (s := σ) (L := [.cells []]) (sz := 1) (bytes := 8) (i := 0) hr (by simp) rfl (hsl.ext hx) (Nat.zero_le _) rfl
  refine clone_raw (WF_S (by simp) ?_)
  simp only [go_sem, ↓reduceIte, Nat.reduceMod, Nat.reduceEqDiff, Nat.reduceAdd, Nat.reduceMul, Nat.reduceSub, Nat.reduceLeDiff, Nat.reduceLT, Int.reduceEq, Int.reduceLT, Int.reduceLE, Int.reduceAdd, Int.reduceSub, Int.reduceNeg, reduceCtorEq, Nat.reduceShiftRight, Nat.reduceAnd, Nat.reduceBNe, hr, vnileq_sl hsl, ne_eq, not_false_eq_true, f1]
theorem clone_ok (σ : St) (hr : Room σ) {a : AV} {xs : List Int} (h : OwS σ a (xs.map (.int .i64))) (hne : xs ≠ []) (hl : xs.length ≤ 1000000) : CA F.slices_Clone_int_int [a] σ = .ok (.sl (nm σ 1) 0 xs.length xs.length 1) (Sx σ [.cells [], .cells (xs.map (.int .i64))]) := by
  have hlen := h.len
  rw [List.length_map] at hlen
  generalize hy : xs.map (AV.int .i64) = ys at *
  cases h with
  | nils => exact absurd (by cases xs with
      | nil => rfl
      | cons a l => simp at hy) hne
  | sl i len cap cs ho h1 h2 h3 h4 =>
    have hi := St.lt_of_obj hr ho
    have hsl : IsSl σ (.sl i 0 len cap 1) := .sl i 0 len cap 1 cs h4 ho hi (Nat.zero_le _)
    have hx := ext_Sx (s := σ) (l := [.cells []]) hr (by simp)
    have hl' : len = xs.length := hlen
    have hpos : len ≠ 0 := by rw [hl']; exact fun e => hne (List.eq_nil_of_length_eq_zero e)
    have hrow : rowOf (Sx σ [.cells []]) (.sl i 0 len cap 1) = cs := by
      show ((Sx σ [.cells []]).obj i).row.drop 0 = cs
      rw [Sx_old hr (by simp) hi, ho]; rfl
    have f1 := vapp_lit (s := σ) (L := [.cells []]) (sz := 1) (bytes := 8) (i := 0) hr (by simp) rfl (hsl.ext hx) (by rw [hrow]; show len * 1 ≤ cs.length; omega) (by show len * 8 ≤ limit; unfold limit; omega) hpos
    rw [hrow] at f1
    change vapp 1 8 (.sl (nm σ 0) 0 0 0 0) (.sl i 0 len cap 1) (Sx σ [.cells []]) = .ok (.sl (nm σ 1) 0 len len 1) (Sx σ ([.cells []] ++ [.cells (cs.take (len * 1))])) at f1
    rw [Nat.mul_one] at f1
    rw [← hl']
    refine clone_raw (WF_S (by simp) ?_)
    simp only [go_sem, ↓reduceIte, Nat.reduceMod, Nat.reduceEqDiff, Nat.reduceAdd, Nat.reduceMul, Nat.reduceSub, Nat.reduceLeDiff, Nat.reduceLT, Int.reduceEq, Int.reduceLT, Int.reduceLE, Int.reduceAdd, Int.reduceSub, Int.reduceNeg, reduceCtorEq, Nat.reduceShiftRight, Nat.reduceAnd, Nat.reduceBNe, hr, vnileq_sl hsl, ne_eq, not_false_eq_true, f1]
theorem sort_ok {τ : St} {q : Vm.Id} {xs : List Int} {ex : Nat} (h : τ.obj q = .cells (xs.map (.int .i64))) (hu : (xs.map Int.natAbs).Nodup) (hs : ∀ x ∈ xs, x.natAbs ≤ 1000000) (hl : xs.length ≤ 1000000) : CA F.slices_SortFunc_int_int [.sl q 0 xs.length xs.length ex, .fn F.sat_Units_1 [] []] τ = .ok (.tup []) (τ.put q (.cells ((sortI xs).map (.int .i64)))) :=
  cc_ok.mpr (.base _ _ _ _ _ (by rw [told_sort]; exact sortB_eq ⟨⟨ex, rfl⟩, h, hu, fun x hx => by have := hs x hx; omega, by omega⟩))
theorem sort_nil (τ : St) : CA F.slices_SortFunc_int_int [.nils, .fn F.sat_Units_1 [] []] τ = .ok (.tup []) τ :=
  cc_ok.mpr (.base _ _ _ _ _ (by rw [told_sort]; exact sortB_nil τ))
theorem sortI_perm (l : List Int) : (sortI l).Perm l := List.mergeSort_perm l _
theorem ints_ts (s : St) {ys : List AV} (c : List Int) (h : ys = c.map (.int .i64)) (hl : c.length ≤ limit) (k : Nat) (hk : k = c.length) : Ints s (.ts ys k k false) c := by
  subst h; subst hk; exact tsI_ints s c hl
/-- All literals that come. -/
theorem units_ok (s : St) (hr : Room s) {v : AV} {l : List (List Int)} (hv : Rows2 s v l) (hi : ∀ c ∈ l, I64 c) {n : Nat} (hn : n ≤ 1000) (hl : l.length ≤ 1000) (hc : ∀ c ∈ l, c.length ≤ 1000) {J : SV → Prop} (hJ : Step J)
    (hw : Wf (newX n l)) (hwt : (newX n l).closed = false → Watch (newX n l) ∧ J (newX n l)) :
    ∃ (r : AV) (u : List Int) (ok : Bool), CA F.sat_Units [v, .int .i64 (n : Int)] s = .ok (.tup [r, .bool ok]) s ∧ Ints s r u ∧
      ((ok = false ∧ u = [] ∧ ((newX n l).closed = true ∨ ∃ i X', i ≠ -1 ∧ Gone J (newX n l) i X')) ∨ (ok = true ∧ (newX n l).closed = false ∧ ∃ X', Gone J (newX n l) (-1) X' ∧ u = sortI X'.tr)) := by
  obtain ⟨b, G, s1, f1, tv1, sv1, lv1, es1, h1⟩ := new_ok s hr hv hi hn hl hc
  obtain ⟨sm, st, sn⟩ := newX_sm n hn l hl hc
  have hnone : ∀ t, Ints t AV.nils [] := fun t => ⟨.nils, rfl, fun i hi => by simp at hi⟩
  cases hcl : (newX n l).closed with
  | true =>
    have o1 := h1.ob
    unfold solC at o1
    rw [hcl] at o1
    refine ⟨.nils, [], false, ?_, hnone s, .inl ⟨rfl, rfl, .inl rfl⟩⟩
    refine fn_of code_sat_Units (by simp) ?_
    simp only [go_sem, ↓reduceIte, Nat.reduceMod, Nat.reduceEqDiff, Nat.reduceAdd, Nat.reduceMul, Nat.reduceSub, Nat.reduceLeDiff, Nat.reduceLT, Int.reduceEq, Int.reduceLT, Int.reduceLE, Int.reduceAdd, Int.reduceSub, Int.reduceNeg, reduceCtorEq, Nat.reduceShiftRight, Nat.reduceAnd, Nat.reduceBNe, Sx_nil, f1, o1]
    exact settled_ov h1.ext (ov_tup (by simp [ov_nils, ov_bool]))
  | false =>
    have o1 := h1.ob
    unfold solC at o1
    rw [hcl] at o1
    obtain ⟨w1, j1⟩ := hwt hcl
    obtain ⟨i, s2, X', f2, g2, tv2, sv2, lv2, es2, h2⟩ := goes_ok h1 hw w1 sm hJ j1
    by_cases ci : i = -1
    rotate_left
    · refine ⟨.nils, [], false, ?_, hnone s, .inl ⟨rfl, rfl, .inr ⟨i, X', ci, g2⟩⟩⟩
      refine fn_of code_sat_Units (by simp) ?_
      simp only [go_sem, ↓reduceIte, Nat.reduceMod, Nat.reduceEqDiff, Nat.reduceAdd, Nat.reduceMul, Nat.reduceSub, Nat.reduceLeDiff, Nat.reduceLT, Int.reduceEq, Int.reduceLT, Int.reduceLE, Int.reduceAdd, Int.reduceSub, Int.reduceNeg, reduceCtorEq, Nat.reduceShiftRight, Nat.reduceAnd, Nat.reduceBNe, Sx_nil, f1, o1, f2, ci, ne_eq, not_false_eq_true]
      exact settled_ov h2.ext (ov_tup (by simp [ov_nils, ov_bool]))
    subst ci
    have o2 := h2.ob
    unfold solC at o2
    have wx := g2.wf
    have htl := wx.trlen
    have hxn : X'.n = n := by rw [g2.n, sn]
    have hnd := wx.nd
    have hrg := wx.rng
    have hper := sortI_perm X'.tr
    have hown := h2.ht
    have hrm := h2.room
    have hxt := h2.ext
    by_cases he : X'.tr = []
    · rw [he] at hown
      have hu : sortI X'.tr = [] := by rw [he]; simp [sortI]
      generalize hy : ([] : List Int).map (AV.int .i64) = ys at hown
      generalize htv : tv2 = tv3 at hown
      cases hown with
      | nils =>
        rw [htv] at o2
        refine ⟨.nils, [], true, ?_, hnone s, .inr ⟨rfl, rfl, X', g2, hu.symm⟩⟩
        refine fn_of code_sat_Units (by simp) ?_
        simp only [go_sem, ↓reduceIte, Nat.reduceMod, Nat.reduceEqDiff, Nat.reduceAdd, Nat.reduceMul, Nat.reduceSub, Nat.reduceLeDiff, Nat.reduceLT, Int.reduceEq, Int.reduceLT, Int.reduceLE, Int.reduceAdd, Int.reduceSub, Int.reduceNeg, reduceCtorEq, Nat.reduceShiftRight, Nat.reduceAnd, Nat.reduceBNe, Sx_nil, f1, o1, f2, ne_eq, not_true_eq_false, o2, clone_nil, sort_nil]
        exact settled_ov hxt (ov_tup (by simp [ov_nils, ov_bool]))
      | sl q len cap cs ho k1 k2 k3 k4 =>
        have hlen : len = 0 := by
          have hz : (cs.take len).length = 0 := by rw [← hy]; rfl
          rw [List.length_take] at hz
          omega
        subst hlen
        rw [htv] at o2
        have e1 := clone_emp s2 hrm (cap := cap) ho
        have hx2 := ext_Sx (s := s2) (l := [.cells []]) hrm (by simp)
        have q0 := Sx_obj? (s := s2) (l := [.cells []]) hrm (by simp) (i := 0) rfl
        have e2 := sort_ok (τ := Sx s2 [.cells []]) (q := nm s2 0) (xs := []) (ex := 0) q0 (by simp) (fun x hx => by cases hx) (by simp)
        rw [show sortI [] = [] from by simp [sortI]] at e2
        have vn := nm_val hrm (k := 0) (by omega)
        have hn2 := hxt.n
        refine ⟨.ts [] 0 0 false, [], true, ?_, ints_ts s [] rfl (by simp) 0 rfl, .inr ⟨rfl, rfl, X', g2, hu.symm⟩⟩
        refine fn_of code_sat_Units (by simp) ?_
        simp only [go_sem, ↓reduceIte, Nat.reduceMod, Nat.reduceEqDiff, Nat.reduceAdd, Nat.reduceMul, Nat.reduceSub, Nat.reduceLeDiff, Nat.reduceLT, Int.reduceEq, Int.reduceLT, Int.reduceLE, Int.reduceAdd, Int.reduceSub, Int.reduceNeg, reduceCtorEq, Nat.reduceShiftRight, Nat.reduceAnd, Nat.reduceBNe, Sx_nil, f1, o1, f2, ne_eq, not_true_eq_false, o2, e1]
        change CA F.slices_SortFunc_int_int [.sl (nm s2 0) 0 0 0 0, .fn F.sat_Units_1 [] []] (Sx s2 [.cells []]) = _ at e2
        simp only [go_sem, ↓reduceIte, Nat.reduceMod, Nat.reduceEqDiff, Nat.reduceAdd, Nat.reduceMul, Nat.reduceSub, Nat.reduceLeDiff, Nat.reduceLT, Int.reduceEq, Int.reduceLT, Int.reduceLE, Int.reduceAdd, Int.reduceSub, Int.reduceNeg, reduceCtorEq, Nat.reduceShiftRight, Nat.reduceAnd, Nat.reduceBNe, e2, hrm, List.map_nil]
        refine settled_fz (hxt.trans hx2) (fz_tup2 (.slN (nm s2 0) 0 0 0 0 [] [] (by omega) q0 rfl fun j c d h => by simp at h) (.bool _))
    · have e1 := clone_ok s2 hrm hown he (by omega)
      have hx2 := ext_Sx (s := s2) (l := [.cells [], .cells (X'.tr.map (.int .i64))]) hrm (by simp)
      have q0 := Sx_obj? (s := s2) (l := [.cells [], .cells (X'.tr.map (.int .i64))]) hrm (by simp) (i := 1) rfl
      have e2 := sort_ok (τ := Sx s2 [.cells [], .cells (X'.tr.map (.int .i64))]) (q := nm s2 1) (xs := X'.tr) (ex := 1) q0 hnd (fun x hx => by have := (hrg x hx).2; omega) (by omega)
      have vn := nm_val hrm (k := 1) (by omega)
      have hn2 := hxt.n
      have hlu := hper.length_eq
      refine ⟨.ts ((sortI X'.tr).map (.int .i64)) X'.tr.length X'.tr.length false, sortI X'.tr, true, ?_, ints_ts s _ rfl (by rw [hlu]; unfold limit; omega) _ hlu.symm, .inr ⟨rfl, rfl, X', g2, rfl⟩⟩
      refine fn_of code_sat_Units (by simp) ?_
      simp only [go_sem, ↓reduceIte, Nat.reduceMod, Nat.reduceEqDiff, Nat.reduceAdd, Nat.reduceMul, Nat.reduceSub, Nat.reduceLeDiff, Nat.reduceLT, Int.reduceEq, Int.reduceLT, Int.reduceLE, Int.reduceAdd, Int.reduceSub, Int.reduceNeg, reduceCtorEq, Nat.reduceShiftRight, Nat.reduceAnd, Nat.reduceBNe, Sx_nil, f1, o1, f2, ne_eq, not_true_eq_false, o2, e1, e2, hrm]
      have q1 := Sx_obj? (s := s2) (l := [.cells [], .cells ((sortI X'.tr).map (.int .i64))]) hrm (by simp) (i := 1) rfl
      refine settled_fz (hxt.trans (ext_Sx hrm (by simp))) (fz_tup2 (.slN (nm s2 1) 0 _ _ 1 _ _ (by omega) q1 rfl fun j c d h1 h2 => ?_) (.bool _))
      rw [List.drop_zero] at h1
      rw [h1] at h2; cases h2
      obtain ⟨z, _, rfl⟩ := List.mem_map.mp (List.mem_of_getElem? h1)
      exact .int _ _
end Go.Proofs.Ytggeadnjikpjnaa
