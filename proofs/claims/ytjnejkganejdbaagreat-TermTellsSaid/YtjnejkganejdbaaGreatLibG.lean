/- Functions of the program: sums, small terms. No condition. -/
import Derived.Test.YtjnejkganejdbaaGreatLibF
import Derived.Test.YtjnejkganejdbaaGreatLibC
import Derived.Test.YtjnejkganejdbaaGreatVmW
namespace Go.Proofs.YtjnejkganejdbaaGreat
open Go Go.Vm
set_option linter.unusedVariables false
set_option linter.unusedSimpArgs false
/-- A row of one term, of two. -/
theorem ts_one {s : St} {L : List AO} (hr : Room s) (hl : L.length ≤ 5000) {i : Nat} {cs : List AV} {t : T} (hi : L[i]? = some (.cells cs)) (h : RT6 (Sx s L) cs t) : Ts (Sx s L) (.sl (nm s i) 0 1 1 0) [t] := by
  obtain ⟨h1, h2, h3⟩ := isl_lit hr hl hi (n := 1) (by unfold limit; omega) 1 0
  refine ⟨h1, rfl, fun j hj => ?_⟩
  rw [h2]
  match j, hj with
  | 0, _ => have := h.rt []; rw [List.append_nil] at this; exact this
theorem ts_two {s : St} {L : List AO} (hr : Room s) (hl : L.length ≤ 5000) {i : Nat} {cs ds : List AV} {t u : T} (hi : L[i]? = some (.cells (cs ++ ds))) (hc : cs.length = 6) (h : RT6 (Sx s L) cs t) (h' : RT6 (Sx s L) ds u) : Ts (Sx s L) (.sl (nm s i) 0 2 2 0) [t, u] := by
  obtain ⟨h1, h2, h3⟩ := isl_lit hr hl hi (n := 2) (by unfold limit; omega) 2 0
  refine ⟨h1, rfl, fun j hj => ?_⟩
  rw [h2]
  match j, hj with
  | 0, _ => exact h.rt ds
  | 1, _ =>
    show RT _ ((cs ++ ds).drop (1 * 6)) u
    rw [List.drop_append, List.drop_of_length_le (by omega), hc]
    have := h'.rt []
    rw [List.append_nil] at this; exact this
theorem Is_tm (t : T) (htm : t.tame) (s : St) (cs : List AV) (hr : Room s) (hn : s.n.val ≤ 38000) (h : RT6 s cs t) : CA F.term_Is [.agg cs] s = .ok (.bool (isT t)) s := by
  obtain ⟨ng, mg, kv, rfl, hz, hk⟩ := h.ex
  obtain ⟨M, hM⟩ : ∃ M : List AO, M = [.cells [.int .i64 t.op, ng, mg, .str t.name, .int .i64 t.sort, kv], .cells [.int .i64 t.op, ng, mg, .str t.name, .int .i64 t.sort, kv]] := ⟨_, rfl⟩
  have hlenM : M.length = 2 := by rw [hM]; rfl
  have hr3 := hr.Sx (l := M) (by omega) (by omega)
  have hn3 := Sx_n (s := s) (l := M) hr (by omega)
  have hx3 := ext_Sx (s := s) (l := M) hr (by omega)
  have o1 := ts_one (L := M) (i := 1) hr (by omega) (by rw [hM]; rfl) (h.x hx3)
  have f1 := all_ok (Sx s M) _ [t] ⟨htm, trivial⟩ hr3 (by simp; omega) o1
  rw [hM] at f1
  refine fn_of code_term_Is (by simp) ?_
  simp only [go_sem, ↓reduceIte, Nat.reduceMod, Nat.reduceEqDiff, Nat.reduceAdd, Nat.reduceMul, Nat.reduceSub, Nat.reduceLeDiff, Nat.reduceLT, Int.reduceEq, Int.reduceLT, Int.reduceLE, Int.reduceAdd, Int.reduceSub, Int.reduceNeg, reduceCtorEq, Nat.reduceShiftRight, Nat.reduceAnd, Nat.reduceBNe, hr, f1]
  exact settled_bool (ext_Sx hr (by simp)) (by simp)
end Go.Proofs.YtjnejkganejdbaaGreat
namespace Go.Proofs.YtjnejkganejdbaaGreat
open Go Go.Vm
set_option linter.unusedVariables false
set_option linter.unusedSimpArgs false
mutual
def fewN : T → Bool
  | .mk _ n a _ ks => decide (a.length ≤ 30) && (decide (n.mag.length ≤ 4) && fewNs ks)
def fewNs : List T → Bool
  | [] => true
  | t :: l => fewN t && fewNs l
end
theorem fewN_eq (t : T) : fewN t = (decide (t.name.length ≤ 30) && (decide (t.n.mag.length ≤ 4) && fewNs t.kids)) := by cases t; rfl
theorem fewNs_all : ∀ (l : List T), (∀ i (h : i < l.length), fewN l[i] = true) → fewNs l = true
  | [], _ => rfl
  | t :: l, h => by
    rw [fewNs, Bool.and_eq_true]
    exact ⟨h 0 (by simp), fewNs_all l fun i hi => h (i + 1) (by simpa using hi)⟩
theorem fewNs_not : ∀ (l : List T) (i : Nat) (h : i < l.length), fewN l[i] = false → fewNs l = false
  | t :: l, 0, _, h => by rw [fewNs]; rw [List.getElem_cons_zero] at h; rw [h, Bool.false_and]
  | t :: l, i + 1, hi, h => by rw [fewNs, fewNs_not l i (by simpa using hi) (by simpa using h), Bool.and_false]
theorem fewNames_ok : ∀ (n : Nat) (t : T), t.size ≤ n → ∀ (s : St) (cs : List AV), Room s → s.n.val + t.size ≤ 59000 → RT6 s cs t → CA F.law10_fewNames [.agg cs] s = .ok (.bool (fewN t)) s := by
  intro n
  induction n with
  | zero => intro t h; have := T.size_kids t; omega
  | succ n ih =>
    intro t hln s cs hr hn h
    obtain ⟨ng, mg, kv, rfl, hz, hk⟩ := h.ex
    have hsz := T.size_kids t
    have hm := hk.most
    have hx1 := ext_Sx (s := s) (l := [.cells [.int .i64 t.op, ng, mg, .str t.name, .int .i64 t.sort, kv]]) hr (by simp)
    have hr1 := hr.Sx (l := [.cells [.int .i64 t.op, ng, mg, .str t.name, .int .i64 t.sort, kv]]) (by simp; omega) (by simp)
    have hn1 := Sx_n (s := s) (l := [.cells [.int .i64 t.op, ng, mg, .str t.name, .int .i64 t.sort, kv]]) hr (by simp)
    simp only [List.length_singleton] at hn1
    rw [fewN_eq]
    by_cases d1 : 30 < t.name.length
    · have d1' : (30 : Int) < (t.name.length : Int) := by omega
      have e : decide (t.name.length ≤ 30) = false := by simp; omega
      rw [e, Bool.false_and]
      refine fn_of code_law10_fewNames (by simp) ?_
      simp only [go_sem, ↓reduceIte, Nat.reduceMod, Nat.reduceEqDiff, Nat.reduceAdd, Nat.reduceMul, Nat.reduceSub, Nat.reduceLeDiff, Nat.reduceLT, Int.reduceEq, Int.reduceLT, Int.reduceLE, Int.reduceAdd, Int.reduceSub, Int.reduceNeg, reduceCtorEq, Nat.reduceShiftRight, Nat.reduceAnd, Nat.reduceBNe, hr, d1']
      exact settled_bool (ext_Sx hr (by simp)) rfl
    have d1' : ¬ (30 : Int) < (t.name.length : Int) := by omega
    have e1 : decide (t.name.length ≤ 30) = true := by simp; omega
    rw [e1, Bool.true_and]
    by_cases d2 : 4 < t.n.mag.length
    · have d2' : (4 : Int) < (t.n.mag.length : Int) := by omega
      have e : decide (t.n.mag.length ≤ 4) = false := by simp; omega
      rw [e, Bool.false_and]
      refine fn_of code_law10_fewNames (by simp) ?_
      simp only [go_sem, ↓reduceIte, Nat.reduceMod, Nat.reduceEqDiff, Nat.reduceAdd, Nat.reduceMul, Nat.reduceSub, Nat.reduceLeDiff, Nat.reduceLT, Int.reduceEq, Int.reduceLT, Int.reduceLE, Int.reduceAdd, Int.reduceSub, Int.reduceNeg, reduceCtorEq, Nat.reduceShiftRight, Nat.reduceAnd, Nat.reduceBNe, hr, d1', hz.mag.vlen, d2']
      exact settled_bool (ext_Sx hr (by simp)) rfl
    have d2' : ¬ (4 : Int) < (t.n.mag.length : Int) := by omega
    have e2 : decide (t.n.mag.length ≤ 4) = true := by simp; omega
    rw [e2, Bool.true_and]
    refine fn_of code_law10_fewNames (by simp) ?_
    simp only [go_sem, ↓reduceIte, Nat.reduceMod, Nat.reduceEqDiff, Nat.reduceAdd, Nat.reduceMul, Nat.reduceSub, Nat.reduceLeDiff, Nat.reduceLT, Int.reduceEq, Int.reduceLT, Int.reduceLE, Int.reduceAdd, Int.reduceSub, Int.reduceNeg, reduceCtorEq, Nat.reduceShiftRight, Nat.reduceAnd, Nat.reduceBNe, hr, d1', hz.mag.vlen, d2']
    refine W_inv (fun k f τ => ∃ i : Nat, Sx s [.cells [.int .i64 t.op, ng, mg, .str t.name, .int .i64 t.sort, kv]] = τ ∧ k = t.kids.length - i ∧ i ≤ t.kids.length ∧ (∀ j (h : j < t.kids.length), j < i → fewN t.kids[j] = true) ∧ (vv 1).get f = .ptr (nm s 0) 0 ∧ (vv 3).get f = .int .i64 (i : Int)) ?_ ⟨0, rfl, rfl, by omega, (fun j _ h => absurd h (by omega)), ?_⟩
    · rintro k f τ ⟨i, rfl, rfl, hi, ha, g1, g3⟩
      by_cases c1 : i < t.kids.length
      · obtain ⟨ds, hat⟩ := (hk.x hx1).at c1
        have hs1 := T.size_at c1
        have fi := ih t.kids[i] (by omega) _ ds hr1 (by omega) hat.t6
        cases d : fewN t.kids[i]
        · simp only [go_sem, ↓reduceIte, Nat.reduceMod, Nat.reduceEqDiff, Nat.reduceAdd, Nat.reduceMul, Nat.reduceSub, Nat.reduceLeDiff, Nat.reduceLT, Int.reduceEq, Int.reduceLT, Int.reduceLE, Int.reduceAdd, Int.reduceSub, Int.reduceNeg, reduceCtorEq, Nat.reduceShiftRight, Nat.reduceAnd, Nat.reduceBNe, hr, g1, g3, Int.ofNat_lt, c1, hk.vlen, hk.ia c1, hat.ld, fi, d, Bool.not_false]
          exact settled_bool (ext_Sx hr (by simp)) (by rw [fewNs_not _ i c1 d])
        · simp only [go_sem, ↓reduceIte, Nat.reduceMod, Nat.reduceEqDiff, Nat.reduceAdd, Nat.reduceMul, Nat.reduceSub, Nat.reduceLeDiff, Nat.reduceLT, Int.reduceEq, Int.reduceLT, Int.reduceLE, Int.reduceAdd, Int.reduceSub, Int.reduceNeg, reduceCtorEq, Nat.reduceShiftRight, Nat.reduceAnd, Nat.reduceBNe, hr, g1, g3, Int.ofNat_lt, c1, hk.vlen, hk.ia c1, hat.ld, fi, d, Bool.not_true]
          refine ⟨t.kids.length - (i + 1), by omega, i + 1, rfl, by omega, ?_, ?_⟩
          · intro j h1 h2
            by_cases e : j = i
            · subst e; exact d
            · exact ha j h1 (by omega)
          · rw [wrap_i64 (by omega) (by omega)]; congr 1
      · simp only [go_sem, ↓reduceIte, Nat.reduceMod, Nat.reduceEqDiff, Nat.reduceAdd, Nat.reduceMul, Nat.reduceSub, Nat.reduceLeDiff, Nat.reduceLT, Int.reduceEq, Int.reduceLT, Int.reduceLE, Int.reduceAdd, Int.reduceSub, Int.reduceNeg, reduceCtorEq, Nat.reduceShiftRight, Nat.reduceAnd, Nat.reduceBNe, hr, g1, g3, Int.ofNat_lt, c1, hk.vlen]
        exact settled_bool (ext_Sx hr (by simp)) (fewNs_all _ fun j hj => ha j hj (by omega)).symm
    · simp only [go_sem, ↓reduceIte, Nat.reduceMod, Nat.reduceEqDiff, Nat.reduceAdd, Nat.reduceMul, Nat.reduceSub, Nat.reduceLeDiff, Nat.reduceLT, Int.reduceEq, Int.reduceLT, Int.reduceLE, Int.reduceAdd, Int.reduceSub, Int.reduceNeg, reduceCtorEq, Nat.reduceShiftRight, Nat.reduceAnd, Nat.reduceBNe]
      rfl
def fewT (t : T) : Bool := decide (t.size ≤ 120) && fewN t
def fewTs (l : List T) : Bool := l.all fewT && decide (l.length ≤ 8)
theorem fewTerm_ok (t : T) (s : St) (cs : List AV) (hr : Room s) (hn : s.n.val ≤ 58000) (h : RT6 s cs t) : CA F.law10_fewTerm [.agg cs] s = .ok (.bool (fewT t)) s := by
  obtain ⟨ng, mg, kv, rfl, hz, hk⟩ := h.ex
  have hx1 := ext_Sx (s := s) (l := [.cells [.int .i64 t.op, ng, mg, .str t.name, .int .i64 t.sort, kv]]) hr (by simp)
  have hr1 := hr.Sx (l := [.cells [.int .i64 t.op, ng, mg, .str t.name, .int .i64 t.sort, kv]]) (by simp; omega) (by simp)
  have hn1 := Sx_n (s := s) (l := [.cells [.int .i64 t.op, ng, mg, .str t.name, .int .i64 t.sort, kv]]) hr (by simp)
  simp only [List.length_singleton] at hn1
  have f1 := ref_Count_ok _ _ t hr1 (by omega) (h.x hx1)
  unfold fewT
  by_cases d1 : t.size ≤ 120
  · have d1' : min (t.size : Int) 401 ≤ 120 := by omega
    have f2 := fewNames_ok _ t (Nat.le_refl _) _ _ hr1 (by omega) (h.x hx1)
    refine fn_of code_law10_fewTerm (by simp) ?_
    simp only [go_sem, ↓reduceIte, Nat.reduceMod, Nat.reduceEqDiff, Nat.reduceAdd, Nat.reduceMul, Nat.reduceSub, Nat.reduceLeDiff, Nat.reduceLT, Int.reduceEq, Int.reduceLT, Int.reduceLE, Int.reduceAdd, Int.reduceSub, Int.reduceNeg, reduceCtorEq, Nat.reduceShiftRight, Nat.reduceAnd, Nat.reduceBNe, hr, f1, f2, d1']
    exact settled_bool (ext_Sx hr (by simp)) (by simp [d1])
  · have d1' : ¬ min (t.size : Int) 401 ≤ 120 := by omega
    refine fn_of code_law10_fewTerm (by simp) ?_
    simp only [go_sem, ↓reduceIte, Nat.reduceMod, Nat.reduceEqDiff, Nat.reduceAdd, Nat.reduceMul, Nat.reduceSub, Nat.reduceLeDiff, Nat.reduceLT, Int.reduceEq, Int.reduceLT, Int.reduceLE, Int.reduceAdd, Int.reduceSub, Int.reduceNeg, reduceCtorEq, Nat.reduceShiftRight, Nat.reduceAnd, Nat.reduceBNe, hr, f1, d1']
    exact settled_bool (ext_Sx hr (by simp)) (by simp [d1])
theorem fewTerms_ok (s : St) (v : AV) (l : List T) (hr : Room s) (hn : s.n.val ≤ 58000) (hv : Ts s v l) : CA F.law10_fewTerms [v] s = .ok (.bool (fewTs l)) s := by
  have hm := hv.most
  refine fn_of code_law10_fewTerms (by simp) ?_
  unfold fewTs
  simp only [go_sem, ↓reduceIte, Nat.reduceMod, Nat.reduceEqDiff, Nat.reduceAdd, Nat.reduceMul, Nat.reduceSub, Nat.reduceLeDiff, Nat.reduceLT, Int.reduceEq, Int.reduceLT, Int.reduceLE, Int.reduceAdd, Int.reduceSub, Int.reduceNeg, reduceCtorEq, Nat.reduceShiftRight, Nat.reduceAnd, Nat.reduceBNe]
  refine W_inv (fun k f τ => ∃ i : Nat, Sx s [] = τ ∧ k = l.length - i ∧ i ≤ l.length ∧ (l.take i).all fewT = true ∧ (vv 0).get f = v ∧ (vv 3).get f = .int .i64 (i : Int)) ?_ ⟨0, rfl, rfl, by omega, by simp, ?_⟩
  · rintro k f τ ⟨i, rfl, rfl, hi, ha, g0, g3⟩
    by_cases c1 : i < l.length
    · obtain ⟨ds, hat⟩ := hv.at c1
      have fi := fewTerm_ok l[i] (Sx s []) ds hr hn hat.t6
      cases d : fewT l[i]
      · simp only [go_sem, ↓reduceIte, Nat.reduceMod, Nat.reduceEqDiff, Nat.reduceAdd, Nat.reduceMul, Nat.reduceSub, Nat.reduceLeDiff, Nat.reduceLT, Int.reduceEq, Int.reduceLT, Int.reduceLE, Int.reduceAdd, Int.reduceSub, Int.reduceNeg, reduceCtorEq, Nat.reduceShiftRight, Nat.reduceAnd, Nat.reduceBNe, g0, g3, Int.ofNat_lt, c1, hv.vlen, hv.ia c1, hat.ld, fi, d, Bool.not_false]
        refine settled_bool (Ext.refl s) ?_
        have : l.all fewT = false := by
          rw [Bool.eq_false_iff]; intro h
          have := List.all_eq_true.mp h l[i] (List.getElem_mem c1)
          rw [d] at this; cases this
        rw [this]; rfl
      · simp only [go_sem, ↓reduceIte, Nat.reduceMod, Nat.reduceEqDiff, Nat.reduceAdd, Nat.reduceMul, Nat.reduceSub, Nat.reduceLeDiff, Nat.reduceLT, Int.reduceEq, Int.reduceLT, Int.reduceLE, Int.reduceAdd, Int.reduceSub, Int.reduceNeg, reduceCtorEq, Nat.reduceShiftRight, Nat.reduceAnd, Nat.reduceBNe, g0, g3, Int.ofNat_lt, c1, hv.vlen, hv.ia c1, hat.ld, fi, d, Bool.not_true]
        refine ⟨l.length - (i + 1), by omega, i + 1, rfl, by omega, ?_, ?_⟩
        · rw [← List.take_append_getElem c1, List.all_append, ha, List.all_cons, d]; rfl
        · rw [wrap_i64 (by omega) (by omega)]; congr 1
    · have e : i = l.length := by omega
      subst e
      rw [List.take_length] at ha
      simp only [go_sem, ↓reduceIte, Nat.reduceMod, Nat.reduceEqDiff, Nat.reduceAdd, Nat.reduceMul, Nat.reduceSub, Nat.reduceLeDiff, Nat.reduceLT, Int.reduceEq, Int.reduceLT, Int.reduceLE, Int.reduceAdd, Int.reduceSub, Int.reduceNeg, reduceCtorEq, Nat.reduceShiftRight, Nat.reduceAnd, Nat.reduceBNe, g0, g3, Int.ofNat_lt, c1, hv.vlen]
      refine settled_bool (Ext.refl s) ?_
      rw [ha, Bool.true_and]
      congr 1; apply propext; omega
  · simp only [go_sem, ↓reduceIte, Nat.reduceMod, Nat.reduceEqDiff, Nat.reduceAdd, Nat.reduceMul, Nat.reduceSub, Nat.reduceLeDiff, Nat.reduceLT, Int.reduceEq, Int.reduceLT, Int.reduceLE, Int.reduceAdd, Int.reduceSub, Int.reduceNeg, reduceCtorEq, Nat.reduceShiftRight, Nat.reduceAnd, Nat.reduceBNe]
    rfl
def fewG (g : Sg) : Bool := decide (g.name.length ≤ 40) && decide (g.args.length ≤ 6)
theorem fewSig_ok (s : St) (g : Sg) (av : AV) (hr : Room s) (hv : Ints s av g.args) : CA F.law10_fewSig [.agg [.str g.name, av, .int .i64 g.ret]] s = .ok (.bool (fewG g)) s := by
  unfold fewG
  by_cases d1 : (g.name.length : Int) ≤ 40
  · refine fn_of code_law10_fewSig (by simp) ?_
    simp only [go_sem, ↓reduceIte, Nat.reduceMod, Nat.reduceEqDiff, Nat.reduceAdd, Nat.reduceMul, Nat.reduceSub, Nat.reduceLeDiff, Nat.reduceLT, Int.reduceEq, Int.reduceLT, Int.reduceLE, Int.reduceAdd, Int.reduceSub, Int.reduceNeg, reduceCtorEq, Nat.reduceShiftRight, Nat.reduceAnd, Nat.reduceBNe, hr, d1, hv.vlen]
    refine settled_bool (ext_Sx hr (by simp)) ?_
    have : decide (g.name.length ≤ 40) = true := by simp; omega
    rw [this, Bool.true_and]
    congr 1; apply propext; omega
  · refine fn_of code_law10_fewSig (by simp) ?_
    simp only [go_sem, ↓reduceIte, Nat.reduceMod, Nat.reduceEqDiff, Nat.reduceAdd, Nat.reduceMul, Nat.reduceSub, Nat.reduceLeDiff, Nat.reduceLT, Int.reduceEq, Int.reduceLT, Int.reduceLE, Int.reduceAdd, Int.reduceSub, Int.reduceNeg, reduceCtorEq, Nat.reduceShiftRight, Nat.reduceAnd, Nat.reduceBNe, hr, d1]
    refine settled_bool (ext_Sx hr (by simp)) ?_
    have : decide (g.name.length ≤ 40) = false := by simp; omega
    rw [this, Bool.false_and]
/-! ### What follows of it -/
mutual
theorem fewN_tame : ∀ t : T, fewN t = true → t.tame
  | .mk _ n a _ ks, h => by
    rw [fewN] at h
    simp only [Bool.and_eq_true, decide_eq_true_eq] at h
    exact ⟨by omega, by omega, fewNs_tames ks h.2.2⟩
theorem fewNs_tames : ∀ l : List T, fewNs l = true → T.tames l
  | [], _ => trivial
  | t :: l, h => by
    rw [fewNs, Bool.and_eq_true] at h
    exact ⟨fewN_tame t h.1, fewNs_tames l h.2⟩
end
theorem fewTs_of {l : List T} (h : fewTs l = true) : T.tames l ∧ l.length ≤ 8 ∧ T.sizes l ≤ 120 * l.length := by
  unfold fewTs at h
  simp only [Bool.and_eq_true, decide_eq_true_eq] at h
  obtain ⟨h1, h2⟩ := h
  have : ∀ l : List T, l.all fewT = true → T.tames l ∧ T.sizes l ≤ 120 * l.length := by
    intro l
    induction l with
    | nil => intro _; exact ⟨trivial, by simp [T.sizes]⟩
    | cons t l ih =>
      intro h
      rw [List.all_cons, Bool.and_eq_true] at h
      obtain ⟨i1, i2⟩ := ih h.2
      unfold fewT at h
      simp only [Bool.and_eq_true, decide_eq_true_eq] at h
      refine ⟨⟨fewN_tame t h.1.2, i1⟩, ?_⟩
      simp only [T.sizes, List.length_cons]; omega
  exact ⟨(this l h1).1, h2, (this l h1).2⟩
theorem known_ok (s : St) : CA F.law10_known [] s = .ok (.bool true) s := by
  refine cc_ok.mpr (.base _ _ _ _ _ ?_)
  have e : F.law10_known.get BT = true_B := by kernel_rfl
  rw [e]; rfl
end Go.Proofs.YtjnejkganejdbaaGreat
namespace Go.Proofs.YtjnejkganejdbaaGreat
open Go Go.Vm
set_option linter.unusedVariables false
set_option linter.unusedSimpArgs false
theorem equalNat_ok (s : St) (v w : AV) (l m : List Nat) (hr : Room s) (hn : s.n.val + 9 * l.length ≤ 60000) (hv : Nats s v l) (hw : Nats s w m) : CA F.slices_Equal_uint32_uint32 [v, w] s = .ok (.bool (decide (l = m))) s := by
  have hm := hv.most
  refine fn_of code_slices_Equal_uint32_uint32 (by simp) ?_
  by_cases c0 : (l.length : Int) = (m.length : Int)
  · have c0' : l.length = m.length := by omega
    simp only [go_sem, ↓reduceIte, Nat.reduceMod, Nat.reduceEqDiff, Nat.reduceAdd, Nat.reduceMul, Nat.reduceSub, Nat.reduceLeDiff, Nat.reduceLT, Int.reduceEq, Int.reduceLT, Int.reduceLE, Int.reduceAdd, Int.reduceSub, Int.reduceNeg, reduceCtorEq, Nat.reduceShiftRight, Nat.reduceAnd, Nat.reduceBNe, hv.vlen, hw.vlen, ne_eq, c0, not_true_eq_false]
    refine W_inv (fun k f τ => ∃ i : Nat, ∃ σ : St, Sx σ [] = τ ∧ Room σ ∧ Ext s σ ∧ σ.n.val ≤ s.n.val + 9 * i ∧ k = l.length - i ∧ i ≤ l.length ∧ l.take i = m.take i ∧ (vv 0).get f = v ∧ (vv 1).get f = w ∧ (vv 12).get f = .int .i64 (l.length : Int) ∧ (vv 13).get f = .int .i64 (i : Int)) ?_ ⟨0, s, rfl, hr, Ext.refl s, by omega, rfl, by omega, by simp, ?_⟩
    · rintro k f τ ⟨i, σ, rfl, hr1, hx, hn1, rfl, hi, ha, g0, g1, g12, g13⟩
      have hv1 := hv.x hx
      have hw1 := hw.x hx
      by_cases c1 : i < l.length
      · have c1' : i < m.length := by omega
        simp only [go_sem, ↓reduceIte, Nat.reduceMod, Nat.reduceEqDiff, Nat.reduceAdd, Nat.reduceMul, Nat.reduceSub, Nat.reduceLeDiff, Nat.reduceLT, Int.reduceEq, Int.reduceLT, Int.reduceLE, Int.reduceAdd, Int.reduceSub, Int.reduceNeg, reduceCtorEq, Nat.reduceShiftRight, Nat.reduceAnd, Nat.reduceBNe, g0, g1, g12, g13, Int.ofNat_lt, c1, hv.vlen]
        refine W_drawn hr1 _ (by simp) ?_
        have hx2 : Ext s (Sx σ [.dead, .dead, .dead, .dead, .dead, .dead, .dead, .dead, .dead]) := hx.trans (ext_Sx hr1 (by simp))
        by_cases c2 : (l[i] : Int) = (m[i] : Int)
        · simp only [go_sem, ↓reduceIte, Nat.reduceMod, Nat.reduceEqDiff, Nat.reduceAdd, Nat.reduceMul, Nat.reduceSub, Nat.reduceLeDiff, Nat.reduceLT, Int.reduceEq, Int.reduceLT, Int.reduceLE, Int.reduceAdd, Int.reduceSub, Int.reduceNeg, reduceCtorEq, Nat.reduceShiftRight, Nat.reduceAnd, Nat.reduceBNe, g0, g1, g12, g13, hr1, hv1.ia c1, hw1.ia c1', hv1.u32 c1, hw1.u32 c1', ne_eq, c2, not_true_eq_false]
          refine ⟨l.length - (i + 1), by omega, i + 1, _, Sx_nil _, hr1.Sx (by simp; omega) (by simp), hx2, ?_, rfl, by omega, ?_, ?_⟩
          · rw [Sx_n hr1 (by simp)]; simp; omega
          · rw [← List.take_append_getElem c1, ← List.take_append_getElem c1', ha]; congr 2; omega
          · rw [wrap_i64 (by omega) (by omega)]; congr 1
        · simp only [go_sem, ↓reduceIte, Nat.reduceMod, Nat.reduceEqDiff, Nat.reduceAdd, Nat.reduceMul, Nat.reduceSub, Nat.reduceLeDiff, Nat.reduceLT, Int.reduceEq, Int.reduceLT, Int.reduceLE, Int.reduceAdd, Int.reduceSub, Int.reduceNeg, reduceCtorEq, Nat.reduceShiftRight, Nat.reduceAnd, Nat.reduceBNe, g0, g1, g12, g13, hr1, hv1.ia c1, hw1.ia c1', hv1.u32 c1, hw1.u32 c1', ne_eq, c2, not_false_eq_true]
          refine settled_bool hx2 ?_
          rw [eq_comm, decide_eq_false_iff_not]
          intro e; subst e; exact c2 rfl
      · have e : i = l.length := by omega
        subst e
        rw [List.take_length, c0', List.take_length] at ha
        simp only [go_sem, ↓reduceIte, Nat.reduceMod, Nat.reduceEqDiff, Nat.reduceAdd, Nat.reduceMul, Nat.reduceSub, Nat.reduceLeDiff, Nat.reduceLT, Int.reduceEq, Int.reduceLT, Int.reduceLE, Int.reduceAdd, Int.reduceSub, Int.reduceNeg, reduceCtorEq, Nat.reduceShiftRight, Nat.reduceAnd, Nat.reduceBNe, g0, g1, g12, g13, Int.ofNat_lt, c1, hv.vlen]
        exact settled_bool hx (by rw [eq_comm, decide_eq_true_iff]; exact ha)
    · simp only [go_sem, ↓reduceIte, Nat.reduceMod, Nat.reduceEqDiff, Nat.reduceAdd, Nat.reduceMul, Nat.reduceSub, Nat.reduceLeDiff, Nat.reduceLT, Int.reduceEq, Int.reduceLT, Int.reduceLE, Int.reduceAdd, Int.reduceSub, Int.reduceNeg, reduceCtorEq, Nat.reduceShiftRight, Nat.reduceAnd, Nat.reduceBNe, c0]
      rfl
  · simp only [go_sem, ↓reduceIte, Nat.reduceMod, Nat.reduceEqDiff, Nat.reduceAdd, Nat.reduceMul, Nat.reduceSub, Nat.reduceLeDiff, Nat.reduceLT, Int.reduceEq, Int.reduceLT, Int.reduceLE, Int.reduceAdd, Int.reduceSub, Int.reduceNeg, reduceCtorEq, Nat.reduceShiftRight, Nat.reduceAnd, Nat.reduceBNe, hv.vlen, hw.vlen, ne_eq, c0, not_false_eq_true]
    exact settled_bool (Ext.refl s) (by rw [eq_comm, decide_eq_false_iff_not]; intro e; rw [e] at c0; exact c0 rfl)
theorem equalF_ok (l m : List T) (s : St) (v w : AV) (hr : Room s) (hn : s.n.val + 2 * l.length ≤ 59000) (hv : Ts s v l) (hw : Ts s w m)
    (hS : ∀ i (h1 : i < l.length) (h2 : i < m.length) (σ : St) (cs ds : List AV), Room σ → σ.n.val ≤ s.n.val + 2 * (i + 1) → RT6 σ cs l[i] → RT6 σ ds m[i] → CA F.term_Same [.agg cs, .agg ds] σ = .ok (.bool (sameT l[i] m[i])) σ) :
    CA F.slices_EqualFunc_api_Term_api_Term_api_Term_api_Term [v, w, .fn F.term_Same [] []] s = .ok (.bool (sameTs l m)) s := by
  have hm := hv.most
  refine fn_of code_slices_EqualFunc_api_Term_api_Term_api_Term_api_Term (by simp) ?_
  by_cases c0 : (l.length : Int) = (m.length : Int)
  rotate_left
  · simp only [go_sem, ↓reduceIte, Nat.reduceMod, Nat.reduceEqDiff, Nat.reduceAdd, Nat.reduceMul, Nat.reduceSub, Nat.reduceLeDiff, Nat.reduceLT, Int.reduceEq, Int.reduceLT, Int.reduceLE, Int.reduceAdd, Int.reduceSub, Int.reduceNeg, reduceCtorEq, Nat.reduceShiftRight, Nat.reduceAnd, Nat.reduceBNe, hv.vlen, hw.vlen, ne_eq, c0, not_false_eq_true]
    exact settled_bool (Ext.refl s) (sameTs_len l m (by omega)).symm
  have c0' : l.length = m.length := by omega
  simp only [go_sem, ↓reduceIte, Nat.reduceMod, Nat.reduceEqDiff, Nat.reduceAdd, Nat.reduceMul, Nat.reduceSub, Nat.reduceLeDiff, Nat.reduceLT, Int.reduceEq, Int.reduceLT, Int.reduceLE, Int.reduceAdd, Int.reduceSub, Int.reduceNeg, reduceCtorEq, Nat.reduceShiftRight, Nat.reduceAnd, Nat.reduceBNe, hv.vlen, hw.vlen, ne_eq, c0, not_true_eq_false]
  refine W_inv (fun k f τ => ∃ i : Nat, ∃ σ : St, Sx σ [] = τ ∧ Room σ ∧ Ext s σ ∧ σ.n.val ≤ s.n.val + 2 * i ∧ k = l.length - i ∧ i ≤ l.length ∧ (∀ j (h1 : j < l.length) (h2 : j < m.length), j < i → sameT l[j] m[j] = true) ∧ (vv 1).get f = w ∧ (vv 2).get f = .fn F.term_Same [] [] ∧ (vv 15).get f = v ∧ (vv 16).get f = .int .i64 (l.length : Int) ∧ (vv 17).get f = .int .i64 (i : Int)) ?_ ⟨0, s, rfl, hr, Ext.refl s, by omega, rfl, by omega, (fun j _ _ h => absurd h (by omega)), ?_⟩
  · rintro k f τ ⟨i, σ, rfl, hr1, hx, hn1, rfl, hi, ha, g1, g2, g15, g16, g17⟩
    by_cases c1 : i < l.length
    · have c1' : i < m.length := by omega
      obtain ⟨cs, hat⟩ := (hv.x hx).at c1
      obtain ⟨ds, hat2⟩ := (hw.x hx).at c1'
      have h6 := hat.t6
      have h7 := hat2.t6
      have hl6 := hat.len
      have hl7 := hat2.len
      obtain ⟨ng, mg, kv, rfl, hz, hk⟩ := hat.t6.ex
      obtain ⟨ng2, mg2, kv2, rfl, hz2, hk2⟩ := hat2.t6.ex
      obtain ⟨L, hL⟩ : ∃ L : List AO, L = [.cells [.int .i64 l[i].op, ng, mg, .str l[i].name, .int .i64 l[i].sort, kv], .cells [.int .i64 m[i].op, ng2, mg2, .str m[i].name, .int .i64 m[i].sort, kv2]] := ⟨_, rfl⟩
      have hlen : L.length = 2 := by rw [hL]; rfl
      have hxL := ext_Sx (s := σ) (l := L) hr1 (by omega)
      have hrL := hr1.Sx (l := L) (by omega) (by omega)
      have hnL := Sx_n (s := σ) (l := L) hr1 (by omega)
      have fi := hS i c1 c1' (Sx σ L) _ _ hrL (by omega) (h6.x hxL) (h7.x hxL)
      rw [hL] at fi
      have hx3 : Ext s (Sx σ L) := hx.trans hxL
      rw [hL] at hx3 hrL hnL
      cases d : sameT l[i] m[i]
      · simp only [go_sem, ↓reduceIte, Nat.reduceMod, Nat.reduceEqDiff, Nat.reduceAdd, Nat.reduceMul, Nat.reduceSub, Nat.reduceLeDiff, Nat.reduceLT, Int.reduceEq, Int.reduceLT, Int.reduceLE, Int.reduceAdd, Int.reduceSub, Int.reduceNeg, reduceCtorEq, Nat.reduceShiftRight, Nat.reduceAnd, Nat.reduceBNe, hr1, g1, g2, g15, g16, g17, Int.ofNat_lt, c1, hv.ia c1, hw.ia c1', hat.ld, hat2.ld, hl6, hl7, fi, d, Bool.not_false]
        exact settled_bool hx3 (sameTs_at l m i c1 c1' d).symm
      · simp only [go_sem, ↓reduceIte, Nat.reduceMod, Nat.reduceEqDiff, Nat.reduceAdd, Nat.reduceMul, Nat.reduceSub, Nat.reduceLeDiff, Nat.reduceLT, Int.reduceEq, Int.reduceLT, Int.reduceLE, Int.reduceAdd, Int.reduceSub, Int.reduceNeg, reduceCtorEq, Nat.reduceShiftRight, Nat.reduceAnd, Nat.reduceBNe, hr1, g1, g2, g15, g16, g17, Int.ofNat_lt, c1, hv.ia c1, hw.ia c1', hat.ld, hat2.ld, hl6, hl7, fi, d, Bool.not_true]
        refine ⟨l.length - (i + 1), by omega, i + 1, _, Sx_nil _, hrL, hx3, by rw [hnL]; simp; omega, rfl, by omega, ?_, ?_⟩
        · intro j h1 h2 hj
          by_cases e : j = i
          · subst e; exact d
          · exact ha j h1 h2 (by omega)
        · rw [wrap_i64 (by omega) (by omega)]; congr 1
    · simp only [go_sem, ↓reduceIte, Nat.reduceMod, Nat.reduceEqDiff, Nat.reduceAdd, Nat.reduceMul, Nat.reduceSub, Nat.reduceLeDiff, Nat.reduceLT, Int.reduceEq, Int.reduceLT, Int.reduceLE, Int.reduceAdd, Int.reduceSub, Int.reduceNeg, reduceCtorEq, Nat.reduceShiftRight, Nat.reduceAnd, Nat.reduceBNe, g1, g2, g15, g16, g17, Int.ofNat_lt, c1]
      exact settled_bool hx (sameTs_all l m c0' fun j h1 h2 => ha j h1 h2 (by omega)).symm
  · simp only [go_sem, ↓reduceIte, Nat.reduceMod, Nat.reduceEqDiff, Nat.reduceAdd, Nat.reduceMul, Nat.reduceSub, Nat.reduceLeDiff, Nat.reduceLT, Int.reduceEq, Int.reduceLT, Int.reduceLE, Int.reduceAdd, Int.reduceSub, Int.reduceNeg, reduceCtorEq, Nat.reduceShiftRight, Nat.reduceAnd, Nat.reduceBNe, c0]
    rfl
theorem sameTm_ok : ∀ (n : Nat) (t u : T), t.size ≤ n → t.tame → ∀ (s : St) (cs ds : List AV), Room s → s.n.val + 14 * t.size + 9000 ≤ 50000 → RT6 s cs t → RT6 s ds u → CA F.term_Same [.agg cs, .agg ds] s = .ok (.bool (sameT t u)) s := by
  intro n
  induction n with
  | zero => intro t u h; have := T.size_kids t; omega
  | succ n ih =>
    intro t u hln htm s cs ds hr hn h h2
    obtain ⟨ng, mg, kv, rfl, hz, hk⟩ := h.ex
    obtain ⟨ng2, mg2, kv2, rfl, hz2, hk2⟩ := h2.ex
    have hsz := T.size_kids t
    have hle := T.length_le t.kids
    have hmg := (T.tame_kids htm).1
    obtain ⟨L, hL⟩ : ∃ L : List AO, L = [.cells [.int .i64 t.op, ng, mg, .str t.name, .int .i64 t.sort, kv], .cells [.int .i64 u.op, ng2, mg2, .str u.name, .int .i64 u.sort, kv2]] := ⟨_, rfl⟩
    have hlen : L.length = 2 := by rw [hL]; rfl
    have hx1 := ext_Sx (s := s) (l := L) hr (by omega)
    have hr1 := hr.Sx (l := L) (by omega) (by omega)
    have hn1 := Sx_n (s := s) (l := L) hr (by omega)
    have f1 := equalNat_ok (Sx s L) mg mg2 t.n.mag u.n.mag hr1 (by omega) (hz.mag.x hx1) (hz2.mag.x hx1)
    have f2 := equalF_ok t.kids u.kids (Sx s L) kv kv2 hr1 (by omega) (hk.x hx1) (hk2.x hx1) fun i h1 h2 σ cs ds hrs hns r1 r2 => by
      have a1 := T.size_at h1
      have a2 := T.sizes_take t.kids i h1
      have a3 := T.sizes_le t.kids (i + 1)
      have a4 := T.length_le (t.kids.take i)
      rw [List.length_take, Nat.min_eq_left (by omega)] at a4
      exact ih _ _ (by omega) (T.tame_at (T.tame_kids htm).2 h1) σ cs ds hrs (by omega) r1 r2
    rw [hL] at f1 f2
    have e1 := hz.neg
    have e2 := hz2.neg
    subst e1; subst e2
    rw [sameT_eq]
    have hne : ∀ {a b : Z}, a = b ↔ a.neg = b.neg ∧ a.mag = b.mag := by
      intro a b; cases a; cases b; simp
    by_cases d1 : t.op = u.op
    rotate_left
    · refine fn_of code_term_Same (by simp) ?_
      simp only [go_sem, ↓reduceIte, Nat.reduceMod, Nat.reduceEqDiff, Nat.reduceAdd, Nat.reduceMul, Nat.reduceSub, Nat.reduceLeDiff, Nat.reduceLT, Int.reduceEq, Int.reduceLT, Int.reduceLE, Int.reduceAdd, Int.reduceSub, Int.reduceNeg, reduceCtorEq, Nat.reduceShiftRight, Nat.reduceAnd, Nat.reduceBNe, hr, d1]
      exact settled_bool (ext_Sx hr (by simp)) (by simp)
    by_cases d2 : t.name = u.name
    rotate_left
    · refine fn_of code_term_Same (by simp) ?_
      simp only [go_sem, ↓reduceIte, Nat.reduceMod, Nat.reduceEqDiff, Nat.reduceAdd, Nat.reduceMul, Nat.reduceSub, Nat.reduceLeDiff, Nat.reduceLT, Int.reduceEq, Int.reduceLT, Int.reduceLE, Int.reduceAdd, Int.reduceSub, Int.reduceNeg, reduceCtorEq, Nat.reduceShiftRight, Nat.reduceAnd, Nat.reduceBNe, hr, d1, d2]
      exact settled_bool (ext_Sx hr (by simp)) (by simp)
    by_cases d3 : t.sort = u.sort
    rotate_left
    · refine fn_of code_term_Same (by simp) ?_
      simp only [go_sem, ↓reduceIte, Nat.reduceMod, Nat.reduceEqDiff, Nat.reduceAdd, Nat.reduceMul, Nat.reduceSub, Nat.reduceLeDiff, Nat.reduceLT, Int.reduceEq, Int.reduceLT, Int.reduceLE, Int.reduceAdd, Int.reduceSub, Int.reduceNeg, reduceCtorEq, Nat.reduceShiftRight, Nat.reduceAnd, Nat.reduceBNe, hr, d1, d2, d3]
      exact settled_bool (ext_Sx hr (by simp)) (by simp)
    by_cases d4 : t.n.neg = u.n.neg
    rotate_left
    · refine fn_of code_term_Same (by simp) ?_
      simp only [go_sem, ↓reduceIte, Nat.reduceMod, Nat.reduceEqDiff, Nat.reduceAdd, Nat.reduceMul, Nat.reduceSub, Nat.reduceLeDiff, Nat.reduceLT, Int.reduceEq, Int.reduceLT, Int.reduceLE, Int.reduceAdd, Int.reduceSub, Int.reduceNeg, reduceCtorEq, Nat.reduceShiftRight, Nat.reduceAnd, Nat.reduceBNe, hr, d1, d2, d3, d4]
      exact settled_bool (ext_Sx hr (by simp)) (by simp [hne, d4])
    rw [d1, d2, d3] at f1 f2 ⊢
    rw [d4] at f1 f2 ⊢
    by_cases d5 : t.n.mag = u.n.mag
    rotate_left
    · refine fn_of code_term_Same (by simp) ?_
      simp only [go_sem, ↓reduceIte, Nat.reduceMod, Nat.reduceEqDiff, Nat.reduceAdd, Nat.reduceMul, Nat.reduceSub, Nat.reduceLeDiff, Nat.reduceLT, Int.reduceEq, Int.reduceLT, Int.reduceLE, Int.reduceAdd, Int.reduceSub, Int.reduceNeg, reduceCtorEq, Nat.reduceShiftRight, Nat.reduceAnd, Nat.reduceBNe, hr, f1, d5]
      exact settled_bool (ext_Sx hr (by simp)) (by simp [hne, d5])
    have d6 : t.n = u.n := hne.mpr ⟨d4, d5⟩
    refine fn_of code_term_Same (by simp) ?_
    simp only [go_sem, ↓reduceIte, Nat.reduceMod, Nat.reduceEqDiff, Nat.reduceAdd, Nat.reduceMul, Nat.reduceSub, Nat.reduceLeDiff, Nat.reduceLT, Int.reduceEq, Int.reduceLT, Int.reduceLE, Int.reduceAdd, Int.reduceSub, Int.reduceNeg, reduceCtorEq, Nat.reduceShiftRight, Nat.reduceAnd, Nat.reduceBNe, hr, f1, d5, f2]
    exact settled_bool (ext_Sx hr (by simp)) (by simp [d6])
end Go.Proofs.YtjnejkganejdbaaGreat
