/- Functions of the program: counting, numbers. No condition. -/
import Derived.Test.YtfndnjmnakdglaaGreatDoorLibA
namespace Go.Proofs.YtfndnjmnakdglaaGreatDoor
open Go Go.Vm
variable [Tel]
set_option linter.unusedSectionVars false
set_option linter.unusedVariables false
set_option linter.unusedSimpArgs false
theorem fn_of {g : Vm.Id} {nt : Nat} {res : List Res} {body : CC} {args : List AV} {s s' : St} {r : AV} (hg : g.get (Vm.prog Go.Proofs.Tryz.prog) = .mk nt res body ∧ g.get BT = noB) (h : args.length ≤ nt)
    (hw : W CA body (fun f t => Rs (fun r0 s0 => Settled s r0 s0 r s') res f t) (fun _ _ _ => False) (fun f t => Rs (fun r0 s0 => Settled s r0 s0 r s') res f t) (frame0 args) (Sx s [])) : CA g args s = .ok r s' := cc_of hg (WF_S h hw)
theorem made_ok (s : St) (op : Int) : CA F.term_made [.int .i64 op] s = .ok (.bool (decide (5 ≤ op ∧ op ≤ 22))) s := by
  refine fn_of code_term_made (by simp) ?_
  by_cases h1 : 5 ≤ op
  · simp only [go_sem, ↓reduceIte, Nat.reduceMod, Nat.reduceEqDiff, h1]
    exact settled_bool (Ext.refl s) (by simp [*])
  · simp only [go_sem, ↓reduceIte, Nat.reduceMod, Nat.reduceEqDiff, h1, false_and]
    exact settled_bool (Ext.refl s) (by simp [*])
theorem isSort_ok (s : St) (n : Int) : CA F.term_IsSort [.int .i64 n] s = .ok (.bool (decide (n = 1 ∨ n = 2))) s := by
  refine fn_of code_term_IsSort (by simp) ?_
  by_cases h1 : n = 1
  · simp only [go_sem, ↓reduceIte, Nat.reduceMod, Nat.reduceEqDiff, h1, true_or]
    exact settled_bool (Ext.refl s) (by simp [*])
  · simp only [go_sem, ↓reduceIte, Nat.reduceMod, Nat.reduceEqDiff, h1, false_or]
    exact settled_bool (Ext.refl s) (by simp [*])
def kidsOk (op n : Int) : Bool :=
  if op = 5 ∨ op = 18 then decide (n = 1) else if op = 15 ∨ op = 16 ∨ op = 17 ∨ op = 19 ∨ op = 20 ∨ op = 21 ∨ op = 22 ∨ op = 9 ∨ op = 10 ∨ op = 8 then decide (n = 2) else if op = 12 then decide (n = 3) else decide (1 ≤ n)
theorem kids_ok (s : St) (op n : Int) : CA F.term_kids [.int .i64 op, .int .i64 n] s = .ok (.bool (kidsOk op n)) s := by
  refine fn_of code_term_kids (by simp) ?_
  have hc : op = 5 ∨ op = 18 ∨ op = 15 ∨ op = 16 ∨ op = 17 ∨ op = 19 ∨ op = 20 ∨ op = 21 ∨ op = 22 ∨ op = 9 ∨ op = 10 ∨ op = 8 ∨ op = 12 ∨ (op ≠ 5 ∧ op ≠ 18 ∧ op ≠ 15 ∧ op ≠ 16 ∧ op ≠ 17 ∧ op ≠ 19 ∧ op ≠ 20 ∧ op ≠ 21 ∧ op ≠ 22 ∧ op ≠ 9 ∧ op ≠ 10 ∧ op ≠ 8 ∧ op ≠ 12) := by omega
  rcases hc with rfl | rfl | rfl | rfl | rfl | rfl | rfl | rfl | rfl | rfl | rfl | rfl | rfl | ⟨h0, h1, h2, h3, h4, h5, h6, h7, h8, h9, h10, h11, h12⟩
  all_goals simp only [go_sem, ↓reduceIte, Nat.reduceMod, Nat.reduceEqDiff, Int.reduceEq, *]
  all_goals exact settled_bool (Ext.refl s) (by simp [kidsOk, *])
theorem args_ok (s : St) (op n : Int) : CA F.ref10_args [.int .i64 op, .int .i64 n] s = .ok (.bool (kidsOk op n)) s := by
  refine fn_of code_ref10_args (by simp) ?_
  have hc : op = 5 ∨ op = 18 ∨ op = 15 ∨ op = 16 ∨ op = 17 ∨ op = 19 ∨ op = 20 ∨ op = 21 ∨ op = 22 ∨ op = 9 ∨ op = 10 ∨ op = 8 ∨ op = 12 ∨ (op ≠ 5 ∧ op ≠ 18 ∧ op ≠ 15 ∧ op ≠ 16 ∧ op ≠ 17 ∧ op ≠ 19 ∧ op ≠ 20 ∧ op ≠ 21 ∧ op ≠ 22 ∧ op ≠ 9 ∧ op ≠ 10 ∧ op ≠ 8 ∧ op ≠ 12) := by omega
  rcases hc with rfl | rfl | rfl | rfl | rfl | rfl | rfl | rfl | rfl | rfl | rfl | rfl | rfl | ⟨h0, h1, h2, h3, h4, h5, h6, h7, h8, h9, h10, h11, h12⟩
  all_goals simp only [go_sem, ↓reduceIte, Nat.reduceMod, Nat.reduceEqDiff, Int.reduceEq, *]
  all_goals exact settled_bool (Ext.refl s) (by simp [kidsOk, *])
end Go.Proofs.YtfndnjmnakdglaaGreatDoor
namespace Go.Proofs.YtfndnjmnakdglaaGreatDoor
open Go Go.Vm
variable [Tel]
set_option linter.unusedSectionVars false
set_option linter.unusedVariables false
set_option linter.unusedSimpArgs false
def natIs (l : List Nat) : Bool := l.all (fun n => decide (n < 1000000000)) && decide (l.getLast? ≠ some 0)
theorem all_take {l : List Nat} {p : Nat → Bool} {i : Nat} (h : i < l.length) : (l.take (i + 1)).all p = ((l.take i).all p && p l[i]) := by
  rw [← List.take_append_getElem h, List.all_append]; simp
theorem all_false {l : List Nat} {p : Nat → Bool} {i : Nat} (h : i < l.length) (hp : p l[i] = false) : l.all p = false := by
  rw [Bool.eq_false_iff]; intro ha
  have := List.all_eq_true.mp ha l[i] (List.getElem_mem h)
  rw [hp] at this; cases this
theorem last_eq {l : List Nat} (h : 0 < l.length) : l.getLast? = some (l[l.length - 1]'(by omega)) := by
  rw [List.getLast?_eq_getElem?, List.getElem?_eq_getElem (by omega)]
theorem natIs_ok (s : St) (v : AV) (l : List Nat) (hv : Nats s v l) : CA F.nat_Is [v] s = .ok (.bool (natIs l)) s := by
  have hm := hv.most
  refine fn_of code_nat_Is (by simp) ?_
  simp only [go_sem, ↓reduceIte, Nat.reduceMod, Nat.reduceEqDiff, Nat.reduceAdd, Nat.reduceMul, Nat.reduceSub, Nat.reduceLeDiff, Nat.reduceLT, Int.reduceEq, Int.reduceLT, Int.reduceLE, Int.reduceAdd, Int.reduceSub, Int.reduceNeg, reduceCtorEq, Nat.reduceShiftRight, Nat.reduceAnd, Nat.reduceBNe, hv.vlen]
  refine W_inv (fun k f σ => ∃ i : Nat, Sx s [] = σ ∧ k = l.length - i ∧ i ≤ l.length ∧ (l.take i).all (fun n => decide (n < 1000000000)) = true ∧ (vv 0).get f = v ∧ (vv 5).get f = v ∧ (vv 6).get f = .int .i64 (l.length : Int) ∧ (vv 7).get f = .int .i64 (i : Int)) ?_ ⟨0, rfl, rfl, by omega, by simp, ?_⟩
  · rintro k f σ ⟨i, rfl, rfl, hi, ha, g0, g5, g6, g7⟩
    by_cases c1 : i < l.length
    · by_cases c2 : (1000000000 : Int) ≤ (l[i] : Int)
      · simp only [go_sem, ↓reduceIte, Nat.reduceMod, Nat.reduceEqDiff, Nat.reduceAdd, Nat.reduceMul, Nat.reduceSub, Nat.reduceLeDiff, Nat.reduceLT, Int.reduceEq, Int.reduceLT, Int.reduceLE, Int.reduceAdd, Int.reduceSub, Int.reduceNeg, reduceCtorEq, Nat.reduceShiftRight, Nat.reduceAnd, Nat.reduceBNe, g0, g5, g6, g7, Int.ofNat_lt, c1, c2, hv.ia c1, hv.u32 c1]
        refine settled_bool (Ext.refl s) ?_
        unfold natIs
        rw [all_false c1 (by simp; omega)]; rfl
      · simp only [go_sem, ↓reduceIte, Nat.reduceMod, Nat.reduceEqDiff, Nat.reduceAdd, Nat.reduceMul, Nat.reduceSub, Nat.reduceLeDiff, Nat.reduceLT, Int.reduceEq, Int.reduceLT, Int.reduceLE, Int.reduceAdd, Int.reduceSub, Int.reduceNeg, reduceCtorEq, Nat.reduceShiftRight, Nat.reduceAnd, Nat.reduceBNe, g0, g5, g6, g7, Int.ofNat_lt, c1, c2, hv.ia c1, hv.u32 c1]
        refine ⟨l.length - (i + 1), by omega, i + 1, rfl, by omega, ?_, ?_⟩
        · rw [all_take c1, ha]; simp; omega
        · rw [wrap_i64 (by omega) (by omega)]; congr 1
    · have e : i = l.length := by omega
      subst e
      rw [List.take_length] at ha
      by_cases c2 : (l.length : Int) = 0
      · have e : l = [] := List.eq_nil_of_length_eq_zero (by omega)
        simp only [go_sem, ↓reduceIte, Nat.reduceMod, Nat.reduceEqDiff, Nat.reduceAdd, Nat.reduceMul, Nat.reduceSub, Nat.reduceLeDiff, Nat.reduceLT, Int.reduceEq, Int.reduceLT, Int.reduceLE, Int.reduceAdd, Int.reduceSub, Int.reduceNeg, reduceCtorEq, Nat.reduceShiftRight, Nat.reduceAnd, Nat.reduceBNe, g0, g5, g6, g7, Int.ofNat_lt, c1, hv.vlen, c2]
        exact settled_bool (Ext.refl s) (by subst e; rfl)
      · have hlt : l.length - 1 < l.length := by omega
        have ew : IntKind.wrap .i64 ((l.length : Int) - 1) = ((l.length - 1 : Nat) : Int) := by rw [wrap_i64 (by omega) (by omega)]; omega
        simp only [go_sem, ↓reduceIte, Nat.reduceMod, Nat.reduceEqDiff, Nat.reduceAdd, Nat.reduceMul, Nat.reduceSub, Nat.reduceLeDiff, Nat.reduceLT, Int.reduceEq, Int.reduceLT, Int.reduceLE, Int.reduceAdd, Int.reduceSub, Int.reduceNeg, reduceCtorEq, Nat.reduceShiftRight, Nat.reduceAnd, Nat.reduceBNe, g0, g5, g6, g7, Int.ofNat_lt, c1, hv.vlen, c2, ew, hv.ia hlt, hv.u32 hlt]
        refine settled_bool (Ext.refl s) ?_
        unfold natIs
        rw [ha, last_eq (by omega), Bool.true_and]
        congr 1; apply propext
        constructor <;> intro h
        · intro e; apply h; simp at e; omega
        · intro e; apply h; congr 1; omega
  · simp only [go_sem, ↓reduceIte, Nat.reduceMod, Nat.reduceEqDiff, Nat.reduceAdd, Nat.reduceMul, Nat.reduceSub, Nat.reduceLeDiff, Nat.reduceLT, Int.reduceEq, Int.reduceLT, Int.reduceLE, Int.reduceAdd, Int.reduceSub, Int.reduceNeg, reduceCtorEq, Nat.reduceShiftRight, Nat.reduceAnd, Nat.reduceBNe]
    rfl
end Go.Proofs.YtfndnjmnakdglaaGreatDoor
namespace Go.Proofs.YtfndnjmnakdglaaGreatDoor
open Go Go.Vm
variable [Tel]
set_option linter.unusedSectionVars false
set_option linter.unusedVariables false
set_option linter.unusedSimpArgs false
theorem isNat_ok (s : St) (v : AV) (l : List Nat) (hv : Nats s v l) : CA F.ref1_IsNat [v] s = .ok (.bool (natIs l)) s := by
  have hm := hv.most
  refine fn_of code_ref1_IsNat (by simp) ?_
  simp only [go_sem, ↓reduceIte, Nat.reduceMod, Nat.reduceEqDiff, Nat.reduceAdd, Nat.reduceMul, Nat.reduceSub, Nat.reduceLeDiff, Nat.reduceLT, Int.reduceEq, Int.reduceLT, Int.reduceLE, Int.reduceAdd, Int.reduceSub, Int.reduceNeg, reduceCtorEq, Nat.reduceShiftRight, Nat.reduceAnd, Nat.reduceBNe, hv.vlen]
  refine W_inv (fun k f σ => ∃ i : Nat, Sx s [] = σ ∧ k = l.length - i ∧ i ≤ l.length ∧ (l.take i).all (fun n => decide (n < 1000000000)) = true ∧ (vv 0).get f = v ∧ (vv 3).get f = .int .i64 (i : Int)) ?_ ⟨0, rfl, rfl, by omega, by simp, ?_⟩
  · rintro k f σ ⟨i, rfl, rfl, hi, ha, g0, g3⟩
    by_cases c1 : i < l.length
    · by_cases c2 : (1000000000 : Int) ≤ (l[i] : Int)
      · simp only [go_sem, ↓reduceIte, Nat.reduceMod, Nat.reduceEqDiff, Nat.reduceAdd, Nat.reduceMul, Nat.reduceSub, Nat.reduceLeDiff, Nat.reduceLT, Int.reduceEq, Int.reduceLT, Int.reduceLE, Int.reduceAdd, Int.reduceSub, Int.reduceNeg, reduceCtorEq, Nat.reduceShiftRight, Nat.reduceAnd, Nat.reduceBNe, g0, g3, Int.ofNat_lt, c1, c2, hv.vlen, hv.ia c1, hv.u32 c1]
        refine settled_bool (Ext.refl s) ?_
        unfold natIs
        rw [all_false c1 (by simp; omega)]; rfl
      · simp only [go_sem, ↓reduceIte, Nat.reduceMod, Nat.reduceEqDiff, Nat.reduceAdd, Nat.reduceMul, Nat.reduceSub, Nat.reduceLeDiff, Nat.reduceLT, Int.reduceEq, Int.reduceLT, Int.reduceLE, Int.reduceAdd, Int.reduceSub, Int.reduceNeg, reduceCtorEq, Nat.reduceShiftRight, Nat.reduceAnd, Nat.reduceBNe, g0, g3, Int.ofNat_lt, c1, c2, hv.vlen, hv.ia c1, hv.u32 c1]
        refine ⟨l.length - (i + 1), by omega, i + 1, rfl, by omega, ?_, ?_⟩
        · rw [all_take c1, ha]; simp; omega
        · rw [wrap_i64 (by omega) (by omega)]; congr 1
    · have e : i = l.length := by omega
      subst e
      rw [List.take_length] at ha
      by_cases c2 : (l.length : Int) = 0
      · have e : l = [] := List.eq_nil_of_length_eq_zero (by omega)
        simp only [go_sem, ↓reduceIte, Nat.reduceMod, Nat.reduceEqDiff, Nat.reduceAdd, Nat.reduceMul, Nat.reduceSub, Nat.reduceLeDiff, Nat.reduceLT, Int.reduceEq, Int.reduceLT, Int.reduceLE, Int.reduceAdd, Int.reduceSub, Int.reduceNeg, reduceCtorEq, Nat.reduceShiftRight, Nat.reduceAnd, Nat.reduceBNe, g0, g3, Int.ofNat_lt, c1, hv.vlen, c2]
        exact settled_bool (Ext.refl s) (by subst e; rfl)
      · have hlt : l.length - 1 < l.length := by omega
        have ew : IntKind.wrap .i64 ((l.length : Int) - 1) = ((l.length - 1 : Nat) : Int) := by rw [wrap_i64 (by omega) (by omega)]; omega
        simp only [go_sem, ↓reduceIte, Nat.reduceMod, Nat.reduceEqDiff, Nat.reduceAdd, Nat.reduceMul, Nat.reduceSub, Nat.reduceLeDiff, Nat.reduceLT, Int.reduceEq, Int.reduceLT, Int.reduceLE, Int.reduceAdd, Int.reduceSub, Int.reduceNeg, reduceCtorEq, Nat.reduceShiftRight, Nat.reduceAnd, Nat.reduceBNe, g0, g3, Int.ofNat_lt, c1, hv.vlen, c2, ew, hv.ia hlt, hv.u32 hlt]
        refine settled_bool (Ext.refl s) ?_
        unfold natIs
        rw [ha, last_eq (by omega), Bool.true_and]
        congr 1; apply propext
        constructor <;> intro h
        · intro e; apply h; simp at e; omega
        · intro e; apply h; congr 1; omega
  · simp only [go_sem, ↓reduceIte, Nat.reduceMod, Nat.reduceEqDiff, Nat.reduceAdd, Nat.reduceMul, Nat.reduceSub, Nat.reduceLeDiff, Nat.reduceLT, Int.reduceEq, Int.reduceLT, Int.reduceLE, Int.reduceAdd, Int.reduceSub, Int.reduceNeg, reduceCtorEq, Nat.reduceShiftRight, Nat.reduceAnd, Nat.reduceBNe]
    rfl
theorem sameNat_ok (s : St) (v w : AV) (l m : List Nat) (hr : Room s) (hn : s.n.val + 9 * l.length ≤ 1000060000) (hv : Nats s v l) (hw : Nats s w m) : CA F.ref1_SameNat [v, w] s = .ok (.bool (decide (l = m))) s := by
  have hm := hv.most
  refine fn_of code_ref1_SameNat (by simp) ?_
  by_cases c0 : (l.length : Int) = (m.length : Int)
  · have c0' : l.length = m.length := by omega
    simp only [go_sem, ↓reduceIte, Nat.reduceMod, Nat.reduceEqDiff, Nat.reduceAdd, Nat.reduceMul, Nat.reduceSub, Nat.reduceLeDiff, Nat.reduceLT, Int.reduceEq, Int.reduceLT, Int.reduceLE, Int.reduceAdd, Int.reduceSub, Int.reduceNeg, reduceCtorEq, Nat.reduceShiftRight, Nat.reduceAnd, Nat.reduceBNe, hv.vlen, hw.vlen, ne_eq, c0, not_true_eq_false]
    refine W_inv (fun k f τ => ∃ i : Nat, ∃ σ : St, Sx σ [] = τ ∧ Room σ ∧ Ext s σ ∧ σ.n.val ≤ s.n.val + 9 * i ∧ k = l.length - i ∧ i ≤ l.length ∧ l.take i = m.take i ∧ (vv 0).get f = v ∧ (vv 1).get f = w ∧ (vv 5).get f = .int .i64 (i : Int)) ?_ ⟨0, s, rfl, hr, Ext.refl s, by omega, rfl, by omega, by simp, ?_⟩
    · rintro k f τ ⟨i, σ, rfl, hr1, hx, hn1, rfl, hi, ha, g0, g1, g5⟩
      have hv1 := hv.x hx
      have hw1 := hw.x hx
      by_cases c1 : i < l.length
      · have c1' : i < m.length := by omega
        simp only [go_sem, ↓reduceIte, Nat.reduceMod, Nat.reduceEqDiff, Nat.reduceAdd, Nat.reduceMul, Nat.reduceSub, Nat.reduceLeDiff, Nat.reduceLT, Int.reduceEq, Int.reduceLT, Int.reduceLE, Int.reduceAdd, Int.reduceSub, Int.reduceNeg, reduceCtorEq, Nat.reduceShiftRight, Nat.reduceAnd, Nat.reduceBNe, g0, g1, g5, Int.ofNat_lt, c1, hv.vlen]
        refine W_drawn hr1 _ (by simp) ?_
        have hx2 : Ext s (Sx σ [.dead, .dead, .dead, .dead, .dead, .dead, .dead, .dead, .dead]) := hx.trans (ext_Sx hr1 (by simp))
        by_cases c2 : (l[i] : Int) = (m[i] : Int)
        · simp only [go_sem, ↓reduceIte, Nat.reduceMod, Nat.reduceEqDiff, Nat.reduceAdd, Nat.reduceMul, Nat.reduceSub, Nat.reduceLeDiff, Nat.reduceLT, Int.reduceEq, Int.reduceLT, Int.reduceLE, Int.reduceAdd, Int.reduceSub, Int.reduceNeg, reduceCtorEq, Nat.reduceShiftRight, Nat.reduceAnd, Nat.reduceBNe, g0, g1, g5, hr1, hv1.ia c1, hw1.ia c1', hv1.u32 c1, hw1.u32 c1', ne_eq, c2, not_true_eq_false]
          refine ⟨l.length - (i + 1), by omega, i + 1, _, Sx_nil _, hr1.Sx (by simp; omega) (by simp), hx2, ?_, rfl, by omega, ?_, ?_⟩
          · rw [Sx_n hr1 (by simp)]; simp; omega
          · rw [← List.take_append_getElem c1, ← List.take_append_getElem c1', ha]; congr 2; omega
          · rw [wrap_i64 (by omega) (by omega)]; congr 1
        · simp only [go_sem, ↓reduceIte, Nat.reduceMod, Nat.reduceEqDiff, Nat.reduceAdd, Nat.reduceMul, Nat.reduceSub, Nat.reduceLeDiff, Nat.reduceLT, Int.reduceEq, Int.reduceLT, Int.reduceLE, Int.reduceAdd, Int.reduceSub, Int.reduceNeg, reduceCtorEq, Nat.reduceShiftRight, Nat.reduceAnd, Nat.reduceBNe, g0, g1, g5, hr1, hv1.ia c1, hw1.ia c1', hv1.u32 c1, hw1.u32 c1', ne_eq, c2, not_false_eq_true]
          refine settled_bool hx2 ?_
          rw [eq_comm, decide_eq_false_iff_not]
          intro e; subst e; exact c2 rfl
      · have e : i = l.length := by omega
        subst e
        rw [List.take_length, c0', List.take_length] at ha
        simp only [go_sem, ↓reduceIte, Nat.reduceMod, Nat.reduceEqDiff, Nat.reduceAdd, Nat.reduceMul, Nat.reduceSub, Nat.reduceLeDiff, Nat.reduceLT, Int.reduceEq, Int.reduceLT, Int.reduceLE, Int.reduceAdd, Int.reduceSub, Int.reduceNeg, reduceCtorEq, Nat.reduceShiftRight, Nat.reduceAnd, Nat.reduceBNe, g0, g1, g5, Int.ofNat_lt, c1, hv.vlen]
        exact settled_bool hx (by rw [eq_comm, decide_eq_true_iff]; exact ha)
    · simp only [go_sem, ↓reduceIte, Nat.reduceMod, Nat.reduceEqDiff, Nat.reduceAdd, Nat.reduceMul, Nat.reduceSub, Nat.reduceLeDiff, Nat.reduceLT, Int.reduceEq, Int.reduceLT, Int.reduceLE, Int.reduceAdd, Int.reduceSub, Int.reduceNeg, reduceCtorEq, Nat.reduceShiftRight, Nat.reduceAnd, Nat.reduceBNe]
      rfl
  · simp only [go_sem, ↓reduceIte, Nat.reduceMod, Nat.reduceEqDiff, Nat.reduceAdd, Nat.reduceMul, Nat.reduceSub, Nat.reduceLeDiff, Nat.reduceLT, Int.reduceEq, Int.reduceLT, Int.reduceLE, Int.reduceAdd, Int.reduceSub, Int.reduceNeg, reduceCtorEq, Nat.reduceShiftRight, Nat.reduceAnd, Nat.reduceBNe, hv.vlen, hw.vlen, ne_eq, c0, not_false_eq_true]
    exact settled_bool (Ext.refl s) (by rw [eq_comm, decide_eq_false_iff_not]; intro e; rw [e] at c0; exact c0 rfl)
end Go.Proofs.YtfndnjmnakdglaaGreatDoor
namespace Go.Proofs.YtfndnjmnakdglaaGreatDoor
open Go Go.Vm
variable [Tel]
set_option linter.unusedSectionVars false
set_option linter.unusedVariables false
set_option linter.unusedSimpArgs false
theorem equal_ok (s : St) (n1 m1 n2 m2 : AV) (z w : Z) (hr : Room s) (hn : s.n.val + 9 * z.mag.length + 2 ≤ 1000060000) (hz : RZ s n1 m1 z) (hw : RZ s n2 m2 w) : CA F.ref1_Equal [.agg [n1, m1], .agg [n2, m2]] s = .ok (.bool (decide (z = w))) s := by
  obtain ⟨zn, zm⟩ := z
  obtain ⟨wn, wm⟩ := w
  obtain ⟨rfl, hz2⟩ := hz
  obtain ⟨rfl, hw2⟩ := hw
  simp only at hz2 hw2 hn
  refine fn_of code_ref1_Equal (by simp) ?_
  by_cases c : zn = wn
  · have hcall := sameNat_ok (Sx s [.cells [.bool zn, m1], .cells [.bool wn, m2]]) m1 m2 zm wm (hr.Sx (by simp; omega) (by simp)) (by rw [Sx_n hr (by simp)]; simp; omega) (hz2.x (ext_Sx hr (by simp))) (hw2.x (ext_Sx hr (by simp)))
    subst c
    simp only [go_sem, ↓reduceIte, Nat.reduceMod, Nat.reduceEqDiff, Nat.reduceAdd, Nat.reduceMul, Nat.reduceSub, Nat.reduceLeDiff, Nat.reduceLT, Int.reduceEq, Int.reduceLT, Int.reduceLE, Int.reduceAdd, Int.reduceSub, Int.reduceNeg, reduceCtorEq, Nat.reduceShiftRight, Nat.reduceAnd, Nat.reduceBNe, hr, hcall]
    exact settled_bool (ext_Sx hr (by simp)) (by simp)
  · simp only [go_sem, ↓reduceIte, Nat.reduceMod, Nat.reduceEqDiff, Nat.reduceAdd, Nat.reduceMul, Nat.reduceSub, Nat.reduceLeDiff, Nat.reduceLT, Int.reduceEq, Int.reduceLT, Int.reduceLE, Int.reduceAdd, Int.reduceSub, Int.reduceNeg, reduceCtorEq, Nat.reduceShiftRight, Nat.reduceAnd, Nat.reduceBNe, hr, c]
    exact settled_bool (ext_Sx hr (by simp)) (by simp [c])
def zIs (z : Z) : Bool := natIs z.mag && (!z.neg || decide (z.mag ≠ []))
theorem len_pos {α : Type} (l : List α) : (0 < (l.length : Int)) = (l ≠ []) := by cases l <;> simp
theorem ref1_Is_ok (s : St) (n m : AV) (z : Z) (hr : Room s) (hz : RZ s n m z) : CA F.ref1_Is [.agg [n, m]] s = .ok (.bool (zIs z)) s := by
  obtain ⟨zn, zm⟩ := z
  obtain ⟨rfl, hz2⟩ := hz
  simp only at hz2
  refine fn_of code_ref1_Is (by simp) ?_
  have hcall := isNat_ok (Sx s [.cells [.bool zn, m]]) m zm (hz2.x (ext_Sx hr (by simp)))
  cases c : natIs zm
  · simp only [go_sem, ↓reduceIte, Nat.reduceMod, Nat.reduceEqDiff, Nat.reduceAdd, Nat.reduceMul, Nat.reduceSub, Nat.reduceLeDiff, Nat.reduceLT, Int.reduceEq, Int.reduceLT, Int.reduceLE, Int.reduceAdd, Int.reduceSub, Int.reduceNeg, reduceCtorEq, Nat.reduceShiftRight, Nat.reduceAnd, Nat.reduceBNe, hr, hcall, c]
    exact settled_bool (ext_Sx hr (by simp)) (by simp [zIs, c])
  · cases zn
    · simp only [go_sem, ↓reduceIte, Nat.reduceMod, Nat.reduceEqDiff, Nat.reduceAdd, Nat.reduceMul, Nat.reduceSub, Nat.reduceLeDiff, Nat.reduceLT, Int.reduceEq, Int.reduceLT, Int.reduceLE, Int.reduceAdd, Int.reduceSub, Int.reduceNeg, reduceCtorEq, Nat.reduceShiftRight, Nat.reduceAnd, Nat.reduceBNe, hr, hcall, c, Bool.not_false, Bool.not_true]
      exact settled_bool (ext_Sx hr (by simp)) (by simp [zIs, c])
    · simp only [go_sem, ↓reduceIte, Nat.reduceMod, Nat.reduceEqDiff, Nat.reduceAdd, Nat.reduceMul, Nat.reduceSub, Nat.reduceLeDiff, Nat.reduceLT, Int.reduceEq, Int.reduceLT, Int.reduceLE, Int.reduceAdd, Int.reduceSub, Int.reduceNeg, reduceCtorEq, Nat.reduceShiftRight, Nat.reduceAnd, Nat.reduceBNe, hr, hcall, c, Bool.not_false, Bool.not_true, hz2.vlen]
      exact settled_bool (ext_Sx hr (by simp)) (by simp only [zIs, c, len_pos]; simp)
theorem whole_Is_ok (s : St) (n m : AV) (z : Z) (hr : Room s) (hz : RZ s n m z) : CA F.whole_Is [.agg [n, m]] s = .ok (.bool (zIs z)) s := by
  obtain ⟨zn, zm⟩ := z
  obtain ⟨rfl, hz2⟩ := hz
  simp only at hz2
  refine fn_of code_whole_Is (by simp) ?_
  have hcall := natIs_ok (Sx s [.cells [.bool zn, m]]) m zm (hz2.x (ext_Sx hr (by simp)))
  cases c : natIs zm
  · simp only [go_sem, ↓reduceIte, Nat.reduceMod, Nat.reduceEqDiff, Nat.reduceAdd, Nat.reduceMul, Nat.reduceSub, Nat.reduceLeDiff, Nat.reduceLT, Int.reduceEq, Int.reduceLT, Int.reduceLE, Int.reduceAdd, Int.reduceSub, Int.reduceNeg, reduceCtorEq, Nat.reduceShiftRight, Nat.reduceAnd, Nat.reduceBNe, hr, hcall, c]
    exact settled_bool (ext_Sx hr (by simp)) (by simp [zIs, c])
  · by_cases c2 : 0 < (zm.length : Int)
    · simp only [go_sem, ↓reduceIte, Nat.reduceMod, Nat.reduceEqDiff, Nat.reduceAdd, Nat.reduceMul, Nat.reduceSub, Nat.reduceLeDiff, Nat.reduceLT, Int.reduceEq, Int.reduceLT, Int.reduceLE, Int.reduceAdd, Int.reduceSub, Int.reduceNeg, reduceCtorEq, Nat.reduceShiftRight, Nat.reduceAnd, Nat.reduceBNe, hr, hcall, c, hz2.vlen, c2]
      refine settled_bool (ext_Sx hr (by simp)) ?_
      rw [len_pos] at c2
      simp [zIs, c, c2]
    · simp only [go_sem, ↓reduceIte, Nat.reduceMod, Nat.reduceEqDiff, Nat.reduceAdd, Nat.reduceMul, Nat.reduceSub, Nat.reduceLeDiff, Nat.reduceLT, Int.reduceEq, Int.reduceLT, Int.reduceLE, Int.reduceAdd, Int.reduceSub, Int.reduceNeg, reduceCtorEq, Nat.reduceShiftRight, Nat.reduceAnd, Nat.reduceBNe, hr, hcall, c, hz2.vlen, c2]
      refine settled_bool (ext_Sx hr (by simp)) ?_
      rw [len_pos] at c2
      simp at c2
      subst c2
      simp [zIs, show natIs [] = true from rfl]
def hd (l : List Nat) : List Nat := if natIs l then l else []
theorem held_ok (s : St) (v : AV) (l : List Nat) (hv : Nats s v l) : CA F.nat_held [v] s = .ok (if natIs l then v else .nils) s := by
  refine fn_of code_nat_held (by simp) ?_
  have hcall := natIs_ok (Sx s []) v l hv
  cases c : natIs l
  · simp only [go_sem, ↓reduceIte, Nat.reduceMod, Nat.reduceEqDiff, Nat.reduceAdd, Nat.reduceMul, Nat.reduceSub, Nat.reduceLeDiff, Nat.reduceLT, Int.reduceEq, Int.reduceLT, Int.reduceLE, Int.reduceAdd, Int.reduceSub, Int.reduceNeg, reduceCtorEq, Nat.reduceShiftRight, Nat.reduceAnd, Nat.reduceBNe, hcall, c, Bool.not_false]
    exact settled_ov (Ext.refl s) (ov_nils _)
  · simp only [go_sem, ↓reduceIte, Nat.reduceMod, Nat.reduceEqDiff, Nat.reduceAdd, Nat.reduceMul, Nat.reduceSub, Nat.reduceLeDiff, Nat.reduceLT, Int.reduceEq, Int.reduceLT, Int.reduceLE, Int.reduceAdd, Int.reduceSub, Int.reduceNeg, reduceCtorEq, Nat.reduceShiftRight, Nat.reduceAnd, Nat.reduceBNe, hcall, c, Bool.not_true]
    exact settled_ov (Ext.refl s) hv.sl.ov
theorem nats_nil (s : St) : Nats s .nils [] := ⟨.nils, rfl, fun i h => by simp at h⟩
theorem held_rep {s : St} {v : AV} {l : List Nat} (hv : Nats s v l) : Nats s (if natIs l then v else .nils) (hd l) := by
  unfold hd
  cases natIs l
  · exact nats_nil s
  · exact hv
theorem isNaN_int_ok (s : St) (x : Int) : CA F.cmp_isNaN_int [.int .i64 x] s = .ok (.bool false) s := by
  refine fn_of code_cmp_isNaN_int (by simp) ?_
  simp only [go_sem, ↓reduceIte, Nat.reduceMod, Nat.reduceEqDiff, Nat.reduceAdd, Nat.reduceMul, Nat.reduceSub, Nat.reduceLeDiff, Nat.reduceLT, Int.reduceEq, Int.reduceLT, Int.reduceLE, Int.reduceAdd, Int.reduceSub, Int.reduceNeg, reduceCtorEq, Nat.reduceShiftRight, Nat.reduceAnd, Nat.reduceBNe, ne_eq, not_true_eq_false]
  exact settled_bool (Ext.refl s) rfl
theorem isNaN_uint32_ok (s : St) (x : Int) : CA F.cmp_isNaN_uint32 [.int .u32 x] s = .ok (.bool false) s := by
  refine fn_of code_cmp_isNaN_uint32 (by simp) ?_
  simp only [go_sem, ↓reduceIte, Nat.reduceMod, Nat.reduceEqDiff, Nat.reduceAdd, Nat.reduceMul, Nat.reduceSub, Nat.reduceLeDiff, Nat.reduceLT, Int.reduceEq, Int.reduceLT, Int.reduceLE, Int.reduceAdd, Int.reduceSub, Int.reduceNeg, reduceCtorEq, Nat.reduceShiftRight, Nat.reduceAnd, Nat.reduceBNe, ne_eq, not_true_eq_false]
  exact settled_bool (Ext.refl s) rfl
def cmpI (a b : Int) : Int := if a < b then -1 else if b < a then 1 else 0
theorem compare_int_ok (s : St) (a b : Int) : CA F.cmp_Compare_int [.int .i64 a, .int .i64 b] s = .ok (.int .i64 (cmpI a b)) s := by
  refine fn_of code_cmp_Compare_int (by simp) ?_
  unfold cmpI
  by_cases c1 : a < b
  · simp only [go_sem, ↓reduceIte, Nat.reduceMod, Nat.reduceEqDiff, Nat.reduceAdd, Nat.reduceMul, Nat.reduceSub, Nat.reduceLeDiff, Nat.reduceLT, Int.reduceEq, Int.reduceLT, Int.reduceLE, Int.reduceAdd, Int.reduceSub, Int.reduceNeg, reduceCtorEq, Nat.reduceShiftRight, Nat.reduceAnd, Nat.reduceBNe, isNaN_int_ok, c1]
    exact settled_int (Ext.refl s) rfl
  · by_cases c2 : b < a
    · simp only [go_sem, ↓reduceIte, Nat.reduceMod, Nat.reduceEqDiff, Nat.reduceAdd, Nat.reduceMul, Nat.reduceSub, Nat.reduceLeDiff, Nat.reduceLT, Int.reduceEq, Int.reduceLT, Int.reduceLE, Int.reduceAdd, Int.reduceSub, Int.reduceNeg, reduceCtorEq, Nat.reduceShiftRight, Nat.reduceAnd, Nat.reduceBNe, isNaN_int_ok, c1, c2]
      exact settled_int (Ext.refl s) rfl
    · simp only [go_sem, ↓reduceIte, Nat.reduceMod, Nat.reduceEqDiff, Nat.reduceAdd, Nat.reduceMul, Nat.reduceSub, Nat.reduceLeDiff, Nat.reduceLT, Int.reduceEq, Int.reduceLT, Int.reduceLE, Int.reduceAdd, Int.reduceSub, Int.reduceNeg, reduceCtorEq, Nat.reduceShiftRight, Nat.reduceAnd, Nat.reduceBNe, isNaN_int_ok, c1, c2]
      exact settled_int (Ext.refl s) rfl
theorem compare_uint32_ok (s : St) (a b : Int) : CA F.cmp_Compare_uint32 [.int .u32 a, .int .u32 b] s = .ok (.int .i64 (cmpI a b)) s := by
  refine fn_of code_cmp_Compare_uint32 (by simp) ?_
  unfold cmpI
  by_cases c1 : a < b
  · simp only [go_sem, ↓reduceIte, Nat.reduceMod, Nat.reduceEqDiff, Nat.reduceAdd, Nat.reduceMul, Nat.reduceSub, Nat.reduceLeDiff, Nat.reduceLT, Int.reduceEq, Int.reduceLT, Int.reduceLE, Int.reduceAdd, Int.reduceSub, Int.reduceNeg, reduceCtorEq, Nat.reduceShiftRight, Nat.reduceAnd, Nat.reduceBNe, isNaN_uint32_ok, c1]
    exact settled_int (Ext.refl s) rfl
  · by_cases c2 : b < a
    · simp only [go_sem, ↓reduceIte, Nat.reduceMod, Nat.reduceEqDiff, Nat.reduceAdd, Nat.reduceMul, Nat.reduceSub, Nat.reduceLeDiff, Nat.reduceLT, Int.reduceEq, Int.reduceLT, Int.reduceLE, Int.reduceAdd, Int.reduceSub, Int.reduceNeg, reduceCtorEq, Nat.reduceShiftRight, Nat.reduceAnd, Nat.reduceBNe, isNaN_uint32_ok, c1, c2]
      exact settled_int (Ext.refl s) rfl
    · simp only [go_sem, ↓reduceIte, Nat.reduceMod, Nat.reduceEqDiff, Nat.reduceAdd, Nat.reduceMul, Nat.reduceSub, Nat.reduceLeDiff, Nat.reduceLT, Int.reduceEq, Int.reduceLT, Int.reduceLE, Int.reduceAdd, Int.reduceSub, Int.reduceNeg, reduceCtorEq, Nat.reduceShiftRight, Nat.reduceAnd, Nat.reduceBNe, isNaN_uint32_ok, c1, c2]
      exact settled_int (Ext.refl s) rfl
theorem none_ok (s : St) (v : AV) (l : List Nat) (hr : Room s) (hv : Nats s v l) : CA F.whole_size_none [.agg [v]] s = .ok (.bool (decide (l = []))) s := by
  refine fn_of code_whole_size_none (by simp) ?_
  simp only [go_sem, ↓reduceIte, Nat.reduceMod, Nat.reduceEqDiff, Nat.reduceAdd, Nat.reduceMul, Nat.reduceSub, Nat.reduceLeDiff, Nat.reduceLT, Int.reduceEq, Int.reduceLT, Int.reduceLE, Int.reduceAdd, Int.reduceSub, Int.reduceNeg, reduceCtorEq, Nat.reduceShiftRight, Nat.reduceAnd, Nat.reduceBNe, hr, hv.vlen]
  exact settled_bool (ext_Sx hr (by simp)) (by cases l <;> simp; omega)
end Go.Proofs.YtfndnjmnakdglaaGreatDoor
namespace Go.Proofs.YtfndnjmnakdglaaGreatDoor
set_option linter.unusedVariables false
def val : List Nat → Nat
  | [] => 0
  | a :: l => a + 1000000000 * val l
def lims (n : Nat) : List Nat := if h : n = 0 then [] else n % 1000000000 :: lims (n / 1000000000)
termination_by n
decreasing_by omega
theorem lims_0 : lims 0 = [] := by rw [lims]; simp
theorem lims_pos {n : Nat} (h : n ≠ 0) : lims n = n % 1000000000 :: lims (n / 1000000000) := by rw [lims, dif_neg h]
theorem val_lims (n : Nat) : val (lims n) = n := by
  induction n using Nat.strongRecOn with
  | ind n ih =>
    by_cases h : n = 0
    · subst h; rw [lims_0]; rfl
    · rw [lims_pos h, val, ih _ (by omega)]; omega
theorem natIs_nil : natIs [] = true := rfl
theorem natIs_cons (a : Nat) (l : List Nat) : natIs (a :: l) = (decide (a < 1000000000) && (natIs l && decide (l ≠ [] ∨ a ≠ 0))) := by
  cases l with
  | nil => simp [natIs]
  | cons b l => simp only [natIs, List.all_cons, List.getLast?_cons_cons]; simp [Bool.and_assoc]
theorem val_zero {l : List Nat} (h : natIs l = true) : val l = 0 ↔ l = [] := by
  induction l with
  | nil => simp [val]
  | cons a l ih =>
    rw [natIs_cons] at h
    simp only [Bool.and_eq_true, decide_eq_true_eq] at h
    simp only [val, reduceCtorEq, iff_false]
    intro e
    have e1 : val l = 0 := by omega
    rw [ih h.2.1] at e1
    rcases h.2.2 with h3 | h3
    · exact h3 e1
    · omega
theorem lims_is (n : Nat) : natIs (lims n) = true := by
  induction n using Nat.strongRecOn with
  | ind n ih =>
    by_cases h : n = 0
    · subst h; rw [lims_0]; rfl
    · rw [lims_pos h, natIs_cons]
      have hi := ih (n / 1000000000) (by omega)
      rw [hi]
      simp only [Bool.true_and, Bool.and_eq_true, decide_eq_true_eq]
      refine ⟨by omega, ?_⟩
      by_cases h2 : n / 1000000000 = 0
      · right; omega
      · left; intro e
        have := val_lims (n / 1000000000)
        rw [e] at this
        exact h2 this.symm
theorem lims_val {l : List Nat} (h : natIs l = true) : lims (val l) = l := by
  induction l with
  | nil => exact lims_0
  | cons a l ih =>
    have h' := h
    rw [natIs_cons] at h'
    simp only [Bool.and_eq_true, decide_eq_true_eq] at h'
    have hne : val (a :: l) ≠ 0 := by rw [Ne, val_zero h]; simp
    rw [lims_pos hne]
    have e1 : val (a :: l) % 1000000000 = a := by simp only [val]; omega
    have e2 : val (a :: l) / 1000000000 = val l := by simp only [val]; omega
    rw [e1, e2, ih h'.2.1]
theorem val_append (a b : List Nat) : val (a ++ b) = val a + 1000000000 ^ a.length * val b := by
  induction a with
  | nil => simp [val]
  | cons x a ih => simp only [List.cons_append, val, List.length_cons, ih, Nat.pow_succ]; rw [Nat.mul_add, Nat.mul_comm (1000000000 ^ a.length) 1000000000, Nat.mul_assoc]; omega
def small (l : List Nat) : Prop := ∀ a ∈ l, a < 1000000000
theorem natIs_small {l : List Nat} (h : natIs l = true) : small l := by
  intro a ha
  unfold natIs at h
  simp only [Bool.and_eq_true] at h
  have := List.all_eq_true.mp h.1 a ha
  simpa using this
theorem val_lt {l : List Nat} (h : small l) : val l < 1000000000 ^ l.length := by
  induction l with
  | nil => simp [val]
  | cons a l ih =>
    have h1 : a < 1000000000 := h a (by simp)
    have h2 := ih (fun b hb => h b (by simp [hb]))
    simp only [val, List.length_cons, Nat.pow_succ]
    omega
theorem val_ge {l : List Nat} (h : natIs l = true) (hne : l ≠ []) : 1000000000 ^ (l.length - 1) ≤ val l := by
  have hl := List.dropLast_concat_getLast hne
  have hlast : l.getLast hne ≠ 0 := by
    unfold natIs at h
    simp only [Bool.and_eq_true, decide_eq_true_eq] at h
    intro e
    apply h.2
    rw [← hl, List.getLast?_append, e]; rfl
  rw [← hl, val_append]
  simp only [val, List.length_append, List.length_dropLast, List.length_singleton, Nat.mul_zero, Nat.add_zero, Nat.add_sub_cancel]
  have : 1 ≤ l.getLast hne := by omega
  calc 1000000000 ^ (l.length - 1) = 1000000000 ^ (l.length - 1) * 1 := by omega
    _ ≤ 1000000000 ^ (l.length - 1) * l.getLast hne := Nat.mul_le_mul_left _ this
    _ ≤ _ := by omega
theorem val_shorter {a b : List Nat} (ha : natIs a = true) (hb : natIs b = true) (h : a.length < b.length) : val a < val b := by
  have h1 := val_lt (natIs_small ha)
  have hne : b ≠ [] := by intro e; subst e; simp at h
  have h2 := val_ge hb hne
  have h3 : 1000000000 ^ a.length ≤ 1000000000 ^ (b.length - 1) := Nat.pow_le_pow_right (by omega) (by omega)
  omega
theorem val_at {l : List Nat} {i : Nat} (h : i < l.length) : val l = val (l.take i) + 1000000000 ^ i * (l[i] + 1000000000 * val (l.drop (i + 1))) := by
  have e : l = l.take i ++ (l[i] :: l.drop (i + 1)) := by rw [← List.drop_eq_getElem_cons h, List.take_append_drop]
  conv => lhs; rw [e]
  rw [val_append, List.length_take, Nat.min_eq_left (by omega)]; rfl
theorem val_top {a b : List Nat} {i : Nat} (ha : small a) (hb : small b) (h1 : i < a.length) (h2 : i < b.length) (hd : a.drop (i + 1) = b.drop (i + 1)) (h : a[i] < b[i]) : val a < val b := by
  rw [val_at h1, val_at h2, hd]
  have h3 : val (a.take i) < 1000000000 ^ i := by
    have := val_lt (l := a.take i) (fun x hx => ha x (List.mem_of_mem_take hx))
    rw [List.length_take, Nat.min_eq_left (by omega)] at this; exact this
  have h4 : 1000000000 ^ i * (a[i] + 1000000000 * val (b.drop (i + 1))) + 1000000000 ^ i ≤ 1000000000 ^ i * (b[i] + 1000000000 * val (b.drop (i + 1))) := by
    rw [← Nat.mul_succ]
    exact Nat.mul_le_mul_left _ (by omega)
  omega
theorem val_snoc (l : List Nat) (a : Nat) : val (l ++ [a]) = val l + 1000000000 ^ l.length * a := by rw [val_append]; simp [val]
def trim0 (l : List Nat) : List Nat := (l.reverse.dropWhile (fun a => decide (a = 0))).reverse
theorem trim0_snoc (l : List Nat) (a : Nat) : trim0 (l ++ [a]) = if a = 0 then trim0 l else l ++ [a] := by
  unfold trim0
  rw [List.reverse_append]
  simp only [List.reverse_cons, List.reverse_nil, List.nil_append, List.singleton_append, List.dropWhile_cons, decide_eq_true_eq]
  split
  · rfl
  · simp
theorem trim0_eq {l : List Nat} (h : small l) : trim0 l = lims (val l) := by
  have key : ∀ n, ∀ l : List Nat, l.length = n → small l → natIs (trim0 l) = true ∧ val (trim0 l) = val l := by
    intro n
    induction n with
    | zero => intro l hl _; have := List.eq_nil_of_length_eq_zero hl; subst this; exact ⟨rfl, rfl⟩
    | succ n ih =>
      intro l hl hs
      have hne : l ≠ [] := by intro e; subst e; simp at hl
      have e := List.dropLast_concat_getLast hne
      rw [← e, trim0_snoc]
      have hs' : small l.dropLast := fun a ha => hs a ((List.dropLast_sublist l).subset ha)
      obtain ⟨h1, h2⟩ := ih l.dropLast (by simp [hl]) hs'
      split
      · rename_i h0
        rw [h0, val_snoc]; exact ⟨h1, by omega⟩
      · rename_i h0
        refine ⟨?_, rfl⟩
        unfold natIs
        simp only [Bool.and_eq_true, decide_eq_true_eq, List.all_eq_true]
        refine ⟨fun a ha => ?_, by rw [List.getLast?_append]; simp [h0]⟩
        rcases List.mem_append.mp ha with ha | ha
        · exact hs' a ha
        · simp only [List.mem_singleton] at ha; rw [ha]; exact hs _ (List.getLast_mem hne)
  obtain ⟨h1, h2⟩ := key _ l rfl h
  rw [← h2, lims_val h1]
end Go.Proofs.YtfndnjmnakdglaaGreatDoor
namespace Go.Proofs.YtfndnjmnakdglaaGreatDoor
open Go Go.Vm
variable [Tel]
set_option linter.unusedSectionVars false
set_option linter.unusedVariables false
set_option linter.unusedSimpArgs false
theorem hd_is (l : List Nat) : natIs (hd l) = true := by unfold hd; split <;> simp_all [natIs_nil]
theorem hd_len (l : List Nat) : (hd l).length ≤ l.length := by unfold hd; split <;> simp
def vh (l : List Nat) : Nat := val (hd l)
theorem drop_eq {a b : List Nat} {i : Nat} (h1 : i < a.length) (h2 : i < b.length) (h : a.drop (i + 1) = b.drop (i + 1)) (e : a[i] = b[i]) : a.drop i = b.drop i := by
  rw [List.drop_eq_getElem_cons h1, List.drop_eq_getElem_cons h2, h, e]
theorem cmp_ok (s : St) (v w : AV) (l m : List Nat) (hr : Room s) (hn : s.n.val + 9 * l.length + 20 ≤ 1000060000) (hv : Nats s v l) (hw : Nats s w m) : CA F.nat_Cmp [v, w] s = .ok (.int .i64 (cmpI (vh l) (vh m))) s := by
  have e1 := hd_is l
  have e2 := hd_is m
  have e3 := hd_len l
  refine fn_of code_nat_Cmp (by simp) ?_
  simp only [go_sem, ↓reduceIte, Nat.reduceMod, Nat.reduceEqDiff, Nat.reduceAdd, Nat.reduceMul, Nat.reduceSub, Nat.reduceLeDiff, Nat.reduceLT, Int.reduceEq, Int.reduceLT, Int.reduceLE, Int.reduceAdd, Int.reduceSub, Int.reduceNeg, reduceCtorEq, Nat.reduceShiftRight, Nat.reduceAnd, Nat.reduceBNe, held_ok (Sx s []) v l hv, held_ok (Sx s []) w m hw]
  have hv1 := held_rep hv
  have hw1 := held_rep hw
  unfold vh
  generalize hd l = L at *
  generalize hd m = M at *
  generalize (if natIs l = true then v else .nils) = v at hv1 ⊢
  generalize (if natIs m = true then w else .nils) = w at hw1 ⊢
  have hm := hv1.most
  by_cases c0 : (L.length : Int) = (M.length : Int)
  · have c0' : L.length = M.length := by omega
    simp only [go_sem, ↓reduceIte, Nat.reduceMod, Nat.reduceEqDiff, Nat.reduceAdd, Nat.reduceMul, Nat.reduceSub, Nat.reduceLeDiff, Nat.reduceLT, Int.reduceEq, Int.reduceLT, Int.reduceLE, Int.reduceAdd, Int.reduceSub, Int.reduceNeg, reduceCtorEq, Nat.reduceShiftRight, Nat.reduceAnd, Nat.reduceBNe, hv1.vlen, hw1.vlen, ne_eq, c0, not_true_eq_false]
    refine W_inv (fun k f τ => ∃ i : Nat, ∃ σ : St, Sx σ [] = τ ∧ Room σ ∧ Ext s σ ∧ σ.n.val + 9 * i ≤ s.n.val + 9 * L.length ∧ k = i ∧ i ≤ L.length ∧ L.drop i = M.drop i ∧ (vv 0).get f = v ∧ (vv 1).get f = w ∧ (vv 5).get f = .int .i64 ((i : Int) - 1)) ?_ ⟨L.length, s, rfl, hr, Ext.refl s, by omega, rfl, by omega, by rw [List.drop_length, c0', List.drop_length], ?_⟩
    · rintro k f τ ⟨i, σ, rfl, hr1, hx, hn1, rfl, hi, ha, g0, g1, g5⟩
      have hv2 := hv1.x hx
      have hw2 := hw1.x hx
      cases k with
      | succ i =>
        have c1 : i < L.length := by omega
        have c1' : i < M.length := by omega
        have ei : ((i + 1 : Nat) : Int) - 1 = (i : Int) := by omega
        rw [ei] at g5
        have hx2 : Ext s (Sx σ [.dead, .dead, .dead, .dead, .dead, .dead, .dead, .dead, .dead]) := hx.trans (ext_Sx hr1 (by simp))
        have h0 : (0 : Int) ≤ (i : Int) := by omega
        simp only [go_sem, ↓reduceIte, Nat.reduceMod, Nat.reduceEqDiff, Nat.reduceAdd, Nat.reduceMul, Nat.reduceSub, Nat.reduceLeDiff, Nat.reduceLT, Int.reduceEq, Int.reduceLT, Int.reduceLE, Int.reduceAdd, Int.reduceSub, Int.reduceNeg, reduceCtorEq, Nat.reduceShiftRight, Nat.reduceAnd, Nat.reduceBNe, g0, g1, g5, h0]
        refine W_drawn hr1 _ (by simp) ?_
        by_cases c2 : (L[i] : Int) = (M[i] : Int)
        · simp only [go_sem, ↓reduceIte, Nat.reduceMod, Nat.reduceEqDiff, Nat.reduceAdd, Nat.reduceMul, Nat.reduceSub, Nat.reduceLeDiff, Nat.reduceLT, Int.reduceEq, Int.reduceLT, Int.reduceLE, Int.reduceAdd, Int.reduceSub, Int.reduceNeg, reduceCtorEq, Nat.reduceShiftRight, Nat.reduceAnd, Nat.reduceBNe, g0, g1, g5, hr1, hv2.ia c1, hw2.ia c1', hv2.u32 c1, hw2.u32 c1', ne_eq, c2, not_true_eq_false]
          refine ⟨i, by omega, i, _, Sx_nil _, hr1.Sx (by simp; omega) (by simp), hx2, ?_, rfl, by omega, drop_eq c1 c1' ha (by omega), ?_⟩
          · rw [Sx_n hr1 (by simp)]; simp; omega
          · rw [wrap_i64 (by omega) (by omega)]
        · simp only [go_sem, ↓reduceIte, Nat.reduceMod, Nat.reduceEqDiff, Nat.reduceAdd, Nat.reduceMul, Nat.reduceSub, Nat.reduceLeDiff, Nat.reduceLT, Int.reduceEq, Int.reduceLT, Int.reduceLE, Int.reduceAdd, Int.reduceSub, Int.reduceNeg, reduceCtorEq, Nat.reduceShiftRight, Nat.reduceAnd, Nat.reduceBNe, g0, g1, g5, hr1, hv2.ia c1, hw2.ia c1', hv2.u32 c1, hw2.u32 c1', ne_eq, c2, not_false_eq_true]
          refine W_drawn hr1 _ (by simp) ?_
          simp only [go_sem, ↓reduceIte, Nat.reduceMod, Nat.reduceEqDiff, Nat.reduceAdd, Nat.reduceMul, Nat.reduceSub, Nat.reduceLeDiff, Nat.reduceLT, Int.reduceEq, Int.reduceLT, Int.reduceLE, Int.reduceAdd, Int.reduceSub, Int.reduceNeg, reduceCtorEq, Nat.reduceShiftRight, Nat.reduceAnd, Nat.reduceBNe, g0, g1, g5, hr1, hv2.ia c1, hw2.ia c1', hv2.u32 c1, hw2.u32 c1', compare_uint32_ok]
          refine settled_int (hx.trans (ext_Sx hr1 (by simp))) ?_
          unfold cmpI
          by_cases c3 : L[i] < M[i]
          · have := val_top (natIs_small e1) (natIs_small e2) c1 c1' ha c3
            rw [if_pos (by omega), if_pos (by omega)]
          · have := val_top (natIs_small e2) (natIs_small e1) c1' c1 ha.symm (by omega)
            rw [if_neg (by omega), if_pos (by omega), if_neg (by omega), if_pos (by omega)]
      | zero =>
        have h0 : ¬ ((0 : Int) ≤ ((0 : Nat) : Int) - 1) := by omega
        simp only [go_sem, ↓reduceIte, Nat.reduceMod, Nat.reduceEqDiff, Nat.reduceAdd, Nat.reduceMul, Nat.reduceSub, Nat.reduceLeDiff, Nat.reduceLT, Int.reduceEq, Int.reduceLT, Int.reduceLE, Int.reduceAdd, Int.reduceSub, Int.reduceNeg, reduceCtorEq, Nat.reduceShiftRight, Nat.reduceAnd, Nat.reduceBNe, g0, g1, g5, h0]
        simp only [List.drop_zero] at ha
        subst ha
        exact settled_int hx (by simp [cmpI])
    · simp only [go_sem, ↓reduceIte, Nat.reduceMod, Nat.reduceEqDiff, Nat.reduceAdd, Nat.reduceMul, Nat.reduceSub, Nat.reduceLeDiff, Nat.reduceLT, Int.reduceEq, Int.reduceLT, Int.reduceLE, Int.reduceAdd, Int.reduceSub, Int.reduceNeg, reduceCtorEq, Nat.reduceShiftRight, Nat.reduceAnd, Nat.reduceBNe]
      rw [wrap_i64 (by omega) (by omega), c0']
  · simp only [go_sem, ↓reduceIte, Nat.reduceMod, Nat.reduceEqDiff, Nat.reduceAdd, Nat.reduceMul, Nat.reduceSub, Nat.reduceLeDiff, Nat.reduceLT, Int.reduceEq, Int.reduceLT, Int.reduceLE, Int.reduceAdd, Int.reduceSub, Int.reduceNeg, reduceCtorEq, Nat.reduceShiftRight, Nat.reduceAnd, Nat.reduceBNe, hv1.vlen, hw1.vlen, ne_eq, c0, not_false_eq_true, compare_int_ok]
    refine settled_int (Ext.refl s) ?_
    unfold cmpI
    by_cases c1 : L.length < M.length
    · have := val_shorter e1 e2 c1
      rw [if_pos (by omega), if_pos (by omega)]
    · have := val_shorter e2 e1 (by omega)
      rw [if_neg (by omega), if_pos (by omega), if_neg (by omega), if_pos (by omega)]
theorem over_ok (s : St) (v w : AV) (l m : List Nat) (hr : Room s) (hn : s.n.val + 9 * l.length + 30 ≤ 1000060000) (hv : Nats s v l) (hw : Nats s w m) : CA F.whole_size_over [.agg [v], .agg [w]] s = .ok (.bool (decide (vh m < vh l))) s := by
  refine fn_of code_whole_size_over (by simp) ?_
  have hcall := cmp_ok (Sx s [.cells [v], .cells [w]]) v w l m (hr.Sx (by simp; omega) (by simp)) (by rw [Sx_n hr (by simp)]; simp; omega) (hv.x (ext_Sx hr (by simp))) (hw.x (ext_Sx hr (by simp)))
  simp only [go_sem, ↓reduceIte, Nat.reduceMod, Nat.reduceEqDiff, Nat.reduceAdd, Nat.reduceMul, Nat.reduceSub, Nat.reduceLeDiff, Nat.reduceLT, Int.reduceEq, Int.reduceLT, Int.reduceLE, Int.reduceAdd, Int.reduceSub, Int.reduceNeg, reduceCtorEq, Nat.reduceShiftRight, Nat.reduceAnd, Nat.reduceBNe, hr, hcall]
  refine settled_bool (ext_Sx hr (by simp)) ?_
  congr 1; apply propext
  unfold cmpI
  constructor <;> intro h
  · by_cases c1 : (vh l : Int) < vh m
    · rw [if_pos c1] at h; omega
    · rw [if_neg c1] at h
      by_cases c2 : (vh m : Int) < vh l
      · omega
      · rw [if_neg c2] at h; omega
  · rw [if_neg (by omega), if_pos (by omega)]; omega
end Go.Proofs.YtfndnjmnakdglaaGreatDoor
namespace Go.Proofs.YtfndnjmnakdglaaGreatDoor
open Go Go.Vm
variable [Tel]
set_option linter.unusedSectionVars false
set_option linter.unusedVariables false
set_option linter.unusedSimpArgs false
theorem nats_row {s : St} {v : AV} {l : List Nat} (h : Nats s v l) : l.length ≤ (rowOf s v).length ∧ ∀ i (hi : i < l.length), (rowOf s v)[i]? = some (.int .u32 (l[i] : Int)) := by
  have key : ∀ i (hi : i < l.length), (rowOf s v)[i]? = some (.int .u32 (l[i] : Int)) := by
    intro i hi
    obtain ⟨t, ht⟩ := h.el i hi
    rw [Nat.mul_one] at ht
    have := congrArg (fun l => l[0]?) ht
    simpa using this
  refine ⟨?_, key⟩
  rcases Nat.eq_zero_or_pos l.length with h0 | h0
  · omega
  · have := (List.getElem?_eq_some_iff.mp (key (l.length - 1) (by omega))).1
    omega
def cellsN (l : List Nat) : List AV := l.map fun n : Nat => .int .u32 (n : Int)
theorem nats_take {s : St} {v : AV} {l : List Nat} (h : Nats s v l) : (rowOf s v).take l.length = cellsN l := by
  unfold cellsN
  apply List.ext_getElem?
  intro i
  rw [List.getElem?_take, List.getElem?_map]
  by_cases hi : i < l.length
  · rw [if_pos hi, (nats_row h).2 i hi, List.getElem?_eq_getElem hi]; rfl
  · rw [if_neg hi, List.getElem?_eq_none (by omega)]; rfl
theorem nats_ts {s : St} (l : List Nat) (hl : l.length ≤ 140737488355328) (cap : Nat) (ex : Bool) : Nats s (.ts (cellsN l) l.length cap ex) l := by
  refine ⟨.ts _ _ _ _ hl (fun c hc => ?_), rfl, fun i hi => ?_⟩
  · obtain ⟨n, _, rfl⟩ := List.mem_map.mp hc; exact ov_int _ _ _
  · show ∃ t, (cellsN l).drop (i * 1) = _
    rw [Nat.mul_one, List.drop_eq_getElem_cons (by simpa [cellsN] using hi)]
    exact ⟨(cellsN l).drop (i + 1), by simp [cellsN]⟩
theorem ov_nats {n : Nat} (l : List Nat) : ∀ c ∈ cellsN l, Ov n c := by
  intro c hc
  obtain ⟨m, _, rfl⟩ := List.mem_map.mp hc; exact ov_int _ _ _
theorem clone_nat_ok (s : St) (v : AV) (l : List Nat) (hr : Room s) (hl : l.length ≤ 1000000) (hv : Nats s v l) : ∃ r, CA F.slices_Clone_uint32_uint32 [v] s = .ok r s ∧ ∀ t, Nats t r l := by
  by_cases hn : v = .nils
  · subst hn
    have hl0 : l = [] := List.eq_nil_of_length_eq_zero (by rw [← hv.len]; rfl)
    refine ⟨.nils, ?_, fun t => by rw [hl0]; exact nats_nil t⟩
    refine fn_of code_slices_Clone_uint32_uint32 (by simp) ?_
    simp only [go_sem, ↓reduceIte, Nat.reduceMod, Nat.reduceEqDiff, Nat.reduceAdd, Nat.reduceMul, Nat.reduceSub, Nat.reduceLeDiff, Nat.reduceLT, Int.reduceEq, Int.reduceLT, Int.reduceLE, Int.reduceAdd, Int.reduceSub, Int.reduceNeg, reduceCtorEq, Nat.reduceShiftRight, Nat.reduceAnd, Nat.reduceBNe]
    exact settled_ov (Ext.refl s) (ov_nils _)
  · by_cases h0 : lenOf v = 0
    · have hl0 : l = [] := List.eq_nil_of_length_eq_zero (by rw [← hv.len]; exact h0)
      subst hl0
      refine ⟨.ts [] 0 0 false, ?_, fun t => nats_ts [] (by simp) 0 false⟩
      refine fn_of code_slices_Clone_uint32_uint32 (by simp) ?_
      have hx := ext_Sx (s := s) (l := [.cells []]) hr (by simp)
      simp only [go_sem, ↓reduceIte, Nat.reduceMod, Nat.reduceEqDiff, Nat.reduceAdd, Nat.reduceMul, Nat.reduceSub, Nat.reduceLeDiff, Nat.reduceLT, Int.reduceEq, Int.reduceLT, Int.reduceLE, Int.reduceAdd, Int.reduceSub, Int.reduceNeg, reduceCtorEq, Nat.reduceShiftRight, Nat.reduceAnd, Nat.reduceBNe, hr, vnileq_sl hv.sl hn, vapp_lit0 (i := 0) (L := [.cells []]) hr (by simp) rfl (hv.sl.ext hx) (by rw [rowOf_ext hx hv.sl, h0]; simp) h0]
      exact settled_fz hx (fz_own hr (by simp) rfl (by simp))
    · refine ⟨.ts (cellsN l) l.length l.length false, ?_, fun t => nats_ts l (by omega) _ _⟩
      refine fn_of code_slices_Clone_uint32_uint32 (by simp) ?_
      have hx := ext_Sx (s := s) (l := [.cells []]) hr (by simp)
      have hrow := (nats_row hv).1
      simp only [go_sem, ↓reduceIte, Nat.reduceMod, Nat.reduceEqDiff, Nat.reduceAdd, Nat.reduceMul, Nat.reduceSub, Nat.reduceLeDiff, Nat.reduceLT, Int.reduceEq, Int.reduceLT, Int.reduceLE, Int.reduceAdd, Int.reduceSub, Int.reduceNeg, reduceCtorEq, Nat.reduceShiftRight, Nat.reduceAnd, Nat.reduceBNe, hr, vnileq_sl hv.sl hn, vapp_lit (sz := 1) (bytes := 4) (i := 0) (L := [.cells []]) hr (by simp) rfl (hv.sl.ext hx) (by rw [rowOf_ext hx hv.sl, hv.len]; omega) (by rw [hv.len]; unfold limit; omega) h0, rowOf_ext hx hv.sl, hv.len, nats_take hv]
      have hf := fz_own (s := s) (L := [.cells [], .cells (cellsN l)]) hr (by simp) (i := 1) (o := 0) (len := l.length) (cap := l.length) (ex := 1) rfl (ov_nats l)
      exact settled_fz (ext_Sx hr (by simp)) hf
end Go.Proofs.YtfndnjmnakdglaaGreatDoor
namespace Go.Proofs.YtfndnjmnakdglaaGreatDoor
open Go Go.Vm
variable [Tel]
set_option linter.unusedSectionVars false
set_option linter.unusedVariables false
set_option linter.unusedSimpArgs false
def zh (z : Z) : Z := if zIs z then z else ⟨false, []⟩
theorem ov2 {n : Nat} {a b : AV} (h1 : Ov n a) (h2 : Ov n b) : Ov n (.agg [a, b]) := ov_agg (by intro c hc; simp at hc; rcases hc with rfl | rfl <;> assumption)
theorem of_ok (s : St) (n m : AV) (z : Z) (hr : Room s) (hn : s.n.val ≤ 1000059000) (hz : RZ s n m z) : CA F.whole_of [.agg [n, m]] s = .ok (.agg (if zIs z then [m, n] else [.nils, .bool false])) s := by
  obtain ⟨zn, zm⟩ := z
  obtain ⟨rfl, hz2⟩ := hz
  simp only at hz2
  refine fn_of code_whole_of (by simp) ?_
  have hx := ext_Sx (s := s) (l := [.cells [.bool zn, m], .cells [.nils, .bool false]]) hr (by simp)
  have hcall := whole_Is_ok (Sx s [.cells [.bool zn, m], .cells [.nils, .bool false]]) (.bool zn) m ⟨zn, zm⟩ (hr.Sx (by simp; omega) (by simp)) ⟨rfl, hz2.x hx⟩
  cases c : zIs ⟨zn, zm⟩
  · simp only [go_sem, ↓reduceIte, Nat.reduceMod, Nat.reduceEqDiff, Nat.reduceAdd, Nat.reduceMul, Nat.reduceSub, Nat.reduceLeDiff, Nat.reduceLT, Int.reduceEq, Int.reduceLT, Int.reduceLE, Int.reduceAdd, Int.reduceSub, Int.reduceNeg, reduceCtorEq, Nat.reduceShiftRight, Nat.reduceAnd, Nat.reduceBNe, hr, hcall, c, Bool.not_false, hz2.one]
    exact settled_ov (ext_Sx hr (by simp)) (ov2 (ov_nils _) (ov_bool _ _))
  · simp only [go_sem, ↓reduceIte, Nat.reduceMod, Nat.reduceEqDiff, Nat.reduceAdd, Nat.reduceMul, Nat.reduceSub, Nat.reduceLeDiff, Nat.reduceLT, Int.reduceEq, Int.reduceLT, Int.reduceLE, Int.reduceAdd, Int.reduceSub, Int.reduceNeg, reduceCtorEq, Nat.reduceShiftRight, Nat.reduceAnd, Nat.reduceBNe, hr, hcall, c, Bool.not_true, hz2.one]
    exact settled_ov (ext_Sx hr (by simp)) (ov2 hz2.sl.ov (ov_bool _ _))
theorem may_ok (s : St) (n m : AV) (z : Z) (hr : Room s) (hn : s.n.val ≤ 1000059000) (hz : RZ s n m z) : CA F.ref1_May [.agg [n, m]] s = .ok (.agg (if zIs z then [n, m] else [.bool false, .nils])) s := by
  obtain ⟨zn, zm⟩ := z
  obtain ⟨rfl, hz2⟩ := hz
  simp only at hz2
  refine fn_of code_ref1_May (by simp) ?_
  have hx := ext_Sx (s := s) (l := [.cells [.bool zn, m], .cells [.bool false, .nils]]) hr (by simp)
  have hcall := ref1_Is_ok (Sx s [.cells [.bool zn, m], .cells [.bool false, .nils]]) (.bool zn) m ⟨zn, zm⟩ (hr.Sx (by simp; omega) (by simp)) ⟨rfl, hz2.x hx⟩
  cases c : zIs ⟨zn, zm⟩
  · simp only [go_sem, ↓reduceIte, Nat.reduceMod, Nat.reduceEqDiff, Nat.reduceAdd, Nat.reduceMul, Nat.reduceSub, Nat.reduceLeDiff, Nat.reduceLT, Int.reduceEq, Int.reduceLT, Int.reduceLE, Int.reduceAdd, Int.reduceSub, Int.reduceNeg, reduceCtorEq, Nat.reduceShiftRight, Nat.reduceAnd, Nat.reduceBNe, hr, hcall, c, Bool.not_false, hz2.one]
    exact settled_ov (ext_Sx hr (by simp)) (ov2 (ov_bool _ _) (ov_nils _))
  · simp only [go_sem, ↓reduceIte, Nat.reduceMod, Nat.reduceEqDiff, Nat.reduceAdd, Nat.reduceMul, Nat.reduceSub, Nat.reduceLeDiff, Nat.reduceLT, Int.reduceEq, Int.reduceLT, Int.reduceLE, Int.reduceAdd, Int.reduceSub, Int.reduceNeg, reduceCtorEq, Nat.reduceShiftRight, Nat.reduceAnd, Nat.reduceBNe, hr, hcall, c, Bool.not_true, hz2.one]
    exact settled_ov (ext_Sx hr (by simp)) (ov2 (ov_bool _ _) hz2.sl.ov)
theorem zh_rep {s : St} {n m : AV} {z : Z} (hz : RZ s n m z) : RZ s (if zIs z then n else .bool false) (if zIs z then m else .nils) (zh z) := by
  unfold zh
  cases zIs z
  · exact ⟨rfl, nats_nil s⟩
  · exact hz
theorem if_cells2 (b : Bool) (x y x' y' : AV) : (if b = true then [x, y] else [x', y']) = [if b = true then x else x', if b = true then y else y'] := by cases b <;> rfl
theorem ref1_sign_ok (s : St) (b : Bool) (v : AV) (l : List Nat) (hr : Room s) (hv : Nats s v l) : CA F.ref1_sign [.bool b, v] s = .ok (.agg [.bool (b && decide (l ≠ [])), v]) s := by
  refine fn_of code_ref1_sign (by simp) ?_
  cases b
  · simp only [go_sem, ↓reduceIte, Nat.reduceMod, Nat.reduceEqDiff, Nat.reduceAdd, Nat.reduceMul, Nat.reduceSub, Nat.reduceLeDiff, Nat.reduceLT, Int.reduceEq, Int.reduceLT, Int.reduceLE, Int.reduceAdd, Int.reduceSub, Int.reduceNeg, reduceCtorEq, Nat.reduceShiftRight, Nat.reduceAnd, Nat.reduceBNe, hr, hv.one]
    exact settled_ov (ext_Sx hr (by simp)) (ov2 (ov_bool _ _) hv.sl.ov)
  · simp only [go_sem, ↓reduceIte, Nat.reduceMod, Nat.reduceEqDiff, Nat.reduceAdd, Nat.reduceMul, Nat.reduceSub, Nat.reduceLeDiff, Nat.reduceLT, Int.reduceEq, Int.reduceLT, Int.reduceLE, Int.reduceAdd, Int.reduceSub, Int.reduceNeg, reduceCtorEq, Nat.reduceShiftRight, Nat.reduceAnd, Nat.reduceBNe, hr, hv.vlen, hv.one, len_pos]
    exact settled_ov (ext_Sx hr (by simp)) (ov2 (ov_bool _ _) hv.sl.ov)
def zneg (z : Z) : Z := ⟨!(zh z).neg && decide ((zh z).mag ≠ []), (zh z).mag⟩
theorem ref1_Neg_ok (s : St) (n m : AV) (z : Z) (hr : Room s) (hn : s.n.val ≤ 1000058000) (hz : RZ s n m z) : CA F.ref1_Neg [.agg [n, m]] s = .ok (.agg [.bool (zneg z).neg, if zIs z then m else .nils]) s := by
  refine fn_of code_ref1_Neg (by simp) ?_
  have hx := ext_Sx (s := s) (l := [.cells [n, m], .cells [.bool false, .nils]]) hr (by simp)
  have hcall := may_ok (Sx s [.cells [n, m], .cells [.bool false, .nils]]) n m z (hr.Sx (by simp; omega) (by simp)) (by rw [Sx_n hr (by simp)]; simp; omega) (hz.x hx)
  have hz1 := zh_rep hz
  rw [if_cells2] at hcall
  unfold zneg
  generalize zh z = y at hz1 ⊢
  generalize (if zIs z = true then n else AV.bool false) = n' at hcall hz1
  generalize (if zIs z = true then m else AV.nils) = m' at hcall hz1 ⊢
  obtain ⟨yn, ym⟩ := y
  obtain ⟨rfl, hz2⟩ := hz1
  simp only at hz2
  have hx2 := ext_Sx (s := s) (l := [.cells [n, m], .cells [.bool false, .nils], .cells [.bool yn, m']]) hr (by simp)
  have hcall2 := ref1_sign_ok (Sx s [.cells [n, m], .cells [.bool false, .nils], .cells [.bool yn, m']]) (!yn) m' ym (hr.Sx (by simp; omega) (by simp)) (hz2.x hx2)
  simp only [go_sem, ↓reduceIte, Nat.reduceMod, Nat.reduceEqDiff, Nat.reduceAdd, Nat.reduceMul, Nat.reduceSub, Nat.reduceLeDiff, Nat.reduceLT, Int.reduceEq, Int.reduceLT, Int.reduceLE, Int.reduceAdd, Int.reduceSub, Int.reduceNeg, reduceCtorEq, Nat.reduceShiftRight, Nat.reduceAnd, Nat.reduceBNe, hr, hcall, hcall2, hz2.one]
  exact settled_ov (ext_Sx hr (by simp)) (ov2 (ov_bool _ _) hz2.sl.ov)
theorem zneg_rep {s : St} {n m : AV} {z : Z} (hz : RZ s n m z) : RZ s (.bool (zneg z).neg) (if zIs z then m else .nils) (zneg z) := ⟨rfl, (zh_rep hz).mag⟩
def zsign (z : Z) : Int := if (zh z).mag = [] then 0 else if (zh z).neg = true then -1 else 1
theorem ref1_Sign_ok (s : St) (n m : AV) (z : Z) (hr : Room s) (hn : s.n.val ≤ 1000058000) (hz : RZ s n m z) : CA F.ref1_Sign [.agg [n, m]] s = .ok (.int .i64 (zsign z)) s := by
  refine fn_of code_ref1_Sign (by simp) ?_
  have hx := ext_Sx (s := s) (l := [.cells [n, m]]) hr (by simp)
  have hcall := may_ok (Sx s [.cells [n, m]]) n m z (hr.Sx (by simp; omega) (by simp)) (by rw [Sx_n hr (by simp)]; simp; omega) (hz.x hx)
  have hz1 := zh_rep hz
  rw [if_cells2] at hcall
  unfold zsign
  generalize zh z = y at hz1 ⊢
  generalize (if zIs z = true then n else AV.bool false) = n' at hcall hz1
  generalize (if zIs z = true then m else AV.nils) = m' at hcall hz1
  obtain ⟨yn, ym⟩ := y
  obtain ⟨rfl, hz2⟩ := hz1
  simp only at hz2
  by_cases c : ym = []
  · subst c
    simp only [go_sem, ↓reduceIte, Nat.reduceMod, Nat.reduceEqDiff, Nat.reduceAdd, Nat.reduceMul, Nat.reduceSub, Nat.reduceLeDiff, Nat.reduceLT, Int.reduceEq, Int.reduceLT, Int.reduceLE, Int.reduceAdd, Int.reduceSub, Int.reduceNeg, reduceCtorEq, Nat.reduceShiftRight, Nat.reduceAnd, Nat.reduceBNe, hr, hcall, hz2.vlen, List.length_nil, Int.ofNat_eq_zero]
    exact settled_int (ext_Sx hr (by simp)) (by simp)
  · have c' : ¬ ((ym.length : Int) = 0) := by cases ym <;> simp_all; omega
    cases yn
    · simp only [go_sem, ↓reduceIte, Nat.reduceMod, Nat.reduceEqDiff, Nat.reduceAdd, Nat.reduceMul, Nat.reduceSub, Nat.reduceLeDiff, Nat.reduceLT, Int.reduceEq, Int.reduceLT, Int.reduceLE, Int.reduceAdd, Int.reduceSub, Int.reduceNeg, reduceCtorEq, Nat.reduceShiftRight, Nat.reduceAnd, Nat.reduceBNe, hr, hcall, hz2.vlen, c']
      exact settled_int (ext_Sx hr (by simp)) (by simp [c])
    · simp only [go_sem, ↓reduceIte, Nat.reduceMod, Nat.reduceEqDiff, Nat.reduceAdd, Nat.reduceMul, Nat.reduceSub, Nat.reduceLeDiff, Nat.reduceLT, Int.reduceEq, Int.reduceLT, Int.reduceLE, Int.reduceAdd, Int.reduceSub, Int.reduceNeg, reduceCtorEq, Nat.reduceShiftRight, Nat.reduceAnd, Nat.reduceBNe, hr, hcall, hz2.vlen, c']
      exact settled_int (ext_Sx hr (by simp)) (by simp [c])
theorem whole_Sign_ok (s : St) (n m : AV) (z : Z) (hr : Room s) (hn : s.n.val ≤ 1000058000) (hz : RZ s n m z) : CA F.whole_Sign [.agg [n, m]] s = .ok (.int .i64 (zsign z)) s := by
  refine fn_of code_whole_Sign (by simp) ?_
  have hx := ext_Sx (s := s) (l := [.cells [n, m]]) hr (by simp)
  have hcall := of_ok (Sx s [.cells [n, m]]) n m z (hr.Sx (by simp; omega) (by simp)) (by rw [Sx_n hr (by simp)]; simp; omega) (hz.x hx)
  have hz1 := zh_rep hz
  rw [if_cells2] at hcall
  unfold zsign
  generalize zh z = y at hz1 ⊢
  generalize (if zIs z = true then n else AV.bool false) = n' at hcall hz1
  generalize (if zIs z = true then m else AV.nils) = m' at hcall hz1
  obtain ⟨yn, ym⟩ := y
  obtain ⟨rfl, hz2⟩ := hz1
  simp only at hz2
  have hx2 := ext_Sx (s := s) (l := [.cells [n, m], .cells [m', .bool yn]]) hr (by simp)
  have hnone := none_ok (Sx s [.cells [n, m], .cells [m', .bool yn]]) m' ym (hr.Sx (by simp; omega) (by simp)) (hz2.x hx2)
  by_cases c : ym = []
  · simp only [go_sem, ↓reduceIte, Nat.reduceMod, Nat.reduceEqDiff, Nat.reduceAdd, Nat.reduceMul, Nat.reduceSub, Nat.reduceLeDiff, Nat.reduceLT, Int.reduceEq, Int.reduceLT, Int.reduceLE, Int.reduceAdd, Int.reduceSub, Int.reduceNeg, reduceCtorEq, Nat.reduceShiftRight, Nat.reduceAnd, Nat.reduceBNe, hr, hcall, hnone, c]
    exact settled_int (ext_Sx hr (by simp)) (by simp)
  · cases yn
    · simp only [go_sem, ↓reduceIte, Nat.reduceMod, Nat.reduceEqDiff, Nat.reduceAdd, Nat.reduceMul, Nat.reduceSub, Nat.reduceLeDiff, Nat.reduceLT, Int.reduceEq, Int.reduceLT, Int.reduceLE, Int.reduceAdd, Int.reduceSub, Int.reduceNeg, reduceCtorEq, Nat.reduceShiftRight, Nat.reduceAnd, Nat.reduceBNe, hr, hcall, hnone, c]
      exact settled_int (ext_Sx hr (by simp)) (by simp)
    · simp only [go_sem, ↓reduceIte, Nat.reduceMod, Nat.reduceEqDiff, Nat.reduceAdd, Nat.reduceMul, Nat.reduceSub, Nat.reduceLeDiff, Nat.reduceLT, Int.reduceEq, Int.reduceLT, Int.reduceLE, Int.reduceAdd, Int.reduceSub, Int.reduceNeg, reduceCtorEq, Nat.reduceShiftRight, Nat.reduceAnd, Nat.reduceBNe, hr, hcall, hnone, c]
      exact settled_int (ext_Sx hr (by simp)) (by simp)
theorem whole_ok (s : St) (v : AV) (l : List Nat) (b : Bool) (hr : Room s) (hn : s.n.val ≤ 1000058000) (hv : Nats s v l) : CA F.whole_signed_whole [.agg [v, .bool b]] s = .ok (.agg [.bool (b && decide (l ≠ [])), v]) s := by
  refine fn_of code_whole_signed_whole (by simp) ?_
  simp only [go_sem, ↓reduceIte, Nat.reduceMod, Nat.reduceEqDiff, Nat.reduceAdd, Nat.reduceMul, Nat.reduceSub, Nat.reduceLeDiff, Nat.reduceLT, Int.reduceEq, Int.reduceLT, Int.reduceLE, Int.reduceAdd, Int.reduceSub, Int.reduceNeg, reduceCtorEq, Nat.reduceShiftRight, Nat.reduceAnd, Nat.reduceBNe, hr]
  refine W_drawn hr _ (by simp) ?_
  have hx := ext_Sx (s := s) (l := [.cells [v, .bool b], .cells [.bool false, .nils], .dead, .dead, .dead, .dead, .dead, .dead, .dead, .dead, .dead, .dead, .dead, .dead, .dead]) hr (by simp)
  have hnone := none_ok (Sx s [.cells [v, .bool b], .cells [.bool false, .nils], .dead, .dead, .dead, .dead, .dead, .dead, .dead, .dead, .dead, .dead, .dead, .dead, .dead]) v l (hr.Sx (by simp; omega) (by simp)) (hv.x hx)
  cases b
  · simp only [go_sem, ↓reduceIte, Nat.reduceMod, Nat.reduceEqDiff, Nat.reduceAdd, Nat.reduceMul, Nat.reduceSub, Nat.reduceLeDiff, Nat.reduceLT, Int.reduceEq, Int.reduceLT, Int.reduceLE, Int.reduceAdd, Int.reduceSub, Int.reduceNeg, reduceCtorEq, Nat.reduceShiftRight, Nat.reduceAnd, Nat.reduceBNe, hr, hnone, hv.one]
    exact settled_ov (ext_Sx hr (by simp)) (ov2 (ov_bool _ _) hv.sl.ov)
  · by_cases c : l = []
    · simp only [go_sem, ↓reduceIte, Nat.reduceMod, Nat.reduceEqDiff, Nat.reduceAdd, Nat.reduceMul, Nat.reduceSub, Nat.reduceLeDiff, Nat.reduceLT, Int.reduceEq, Int.reduceLT, Int.reduceLE, Int.reduceAdd, Int.reduceSub, Int.reduceNeg, reduceCtorEq, Nat.reduceShiftRight, Nat.reduceAnd, Nat.reduceBNe, hr, hnone, hv.one, c, Bool.not_true]
      exact settled_ov (ext_Sx hr (by simp)) (ov2 (ov_bool _ _) hv.sl.ov)
    · rw [show (true && decide (l ≠ [])) = true by simp [c]]
      simp only [go_sem, ↓reduceIte, Nat.reduceMod, Nat.reduceEqDiff, Nat.reduceAdd, Nat.reduceMul, Nat.reduceSub, Nat.reduceLeDiff, Nat.reduceLT, Int.reduceEq, Int.reduceLT, Int.reduceLE, Int.reduceAdd, Int.reduceSub, Int.reduceNeg, reduceCtorEq, Nat.reduceShiftRight, Nat.reduceAnd, Nat.reduceBNe, hr, hnone, hv.one, c, Bool.not_false]
      exact settled_ov (ext_Sx hr (by simp)) (ov2 (ov_bool _ _) hv.sl.ov)
theorem copied_ok (s : St) (v : AV) (l : List Nat) (hr : Room s) (hn : s.n.val ≤ 1000058000) (hl : l.length ≤ 1000000) (hv : Nats s v l) : ∃ r, CA F.whole_copied [v] s = .ok (.agg [r]) s ∧ ∀ t, Nats t r l := by
  have hx := ext_Sx (s := s) (l := [.cells [.nils]]) hr (by simp)
  obtain ⟨r, h1, h2⟩ := clone_nat_ok (Sx s [.cells [.nils]]) v l (hr.Sx (by simp; omega) (by simp)) hl (hv.x hx)
  refine ⟨r, ?_, h2⟩
  refine fn_of code_whole_copied (by simp) ?_
  simp only [go_sem, ↓reduceIte, Nat.reduceMod, Nat.reduceEqDiff, Nat.reduceAdd, Nat.reduceMul, Nat.reduceSub, Nat.reduceLeDiff, Nat.reduceLT, Int.reduceEq, Int.reduceLT, Int.reduceLE, Int.reduceAdd, Int.reduceSub, Int.reduceNeg, reduceCtorEq, Nat.reduceShiftRight, Nat.reduceAnd, Nat.reduceBNe, hr, h1, (h2 s).one]
  exact settled_ov (ext_Sx hr (by simp)) (ov_agg (by intro c hc; simp at hc; rw [hc]; exact (h2 s).sl.ov))
theorem whole_Neg_ok (s : St) (n m : AV) (z : Z) (hr : Room s) (hn : s.n.val ≤ 1000057000) (hl : z.mag.length ≤ 1000000) (hz : RZ s n m z) : ∃ r, CA F.whole_Neg [.agg [n, m]] s = .ok (.agg [.bool (zneg z).neg, r]) s ∧ ∀ t, Nats t r (zneg z).mag := by
  have hx := ext_Sx (s := s) (l := [.cells [n, m], .cells [.bool false, .nils]]) hr (by simp)
  have hcall := of_ok (Sx s [.cells [n, m], .cells [.bool false, .nils]]) n m z (hr.Sx (by simp; omega) (by simp)) (by rw [Sx_n hr (by simp)]; simp; omega) (hz.x hx)
  have hz1 := zh_rep hz
  have hl1 : (zh z).mag.length ≤ 1000000 := by unfold zh; split <;> simp [hl]
  rw [if_cells2] at hcall
  unfold zneg
  generalize zh z = y at hz1 hl1 ⊢
  generalize (if zIs z = true then n else AV.bool false) = n' at hcall hz1
  generalize (if zIs z = true then m else AV.nils) = m' at hcall hz1
  obtain ⟨yn, ym⟩ := y
  obtain ⟨rfl, hz2⟩ := hz1
  simp only at hz2 hl1
  have hx2 := ext_Sx (s := s) (l := [.cells [n, m], .cells [.bool false, .nils], .cells [m', .bool yn], .dead, .dead, .dead, .dead, .dead, .dead, .dead, .dead, .dead, .dead]) hr (by simp)
  obtain ⟨r, h1, h2⟩ := copied_ok (Sx s [.cells [n, m], .cells [.bool false, .nils], .cells [m', .bool yn], .dead, .dead, .dead, .dead, .dead, .dead, .dead, .dead, .dead, .dead]) m' ym (hr.Sx (by simp; omega) (by simp)) (by rw [Sx_n hr (by simp)]; simp; omega) hl1 (hz2.x hx2)
  have hwh := whole_ok (Sx s [.cells [n, m], .cells [.bool false, .nils], .cells [m', .bool yn], .dead, .dead, .dead, .dead, .dead, .dead, .dead, .dead, .dead, .dead]) r ym (!yn) (hr.Sx (by simp; omega) (by simp)) (by rw [Sx_n hr (by simp)]; simp; omega) (h2 _)
  refine ⟨r, ?_, h2⟩
  refine fn_of code_whole_Neg (by simp) ?_
  simp only [go_sem, ↓reduceIte, Nat.reduceMod, Nat.reduceEqDiff, Nat.reduceAdd, Nat.reduceMul, Nat.reduceSub, Nat.reduceLeDiff, Nat.reduceLT, Int.reduceEq, Int.reduceLT, Int.reduceLE, Int.reduceAdd, Int.reduceSub, Int.reduceNeg, reduceCtorEq, Nat.reduceShiftRight, Nat.reduceAnd, Nat.reduceBNe, hr, hcall]
  refine W_drawn hr _ (by simp) ?_
  simp only [go_sem, ↓reduceIte, Nat.reduceMod, Nat.reduceEqDiff, Nat.reduceAdd, Nat.reduceMul, Nat.reduceSub, Nat.reduceLeDiff, Nat.reduceLT, Int.reduceEq, Int.reduceLT, Int.reduceLE, Int.reduceAdd, Int.reduceSub, Int.reduceNeg, reduceCtorEq, Nat.reduceShiftRight, Nat.reduceAnd, Nat.reduceBNe, hr, h1, hwh, (h2 s).one]
  exact settled_ov (ext_Sx hr (by simp)) (ov2 (ov_bool _ _) (h2 s).sl.ov)
end Go.Proofs.YtfndnjmnakdglaaGreatDoor
