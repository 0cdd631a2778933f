/- Functions of the program: names. No condition. -/
import Derived.Test.YtjnejkganejdbaaLibD
namespace Go.Proofs.Ytjnejkganejdbaa
open Go Go.Vm
set_option linter.unusedVariables false
set_option linter.unusedSimpArgs false
def marks : List UInt8 := [126, 33, 64, 36, 37, 94, 38, 42, 95, 45, 43, 61, 60, 62, 46, 63, 47]
def isDig (x : UInt8) : Bool := decide (48 ≤ x.toNat ∧ x.toNat ≤ 57)
def isLet (x : UInt8) : Bool := isDig x || (decide (97 ≤ x.toNat ∧ x.toNat ≤ 122) || (decide (65 ≤ x.toNat ∧ x.toNat ≤ 90) || decide (x ∈ marks)))
theorem digit_ok (s : St) (x : UInt8) : CA F.lex_digit [.int .u8 (x.toNat : Int)] s = .ok (.bool (isDig x)) s := by
  refine fn_of code_lex_digit (by simp) ?_
  by_cases c : (48 : Int) ≤ (x.toNat : Int)
  · simp only [go_sem, ↓reduceIte, Nat.reduceMod, Nat.reduceEqDiff, Nat.reduceAdd, Nat.reduceMul, Nat.reduceSub, Nat.reduceLeDiff, Nat.reduceLT, Int.reduceEq, Int.reduceLT, Int.reduceLE, Int.reduceAdd, Int.reduceSub, Int.reduceNeg, reduceCtorEq, Nat.reduceShiftRight, Nat.reduceAnd, Nat.reduceBNe, c]
    exact settled_bool (Ext.refl s) (by unfold isDig; congr 1; apply propext; omega)
  · simp only [go_sem, ↓reduceIte, Nat.reduceMod, Nat.reduceEqDiff, Nat.reduceAdd, Nat.reduceMul, Nat.reduceSub, Nat.reduceLeDiff, Nat.reduceLT, Int.reduceEq, Int.reduceLT, Int.reduceLE, Int.reduceAdd, Int.reduceSub, Int.reduceNeg, reduceCtorEq, Nat.reduceShiftRight, Nat.reduceAnd, Nat.reduceBNe, c]
    exact settled_bool (Ext.refl s) (by unfold isDig; symm; rw [decide_eq_false_iff_not]; omega)
theorem index_mem (l : List UInt8) (c : UInt8) : (0 ≤ Lib.indexByte l c) = (c ∈ l) := by
  apply propext
  have key : ∀ l : List UInt8, (Lib.indexByte l c = -1 ∧ c ∉ l) ∨ (0 ≤ Lib.indexByte l c ∧ c ∈ l) := by
    intro l
    induction l with
    | nil => exact .inl ⟨rfl, by simp⟩
    | cons b l ih =>
      unfold Lib.indexByte
      by_cases h : b = c
      · subst h; right; simp
      · have h' : (b == c) = false := by simp [h]
        rw [h']
        rcases ih with ⟨h1, h2⟩ | ⟨h1, h2⟩
        · left; rw [h1]; simp [h2]; exact fun e => h e.symm
        · right
          have : (Lib.indexByte l c == -1) = false := by simp; omega
          rw [this]; simp [h2]; omega
  rcases key l with ⟨h1, h2⟩ | ⟨h1, h2⟩
  · constructor
    · intro h; omega
    · intro h; exact absurd h h2
  · exact ⟨fun _ => h2, fun _ => h1⟩
theorem indexByte_ok (s : St) (l : List UInt8) (x : UInt8) : CA F.strings_IndexByte [.str l, .int .u8 (x.toNat : Int)] s = .ok (.int .i64 (Lib.indexByte l x)) s := by
  refine cc_ok.mpr (.base _ _ _ _ _ ?_)
  have e : F.strings_IndexByte.get BT = strings_IndexByte_B := by kernel_rfl
  rw [e]
  show R.ok (.int .i64 (Lib.indexByte l ((x.toNat : Int).toNat.toUInt8))) s = _
  congr 3
  simp
theorem isLet_else {x : UInt8} (h1 : isDig x = false) (h2 : ¬ (97 ≤ x.toNat ∧ x.toNat ≤ 122)) (h3 : ¬ (65 ≤ x.toNat ∧ x.toNat ≤ 90)) : isLet x = decide (x ∈ marks) := by
  unfold isLet
  rw [h1, decide_eq_false h2, decide_eq_false h3]; rfl
theorem letter_ok (s : St) (x : UInt8) : CA F.lex_letter [.int .u8 (x.toNat : Int)] s = .ok (.bool (isLet x)) s := by
  have h1 := digit_ok (Sx s []) x
  have h2 := indexByte_ok (Sx s []) marks x
  unfold marks at h2
  have hm := index_mem marks x
  unfold marks at hm
  refine fn_of code_lex_letter (by simp) ?_
  cases c1 : isDig x
  · by_cases c2 : (97 : Int) ≤ (x.toNat : Int)
    · by_cases c3 : (x.toNat : Int) ≤ 122
      · simp only [go_sem, ↓reduceIte, Nat.reduceMod, Nat.reduceEqDiff, Nat.reduceAdd, Nat.reduceMul, Nat.reduceSub, Nat.reduceLeDiff, Nat.reduceLT, Int.reduceEq, Int.reduceLT, Int.reduceLE, Int.reduceAdd, Int.reduceSub, Int.reduceNeg, reduceCtorEq, Nat.reduceShiftRight, Nat.reduceAnd, Nat.reduceBNe, h1, c1, c2, c3]
        exact settled_bool (Ext.refl s) (by have e : isLet x = true := by simp [isLet]; omega
                                            rw [e])
      · have c4 : (65 : Int) ≤ (x.toNat : Int) := by omega
        have c5 : ¬ (x.toNat : Int) ≤ 90 := by omega
        simp only [go_sem, ↓reduceIte, Nat.reduceMod, Nat.reduceEqDiff, Nat.reduceAdd, Nat.reduceMul, Nat.reduceSub, Nat.reduceLeDiff, Nat.reduceLT, Int.reduceEq, Int.reduceLT, Int.reduceLE, Int.reduceAdd, Int.reduceSub, Int.reduceNeg, reduceCtorEq, Nat.reduceShiftRight, Nat.reduceAnd, Nat.reduceBNe, h1, h2, c1, c2, c3, c4, c5]
        refine settled_bool (Ext.refl s) ?_
        rw [isLet_else c1 (by omega) (by omega)]
        congr 1
    · by_cases c4 : (65 : Int) ≤ (x.toNat : Int)
      · by_cases c5 : (x.toNat : Int) ≤ 90
        · simp only [go_sem, ↓reduceIte, Nat.reduceMod, Nat.reduceEqDiff, Nat.reduceAdd, Nat.reduceMul, Nat.reduceSub, Nat.reduceLeDiff, Nat.reduceLT, Int.reduceEq, Int.reduceLT, Int.reduceLE, Int.reduceAdd, Int.reduceSub, Int.reduceNeg, reduceCtorEq, Nat.reduceShiftRight, Nat.reduceAnd, Nat.reduceBNe, h1, c1, c2, c4, c5]
          exact settled_bool (Ext.refl s) (by have e : isLet x = true := by simp [isLet]; omega
                                              rw [e])
        · simp only [go_sem, ↓reduceIte, Nat.reduceMod, Nat.reduceEqDiff, Nat.reduceAdd, Nat.reduceMul, Nat.reduceSub, Nat.reduceLeDiff, Nat.reduceLT, Int.reduceEq, Int.reduceLT, Int.reduceLE, Int.reduceAdd, Int.reduceSub, Int.reduceNeg, reduceCtorEq, Nat.reduceShiftRight, Nat.reduceAnd, Nat.reduceBNe, h1, h2, c1, c2, c4, c5]
          refine settled_bool (Ext.refl s) ?_
          rw [isLet_else c1 (by omega) (by omega)]
          congr 1
      · simp only [go_sem, ↓reduceIte, Nat.reduceMod, Nat.reduceEqDiff, Nat.reduceAdd, Nat.reduceMul, Nat.reduceSub, Nat.reduceLeDiff, Nat.reduceLT, Int.reduceEq, Int.reduceLT, Int.reduceLE, Int.reduceAdd, Int.reduceSub, Int.reduceNeg, reduceCtorEq, Nat.reduceShiftRight, Nat.reduceAnd, Nat.reduceBNe, h1, h2, c1, c2, c4]
        refine settled_bool (Ext.refl s) ?_
        rw [isLet_else c1 (by omega) (by omega)]
        congr 1
  · simp only [go_sem, ↓reduceIte, Nat.reduceMod, Nat.reduceEqDiff, Nat.reduceAdd, Nat.reduceMul, Nat.reduceSub, Nat.reduceLeDiff, Nat.reduceLT, Int.reduceEq, Int.reduceLT, Int.reduceLE, Int.reduceAdd, Int.reduceSub, Int.reduceNeg, reduceCtorEq, Nat.reduceShiftRight, Nat.reduceAnd, Nat.reduceBNe, h1, c1]
    exact settled_bool (Ext.refl s) (by simp [isLet, c1])
/-- What may be a name. -/
def symOk (l : List UInt8) : Bool := decide (l ≠ []) && (decide (l.length ≤ 20) && (((l[0]?).map fun x => !isDig x).getD false && l.all isLet))
theorem run_ok (s : St) (l : List UInt8) (hl : l.length ≤ 140737488355328) : CA F.lex_run [.str l, .fn F.lex_letter [] []] s = .ok (.str (l.takeWhile isLet)) s := by
  refine fn_of code_lex_run (by simp) ?_
  simp only [go_sem, ↓reduceIte, Nat.reduceMod, Nat.reduceEqDiff, Nat.reduceAdd, Nat.reduceMul, Nat.reduceSub, Nat.reduceLeDiff, Nat.reduceLT, Int.reduceEq, Int.reduceLT, Int.reduceLE, Int.reduceAdd, Int.reduceSub, Int.reduceNeg, reduceCtorEq, Nat.reduceShiftRight, Nat.reduceAnd, Nat.reduceBNe]
  refine W_inv (fun k f τ => ∃ i : Nat, Sx s [] = τ ∧ k = l.length - i ∧ i ≤ l.length ∧ l.takeWhile isLet = l.take i ++ (l.drop i).takeWhile isLet ∧ (vv 0).get f = .str l ∧ (vv 1).get f = .fn F.lex_letter [] [] ∧ (vv 5).get f = .int .i64 (i : Int)) ?_ ⟨0, rfl, rfl, by omega, by simp, ?_⟩
  · rintro k f τ ⟨i, rfl, rfl, hi, ha, g0, g1, g5⟩
    by_cases c1 : i < l.length
    · have hc := letter_ok (Sx s []) l[i]
      rw [List.drop_eq_getElem_cons c1, List.takeWhile_cons] at ha
      cases c2 : isLet l[i]
      · rw [c2] at ha
        have h0 : (0 : Int) ≤ (i : Int) := by omega
        have h1 : (i : Int) ≤ (l.length : Int) := by omega
        simp only [go_sem, ↓reduceIte, Nat.reduceMod, Nat.reduceEqDiff, Nat.reduceAdd, Nat.reduceMul, Nat.reduceSub, Nat.reduceLeDiff, Nat.reduceLT, Int.reduceEq, Int.reduceLT, Int.reduceLE, Int.reduceAdd, Int.reduceSub, Int.reduceNeg, reduceCtorEq, Nat.reduceShiftRight, Nat.reduceAnd, Nat.reduceBNe, g0, g1, g5, Int.ofNat_lt, c1, vsidx_n c1, hc, c2, vsshi_eq h0 h1]
        simp only [Bool.false_eq_true, if_false, List.append_nil] at ha
        rw [ha]
        exact settled_ov (Ext.refl s) (ov_str _ _)
      · rw [c2] at ha
        simp only [go_sem, ↓reduceIte, Nat.reduceMod, Nat.reduceEqDiff, Nat.reduceAdd, Nat.reduceMul, Nat.reduceSub, Nat.reduceLeDiff, Nat.reduceLT, Int.reduceEq, Int.reduceLT, Int.reduceLE, Int.reduceAdd, Int.reduceSub, Int.reduceNeg, reduceCtorEq, Nat.reduceShiftRight, Nat.reduceAnd, Nat.reduceBNe, g0, g1, g5, Int.ofNat_lt, c1, vsidx_n c1, hc, c2]
        refine ⟨l.length - (i + 1), by omega, i + 1, rfl, by omega, ?_, ?_⟩
        · rw [ha, ← List.take_append_getElem c1, List.append_assoc]; rfl
        · rw [wrap_i64 (by omega) (by omega)]; congr 1
    · have e : i = l.length := by omega
      subst e
      have h0 : (0 : Int) ≤ (l.length : Int) := by omega
      simp only [go_sem, ↓reduceIte, Nat.reduceMod, Nat.reduceEqDiff, Nat.reduceAdd, Nat.reduceMul, Nat.reduceSub, Nat.reduceLeDiff, Nat.reduceLT, Int.reduceEq, Int.reduceLT, Int.reduceLE, Int.reduceAdd, Int.reduceSub, Int.reduceNeg, reduceCtorEq, Nat.reduceShiftRight, Nat.reduceAnd, Nat.reduceBNe, g0, g1, g5, Int.ofNat_lt, c1, vsshi_eq h0 (Int.le_refl _)]
      rw [List.drop_length] at ha
      rw [ha]
      simp only [List.takeWhile_nil, List.append_nil]
      exact settled_ov (Ext.refl s) (ov_str _ _)
  · simp only [go_sem, ↓reduceIte, Nat.reduceMod, Nat.reduceEqDiff, Nat.reduceAdd, Nat.reduceMul, Nat.reduceSub, Nat.reduceLeDiff, Nat.reduceLT, Int.reduceEq, Int.reduceLT, Int.reduceLE, Int.reduceAdd, Int.reduceSub, Int.reduceNeg, reduceCtorEq, Nat.reduceShiftRight, Nat.reduceAnd, Nat.reduceBNe]
    rfl
end Go.Proofs.Ytjnejkganejdbaa
namespace Go.Proofs.Ytjnejkganejdbaa
open Go Go.Vm
set_option linter.unusedVariables false
set_option linter.unusedSimpArgs false
theorem takeWhile_all (l : List UInt8) (p : UInt8 → Bool) : (l.takeWhile p = l) = (l.all p = true) := by
  apply propext
  induction l with
  | nil => simp
  | cons a l ih => cases h : p a <;> simp [List.takeWhile_cons, h, ih]
theorem Symbol_ok (s : St) (l : List UInt8) : CA F.lex_Symbol [.str l] s = .ok (.bool (symOk l)) s := by
  refine fn_of code_lex_Symbol (by simp) ?_
  by_cases hne : l = []
  · simp only [go_sem, ↓reduceIte, Nat.reduceMod, Nat.reduceEqDiff, Nat.reduceAdd, Nat.reduceMul, Nat.reduceSub, Nat.reduceLeDiff, Nat.reduceLT, Int.reduceEq, Int.reduceLT, Int.reduceLE, Int.reduceAdd, Int.reduceSub, Int.reduceNeg, reduceCtorEq, Nat.reduceShiftRight, Nat.reduceAnd, Nat.reduceBNe, ne_eq, hne, not_true_eq_false]
    exact settled_bool (Ext.refl s) (by simp [symOk])
  · have h0 : 0 < l.length := by cases l <;> simp_all
    by_cases c1 : (l.length : Int) ≤ 20
    · have c1' : l.length ≤ 20 := by omega
      have hd := digit_ok (Sx s []) l[0]
      have hrun := run_ok (Sx s []) l (by omega)
      cases c2 : isDig l[0]
      · simp only [go_sem, ↓reduceIte, Nat.reduceMod, Nat.reduceEqDiff, Nat.reduceAdd, Nat.reduceMul, Nat.reduceSub, Nat.reduceLeDiff, Nat.reduceLT, Int.reduceEq, Int.reduceLT, Int.reduceLE, Int.reduceAdd, Int.reduceSub, Int.reduceNeg, reduceCtorEq, Nat.reduceShiftRight, Nat.reduceAnd, Nat.reduceBNe, ne_eq, hne, not_false_eq_true, c1, vsidx_0 h0, hd, c2, Bool.not_false, hrun]
        refine settled_bool (Ext.refl s) ?_
        simp only [takeWhile_all, Bool.decide_eq_true]
        simp [symOk, hne, c1', List.getElem?_eq_getElem h0, c2]
      · simp only [go_sem, ↓reduceIte, Nat.reduceMod, Nat.reduceEqDiff, Nat.reduceAdd, Nat.reduceMul, Nat.reduceSub, Nat.reduceLeDiff, Nat.reduceLT, Int.reduceEq, Int.reduceLT, Int.reduceLE, Int.reduceAdd, Int.reduceSub, Int.reduceNeg, reduceCtorEq, Nat.reduceShiftRight, Nat.reduceAnd, Nat.reduceBNe, ne_eq, hne, not_false_eq_true, c1, vsidx_0 h0, hd, c2, Bool.not_true]
        exact settled_bool (Ext.refl s) (by simp [symOk, List.getElem?_eq_getElem h0, c2])
    · have c1' : ¬ l.length ≤ 20 := by omega
      simp only [go_sem, ↓reduceIte, Nat.reduceMod, Nat.reduceEqDiff, Nat.reduceAdd, Nat.reduceMul, Nat.reduceSub, Nat.reduceLeDiff, Nat.reduceLT, Int.reduceEq, Int.reduceLT, Int.reduceLE, Int.reduceAdd, Int.reduceSub, Int.reduceNeg, reduceCtorEq, Nat.reduceShiftRight, Nat.reduceAnd, Nat.reduceBNe, ne_eq, hne, not_false_eq_true, c1]
      exact settled_bool (Ext.refl s) (by rw [symOk, decide_eq_false c1']; simp)
theorem allU_take {l : List UInt8} {p : UInt8 → Bool} {i : Nat} (h : i < l.length) : (l.take (i + 1)).all p = ((l.take i).all p && p l[i]) := by
  rw [← List.take_append_getElem h, List.all_append]; simp
theorem allU_false {l : List UInt8} {p : UInt8 → Bool} {i : Nat} (h : i < l.length) (hp : p l[i] = false) : l.all p = false := by
  rw [Bool.eq_false_iff]; intro ha
  have := List.all_eq_true.mp ha l[i] (List.getElem_mem h)
  rw [hp] at this; cases this
def sortB (n : Int) : Bool := decide (n = 1 ∨ n = 2)
/-- May a name stand for it? -/
def sigOk (g : Sg) : Bool := g.args.all sortB && (symOk g.name && (decide (g.args.length ≤ 3) && sortB g.ret))
theorem allI_take {l : List Int} {p : Int → Bool} {i : Nat} (h : i < l.length) : (l.take (i + 1)).all p = ((l.take i).all p && p l[i]) := by
  rw [← List.take_append_getElem h, List.all_append]; simp
theorem allI_false {l : List Int} {p : Int → Bool} {i : Nat} (h : i < l.length) (hp : p l[i] = false) : l.all p = false := by
  rw [Bool.eq_false_iff]; intro ha
  have := List.all_eq_true.mp ha l[i] (List.getElem_mem h)
  rw [hp] at this; cases this
theorem IsSig_ok (s : St) (g : Sg) (av : AV) (hr : Room s) (hn : s.n.val ≤ 59000) (hv : Ints s av g.args) : CA F.term_IsSig [.agg [.str g.name, av, .int .i64 g.ret]] s = .ok (.bool (sigOk g)) s := by
  have hm := hv.most
  obtain ⟨name, l, ret⟩ := g
  simp only at hv hm ⊢
  have hx := ext_Sx (s := s) (l := [.cells [.str name, av, .int .i64 ret]]) hr (by simp)
  refine fn_of code_term_IsSig (by simp) ?_
  simp only [go_sem, ↓reduceIte, Nat.reduceMod, Nat.reduceEqDiff, Nat.reduceAdd, Nat.reduceMul, Nat.reduceSub, Nat.reduceLeDiff, Nat.reduceLT, Int.reduceEq, Int.reduceLT, Int.reduceLE, Int.reduceAdd, Int.reduceSub, Int.reduceNeg, reduceCtorEq, Nat.reduceShiftRight, Nat.reduceAnd, Nat.reduceBNe, hr, hv.vlen]
  refine W_inv (fun k f τ => ∃ i : Nat, Sx s [.cells [.str name, av, .int .i64 ret]] = τ ∧ k = l.length - i ∧ i ≤ l.length ∧ (l.take i).all sortB = true ∧ (vv 1).get f = .ptr (nm s 0) 0 ∧ (vv 6).get f = av ∧ (vv 7).get f = .int .i64 (l.length : Int) ∧ (vv 8).get f = .int .i64 (i : Int)) ?_ ⟨0, rfl, rfl, by omega, by simp, ?_⟩
  · rintro k f τ ⟨i, rfl, rfl, hi, ha, g1, g6, g7, g8⟩
    by_cases c1 : i < l.length
    · have hs := isSort_ok (Sx s [.cells [.str name, av, .int .i64 ret]]) l[i]
      cases c2 : sortB l[i]
      · have c2' : ¬ (l[i] = 1 ∨ l[i] = 2) := by simpa [sortB] using c2
        simp only [go_sem, ↓reduceIte, Nat.reduceMod, Nat.reduceEqDiff, Nat.reduceAdd, Nat.reduceMul, Nat.reduceSub, Nat.reduceLeDiff, Nat.reduceLT, Int.reduceEq, Int.reduceLT, Int.reduceLE, Int.reduceAdd, Int.reduceSub, Int.reduceNeg, reduceCtorEq, Nat.reduceShiftRight, Nat.reduceAnd, Nat.reduceBNe, g1, g6, g7, g8, Int.ofNat_lt, c1, hr, hv.ia c1, hv.i64 c1, hs, c2', Bool.not_false]
        exact settled_bool hx (by rw [sigOk, allI_false c1 c2]; rfl)
      · have c2' : (l[i] = 1 ∨ l[i] = 2) := by simpa [sortB] using c2
        simp only [go_sem, ↓reduceIte, Nat.reduceMod, Nat.reduceEqDiff, Nat.reduceAdd, Nat.reduceMul, Nat.reduceSub, Nat.reduceLeDiff, Nat.reduceLT, Int.reduceEq, Int.reduceLT, Int.reduceLE, Int.reduceAdd, Int.reduceSub, Int.reduceNeg, reduceCtorEq, Nat.reduceShiftRight, Nat.reduceAnd, Nat.reduceBNe, g1, g6, g7, g8, Int.ofNat_lt, c1, hr, hv.ia c1, hv.i64 c1, hs, c2', Bool.not_true]
        refine ⟨l.length - (i + 1), by omega, i + 1, rfl, by omega, ?_, ?_⟩
        · rw [allI_take c1, ha, c2]; rfl
        · rw [wrap_i64 (by omega) (by omega)]; congr 1
    · have e : i = l.length := by omega
      subst e
      rw [List.take_length] at ha
      have hsy := Symbol_ok (Sx s [.cells [.str name, av, .int .i64 ret]]) name
      have hs := isSort_ok (Sx s [.cells [.str name, av, .int .i64 ret]]) ret
      cases c2 : symOk name
      · simp only [go_sem, ↓reduceIte, Nat.reduceMod, Nat.reduceEqDiff, Nat.reduceAdd, Nat.reduceMul, Nat.reduceSub, Nat.reduceLeDiff, Nat.reduceLT, Int.reduceEq, Int.reduceLT, Int.reduceLE, Int.reduceAdd, Int.reduceSub, Int.reduceNeg, reduceCtorEq, Nat.reduceShiftRight, Nat.reduceAnd, Nat.reduceBNe, g1, g6, g7, g8, Int.ofNat_lt, c1, hr, hsy, c2]
        exact settled_bool hx (by simp [sigOk, ha, c2])
      · by_cases c3 : (l.length : Int) ≤ 3
        · simp only [go_sem, ↓reduceIte, Nat.reduceMod, Nat.reduceEqDiff, Nat.reduceAdd, Nat.reduceMul, Nat.reduceSub, Nat.reduceLeDiff, Nat.reduceLT, Int.reduceEq, Int.reduceLT, Int.reduceLE, Int.reduceAdd, Int.reduceSub, Int.reduceNeg, reduceCtorEq, Nat.reduceShiftRight, Nat.reduceAnd, Nat.reduceBNe, g1, g6, g7, g8, Int.ofNat_lt, c1, hr, hsy, c2, hv.vlen, c3, hs]
          exact settled_bool hx (by simp [sigOk, ha, c2, sortB]; omega)
        · simp only [go_sem, ↓reduceIte, Nat.reduceMod, Nat.reduceEqDiff, Nat.reduceAdd, Nat.reduceMul, Nat.reduceSub, Nat.reduceLeDiff, Nat.reduceLT, Int.reduceEq, Int.reduceLT, Int.reduceLE, Int.reduceAdd, Int.reduceSub, Int.reduceNeg, reduceCtorEq, Nat.reduceShiftRight, Nat.reduceAnd, Nat.reduceBNe, g1, g6, g7, g8, Int.ofNat_lt, c1, hr, hsy, c2, hv.vlen, c3]
          exact settled_bool hx (by rw [sigOk, decide_eq_false (by omega : ¬ l.length ≤ 3)]; simp)
  · simp only [go_sem, ↓reduceIte, Nat.reduceMod, Nat.reduceEqDiff, Nat.reduceAdd, Nat.reduceMul, Nat.reduceSub, Nat.reduceLeDiff, Nat.reduceLT, Int.reduceEq, Int.reduceLT, Int.reduceLE, Int.reduceAdd, Int.reduceSub, Int.reduceNeg, reduceCtorEq, Nat.reduceShiftRight, Nat.reduceAnd, Nat.reduceBNe]
    rfl
end Go.Proofs.Ytjnejkganejdbaa
namespace Go.Proofs.Ytjnejkganejdbaa
open Go Go.Vm
set_option linter.unusedVariables false
set_option linter.unusedSimpArgs false
theorem ints_ts {s : St} (l : List Int) (hl : l.length ≤ 140737488355328) (cap : Nat) (ex : Bool) : Ints s (.ts (cellsI l) l.length cap ex) l := by
  refine ⟨.ts _ _ _ _ hl (fun c hc => ?_), rfl, fun i hi => ?_⟩
  · obtain ⟨n, _, rfl⟩ := List.mem_map.mp hc; exact ov_int _ _ _
  · show ∃ t, (cellsI l).drop (i * 1) = _
    rw [Nat.mul_one, List.drop_eq_getElem_cons (by simpa [cellsI] using hi)]
    exact ⟨(cellsI l).drop (i + 1), by simp [cellsI]⟩
theorem ints_nil (s : St) : Ints s .nils [] := ⟨.nils, rfl, fun i h => by simp at h⟩
/-- A row of numbers that one makes. -/
structure OwnI (n : Nat) (σ : St) (av : AV) (l : List Int) (b3 b2 b1 : Vm.Id) : Prop where
  h : (av = .nils ∧ l = []) ∨ ∃ b : Vm.Id, av = .sl b 0 l.length l.length 1 ∧ l ≠ [] ∧ σ.obj b = .cells (cellsI l) ∧ b.val < σ.n.val ∧ n ≤ b.val ∧ b.val ≠ b3.val ∧ b.val ≠ b2.val ∧ b.val ≠ b1.val
theorem OwnI.one {n : Nat} {σ : St} {av : AV} {l : List Int} {b3 b2 b1 : Vm.Id} (h : OwnI n σ av l b3 b2 b1) : av.one = true := by
  rcases h.h with ⟨rfl, _⟩ | ⟨b, rfl, _⟩ <;> rfl
theorem avI_ints (t : St) (l : List Int) (hl : l.length ≤ 140737488355328) : Ints t (avI l) l := by
  unfold avI
  by_cases h : l = []
  · subst h; exact ints_nil t
  · rw [if_neg h]; exact ints_ts l hl _ _
theorem OwnI.fz {n : Nat} {σ σ' : St} {av : AV} {l : List Int} {b3 b2 b1 : Vm.Id} (h : OwnI n σ av l b3 b2 b1) (hs : ∀ b : Vm.Id, b.val ≠ b2.val → b.val < σ.n.val → σ'.obj b = σ.obj b) : Fz n σ' av (avI l) := by
  unfold avI
  rcases h.h with ⟨rfl, rfl⟩ | ⟨b, rfl, hne, h1, h2, h3, h4, h5, h6⟩
  · exact .nils
  · rw [if_neg hne]
    refine .slN b 0 l.length l.length 1 (cellsI l) (cellsI l) h3 (by rw [hs b h5 h2]; exact h1) rfl (fun j c d hc hd => ?_)
    have hc' : (cellsI l)[j]? = some c := hc
    rw [hd] at hc'; cases hc'
    obtain ⟨m, _, rfl⟩ := List.mem_map.mp (List.mem_of_getElem? hd)
    exact .int _ _
theorem fz_agg3 {n : Nat} {s : St} {a b c a' b' c' : AV} (h1 : Fz n s a a') (h2 : Fz n s b b') (h3 : Fz n s c c') : Fz n s (.agg [a, b, c]) (.agg [a', b', c']) := .agg _ _ rfl (fzl_cons h1 (fzl_cons h2 (fzl_cons h3 (fzl_nil n s))))
theorem Sig_ok (s : St) (cs : List AV) (t : T) (hr : Room s) (hn : s.n.val + 4 * t.kids.length ≤ 50000) (hkl : t.kids.length ≤ 1000) (h : RT6 s cs t) : CA F.term_Sig [.agg cs] s = .ok (.agg [.str t.name, avI (t.kids.map T.sort), .int .i64 t.sort]) s := by
  obtain ⟨ng, mg, kv, rfl, hz, hk⟩ := h.ex
  generalize t.kids = l at *
  have hm := hk.most
  have hxa := ext_Sx (s := s) (l := [.cells [.int .i64 t.op, ng, mg, .str t.name, .int .i64 t.sort, kv], .cells [.str [], .nils, .int .i64 0], .cells [.str t.name, .nils, .int .i64 t.sort]]) hr (by simp)
  have hna := Sx_n (s := s) (l := [.cells [.int .i64 t.op, ng, mg, .str t.name, .int .i64 t.sort, kv], .cells [.str [], .nils, .int .i64 0], .cells [.str t.name, .nils, .int .i64 t.sort]]) hr (by simp)
  simp only [List.length_cons, List.length_nil] at hna
  have v1 := nm_val hr (k := 1) (by omega)
  have v2 := nm_val hr (k := 2) (by omega)
  have v0 := nm_val hr (k := 0) (by omega)
  have q3 := Sx_obj? (s := s) (l := [.cells [.int .i64 t.op, ng, mg, .str t.name, .int .i64 t.sort, kv], .cells [.str [], .nils, .int .i64 0], .cells [.str t.name, .nils, .int .i64 t.sort]]) hr (by simp) (i := 2) rfl
  have q2 := Sx_obj? (s := s) (l := [.cells [.int .i64 t.op, ng, mg, .str t.name, .int .i64 t.sort, kv], .cells [.str [], .nils, .int .i64 0], .cells [.str t.name, .nils, .int .i64 t.sort]]) hr (by simp) (i := 1) rfl
  refine fn_of code_term_Sig (by simp) ?_
  simp only [go_sem, ↓reduceIte, Nat.reduceMod, Nat.reduceEqDiff, Nat.reduceAdd, Nat.reduceMul, Nat.reduceSub, Nat.reduceLeDiff, Nat.reduceLT, Int.reduceEq, Int.reduceLT, Int.reduceLE, Int.reduceAdd, Int.reduceSub, Int.reduceNeg, reduceCtorEq, Nat.reduceShiftRight, Nat.reduceAnd, Nat.reduceBNe, hr, hk.one, hk.vlen]
  generalize nm s 2 = b3 at *
  generalize nm s 1 = b2 at *
  generalize nm s 0 = b1 at *
  refine W_inv (fun k f τ => ∃ (i : Nat) (σ : St) (av : AV), Sx σ [] = τ ∧ Room σ ∧ Ext s σ ∧ s.n.val + 3 ≤ σ.n.val ∧ σ.n.val ≤ s.n.val + 3 + 3 * i ∧ k = l.length - i ∧ i ≤ l.length ∧ σ.obj b3 = .cells [.str t.name, av, .int .i64 t.sort] ∧ (∃ z, σ.obj b2 = .cells z ∧ z.length = 3) ∧ OwnI s.n.val σ av ((l.take i).map T.sort) b3 b2 b2 ∧
    (vv 2).get f = .ptr b2 0 ∧ (vv 3).get f = .ptr b3 0 ∧ (vv 12).get f = kv ∧ (vv 13).get f = .int .i64 (l.length : Int) ∧ (vv 14).get f = .int .i64 (i : Int)) ?_ ⟨0, _, .nils, Sx_nil _, hr.Sx (by simp; omega) (by simp), hxa, by omega, by omega, rfl, by omega, ?_, ?_, ?_, ?_⟩
  · rintro k f τ ⟨i, σ, av, rfl, hr1, hx, hn0, hn1, rfl, hi, o3, ⟨z, o2, hz3⟩, own, g2, g3, g12, g13, g14⟩
    have hk1 := hk.x hx
    have w3 : b3.val < σ.n.val := by omega
    have w2 : b2.val < σ.n.val := by omega
    have n23 : b2.val ≠ b3.val := by omega
    by_cases c1 : i < l.length
    · obtain ⟨cs, hat⟩ := hk1.at c1
      obtain ⟨ng', mg', kv', rfl, hz', hkv'⟩ := hat.t6.ex
      have e1 : (l.take (i + 1)).map T.sort = (l.take i).map T.sort ++ [l[i].sort] := by rw [← List.take_append_getElem c1, List.map_append]; rfl
      rcases own.h with ⟨rfl, hl0⟩ | ⟨b, rfl, hne, h1, h2, h3, h4, h5, _⟩
      · have hap := vapp_one0 (s := σ) (L := [.cells [.int .i64 l[i].op, ng', mg', .str l[i].name, .int .i64 l[i].sort, kv'], .cells [.int .i64 l[i].sort]]) (bytes := 8) hr1 (by simp) (i := 1) rfl (by unfold limit; omega)
        simp only [go_sem, ↓reduceIte, Nat.reduceMod, Nat.reduceEqDiff, Nat.reduceAdd, Nat.reduceMul, Nat.reduceSub, Nat.reduceLeDiff, Nat.reduceLT, Int.reduceEq, Int.reduceLT, Int.reduceLE, Int.reduceAdd, Int.reduceSub, Int.reduceNeg, reduceCtorEq, Nat.reduceShiftRight, Nat.reduceAnd, Nat.reduceBNe, g2, g3, g12, g13, g14, Int.ofNat_lt, c1, hr1, hk1.ia c1, hat.ld, w3, o3, hap]
        refine ⟨l.length - (i + 1), by omega, i + 1, _, .sl (nm σ 2) 0 1 1 1, Sx_nil _, (hr1.put w3 _).Sx (by rw [put_n]; simp; omega) (by simp), (hx.put (by omega) _).trans (ext_Sx (hr1.put w3 _) (by simp)), ?_, ?_, rfl, by omega, ?_, ⟨z, ?_, hz3⟩, ?_, ?_⟩
        · rw [Sx_n (hr1.put w3 _) (by simp), put_n]; simp; omega
        · rw [Sx_n (hr1.put w3 _) (by simp), put_n]; simp; omega
        · rw [Sx_old (hr1.put w3 _) (by simp) (by rw [put_n]; exact w3), put_self]
        · rw [Sx_old (hr1.put w3 _) (by simp) (by rw [put_n]; exact w2), put_ne n23]; exact o2
        · rw [e1, hl0, List.nil_append]
          have vn := nm_val hr1 (k := 2) (by omega)
          refine ⟨.inr ⟨nm σ 2, rfl, by simp, ?_, ?_, by omega, by omega, by omega, by omega⟩⟩
          · have hob := Sx_obj? (s := σ.put b3 (.cells [.str t.name, .sl (nm σ 2) 0 1 1 1, .int .i64 t.sort])) (l := [.cells [.int .i64 l[i].op, ng', mg', .str l[i].name, .int .i64 l[i].sort, kv'], .cells [.int .i64 l[i].sort], .cells [.int .i64 l[i].sort]]) (hr1.put w3 _) (by simp) (i := 2) rfl
            rw [nm_put] at hob; exact hob
          · rw [vn, Sx_n (hr1.put w3 _) (by simp), put_n]; simp
        · rw [wrap_i64 (by omega) (by omega)]; congr 1
      · have hlen : ((l.take i).map T.sort).length = i := by simp; omega
        have ci : (cellsI ((l.take i).map T.sort)).length = i := by simp [cellsI]; omega
        have o3' := o3
        rw [hlen] at o3'
        have hap := vapp_one (s := σ) (L := [.cells [.int .i64 l[i].op, ng', mg', .str l[i].name, .int .i64 l[i].sort, kv'], .cells [.int .i64 l[i].sort]]) (bytes := 8) (len := i) hr1 (by simp) h2 h1 ci (i := 1) rfl (by unfold limit; omega) (by unfold limit; omega)
        have hrb := hr1.put h2 .dead
        have w3b : b3.val < (σ.put b .dead).n.val := by rw [put_n]; exact w3
        have n3b : b3.val ≠ b.val := fun e => h4 e.symm
        have n2b : b2.val ≠ b.val := fun e => h5 e.symm
        simp only [go_sem, ↓reduceIte, Nat.reduceMod, Nat.reduceEqDiff, Nat.reduceAdd, Nat.reduceMul, Nat.reduceSub, Nat.reduceLeDiff, Nat.reduceLT, Int.reduceEq, Int.reduceLT, Int.reduceLE, Int.reduceAdd, Int.reduceSub, Int.reduceNeg, reduceCtorEq, Nat.reduceShiftRight, Nat.reduceAnd, Nat.reduceBNe, g2, g3, g12, g13, g14, Int.ofNat_lt, c1, hr1, hk1.ia c1, hat.ld, w3, h2, o3', hap, put_ne n3b]
        refine ⟨l.length - (i + 1), by omega, i + 1, _, .sl (nm σ 2) 0 (i + 1) (i + 1) 1, Sx_nil _, (hrb.put w3b _).Sx (by rw [put_n, put_n]; simp; omega) (by simp), ((hx.put (by omega) _).put (by omega) _).trans (ext_Sx (hrb.put w3b _) (by simp)), ?_, ?_, rfl, by omega, ?_, ⟨z, ?_, hz3⟩, ?_, ?_⟩
        · rw [Sx_n (hrb.put w3b _) (by simp), put_n, put_n]; simp; omega
        · rw [Sx_n (hrb.put w3b _) (by simp), put_n, put_n]; simp; omega
        · rw [Sx_old (hrb.put w3b _) (by simp) (by rw [put_n]; exact w3b), put_self]
        · rw [Sx_old (hrb.put w3b _) (by simp) (by rw [put_n, put_n]; exact w2), put_ne n23, put_ne n2b]; exact o2
        · rw [e1]
          have vn := nm_val hr1 (k := 2) (by omega)
          refine ⟨.inr ⟨nm σ 2, ?_, by simp, ?_, ?_, by omega, by omega, by omega, by omega⟩⟩
          · rw [List.length_append, hlen]; rfl
          · have hob := Sx_obj? (s := (σ.put b .dead).put b3 (.cells [.str t.name, .sl (nm σ 2) 0 (i + 1) (i + 1) 1, .int .i64 t.sort])) (l := [.cells [.int .i64 l[i].op, ng', mg', .str l[i].name, .int .i64 l[i].sort, kv'], .cells [.int .i64 l[i].sort], .cells (cellsI ((l.take i).map T.sort) ++ [.int .i64 l[i].sort])]) (hrb.put w3b _) (by simp) (i := 2) rfl
            rw [nm_put, nm_put] at hob
            rw [show cellsI ((l.take i).map T.sort ++ [l[i].sort]) = cellsI ((l.take i).map T.sort) ++ [.int .i64 l[i].sort] by simp [cellsI]]
            exact hob
          · rw [vn, Sx_n (hrb.put w3b _) (by simp), put_n, put_n]; simp
        · rw [wrap_i64 (by omega) (by omega)]; congr 1
    · have e : i = l.length := by omega
      subst e
      rw [List.take_length] at own
      have hav := own.one
      simp only [go_sem, ↓reduceIte, Nat.reduceMod, Nat.reduceEqDiff, Nat.reduceAdd, Nat.reduceMul, Nat.reduceSub, Nat.reduceLeDiff, Nat.reduceLT, Int.reduceEq, Int.reduceLT, Int.reduceLE, Int.reduceAdd, Int.reduceSub, Int.reduceNeg, reduceCtorEq, Nat.reduceShiftRight, Nat.reduceAnd, Nat.reduceBNe, g2, g3, g12, g13, g14, Int.ofNat_lt, c1, hr1, w3, w2, o3, o2, hz3]
      refine settled_fz ((hx.put (by omega) _).trans (ext_Sx (hr1.put w2 _) (by simp))) (fz_agg3 (.str _) ?_ (.int _ _))
      exact own.fz (fun b hb hb2 => by rw [Sx_old (hr1.put w2 _) (by simp) (by rw [put_n]; exact hb2), put_ne hb])
  · exact q3
  · exact ⟨_, q2, rfl⟩
  · exact ⟨.inl ⟨rfl, by simp⟩⟩
  · simp only [go_sem, ↓reduceIte, Nat.reduceMod, Nat.reduceEqDiff, Nat.reduceAdd, Nat.reduceMul, Nat.reduceSub, Nat.reduceLeDiff, Nat.reduceLT, Int.reduceEq, Int.reduceLT, Int.reduceLE, Int.reduceAdd, Int.reduceSub, Int.reduceNeg, reduceCtorEq, Nat.reduceShiftRight, Nat.reduceAnd, Nat.reduceBNe]
    rfl
end Go.Proofs.Ytjnejkganejdbaa
namespace Go.Proofs.Ytjnejkganejdbaa
open Go Go.Vm
set_option linter.unusedVariables false
set_option linter.unusedSimpArgs false
end Go.Proofs.Ytjnejkganejdbaa
namespace Go.Proofs.Ytjnejkganejdbaa
open Go Go.Vm
set_option linter.unusedVariables false
set_option linter.unusedSimpArgs false
def plainB (t : T) : Bool := !t.n.neg && decide (t.n.mag = []) && decide (t.name = [])
def madeB (op : Int) : Bool := decide (5 ≤ op ∧ op ≤ 22)
/-- May a node be, with kids that are terms? -/
def nodeOk (t : T) : Bool :=
  if t.op = 1 then zIs t.n && (decide (t.name = []) && (decide (t.sort = 2) && decide (t.kids = [])))
  else if t.op = 2 ∨ t.op = 3 then plainB t && (decide (t.sort = 1) && decide (t.kids = []))
  else if t.op = 4 then !t.n.neg && (decide (t.n.mag = []) && sigOk ⟨t.name, t.kids.map T.sort, t.sort⟩)
  else madeB t.op && (plainB t && (kidsOk t.op t.kids.length && (decide (wrongE t.op t.kids = 0) && decide (t.sort = resSort t.op t.kids))))
theorem len0 {α : Type} (l : List α) : ((l.length : Int) = 0) = (l = []) := by cases l <;> simp; omega
theorem kids12 {l : List T} (h : kidsOk 12 (l.length : Int) = true) : 2 < l.length := by simp [kidsOk] at h; omega
theorem kids1 {op : Int} {l : List T} (h : kidsOk op (l.length : Int) = true) : 0 < l.length := by
  unfold kidsOk at h
  split at h
  · simp at h; omega
  · split at h
    · simp at h; omega
    · split at h <;> simp at h <;> omega
theorem kids2 {op : Int} {l : List T} (ho : op = 15 ∨ op = 16 ∨ op = 17) (h : kidsOk op (l.length : Int) = true) : l.length = 2 := by
  rcases ho with rfl | rfl | rfl <;> simp [kidsOk] at h <;> omega
theorem node_ok (s : St) (cs : List AV) (t : T) (hr : Room s) (hn : s.n.val + 4 * t.kids.length ≤ 49000) (hkl : t.kids.length ≤ 1000) (hb : ∀ i (h : i < t.kids.length), NumB t.kids[i]) (h : RT6 s cs t) : CA F.term_node [.agg cs] s = .ok (.bool (nodeOk t)) s := by
  have h' := h
  obtain ⟨ng, mg, kv, rfl, hz, hk⟩ := h.ex
  have hzn := hz.neg
  have hzm := hz.mag
  by_cases c1 : t.op = 1
  · have e : nodeOk t = (zIs t.n && (decide (t.name = []) && (decide (t.sort = 2) && decide (t.kids = [])))) := by simp [nodeOk, c1]
    have hw := whole_Is_ok (Sx s [.cells [.int .i64 t.op, ng, mg, .str t.name, .int .i64 t.sort, kv]]) ng mg t.n (hr.Sx (by simp; omega) (by simp)) (hz.x (ext_Sx hr (by simp)))
    rw [e]
    rw [c1] at hw ⊢
    refine fn_of code_term_node (by simp) ?_
    cases d1 : zIs t.n
    · simp only [go_sem, ↓reduceIte, Nat.reduceMod, Nat.reduceEqDiff, Nat.reduceAdd, Nat.reduceMul, Nat.reduceSub, Nat.reduceLeDiff, Nat.reduceLT, Int.reduceEq, Int.reduceLT, Int.reduceLE, Int.reduceAdd, Int.reduceSub, Int.reduceNeg, reduceCtorEq, Nat.reduceShiftRight, Nat.reduceAnd, Nat.reduceBNe, hr, hw, d1]
      exact settled_bool (ext_Sx hr (by simp)) (by simp)
    · by_cases d2 : t.name = []
      · by_cases d3 : t.sort = 2
        · rw [d2, d3] at hw ⊢
          simp only [go_sem, ↓reduceIte, Nat.reduceMod, Nat.reduceEqDiff, Nat.reduceAdd, Nat.reduceMul, Nat.reduceSub, Nat.reduceLeDiff, Nat.reduceLT, Int.reduceEq, Int.reduceLT, Int.reduceLE, Int.reduceAdd, Int.reduceSub, Int.reduceNeg, reduceCtorEq, Nat.reduceShiftRight, Nat.reduceAnd, Nat.reduceBNe, hr, hw, d1, hk.vlen, len0]
          exact settled_bool (ext_Sx hr (by simp)) (by simp)
        · rw [d2] at hw ⊢
          simp only [go_sem, ↓reduceIte, Nat.reduceMod, Nat.reduceEqDiff, Nat.reduceAdd, Nat.reduceMul, Nat.reduceSub, Nat.reduceLeDiff, Nat.reduceLT, Int.reduceEq, Int.reduceLT, Int.reduceLE, Int.reduceAdd, Int.reduceSub, Int.reduceNeg, reduceCtorEq, Nat.reduceShiftRight, Nat.reduceAnd, Nat.reduceBNe, hr, hw, d1, d3]
          exact settled_bool (ext_Sx hr (by simp)) (by simp)
      · simp only [go_sem, ↓reduceIte, Nat.reduceMod, Nat.reduceEqDiff, Nat.reduceAdd, Nat.reduceMul, Nat.reduceSub, Nat.reduceLeDiff, Nat.reduceLT, Int.reduceEq, Int.reduceLT, Int.reduceLE, Int.reduceAdd, Int.reduceSub, Int.reduceNeg, reduceCtorEq, Nat.reduceShiftRight, Nat.reduceAnd, Nat.reduceBNe, hr, hw, d1, d2]
        exact settled_bool (ext_Sx hr (by simp)) (by simp)
  by_cases c2 : t.op = 2 ∨ t.op = 3
  · have e : nodeOk t = (plainB t && (decide (t.sort = 1) && decide (t.kids = []))) := by simp only [nodeOk]; rw [if_neg c1, if_pos c2]
    have hp := plain_ok (Sx s [.cells [.int .i64 t.op, ng, mg, .str t.name, .int .i64 t.sort, kv]]) _ t (hr.Sx (by simp; omega) (by simp)) (h'.x (ext_Sx hr (by simp)))
    change _ = R.ok (.bool (plainB t)) _ at hp
    rw [e]
    rcases c2 with c3 | c3
    all_goals
      rw [c3] at hp ⊢
      refine fn_of code_term_node (by simp) ?_
      cases d1 : plainB t
      · simp only [go_sem, ↓reduceIte, Nat.reduceMod, Nat.reduceEqDiff, Nat.reduceAdd, Nat.reduceMul, Nat.reduceSub, Nat.reduceLeDiff, Nat.reduceLT, Int.reduceEq, Int.reduceLT, Int.reduceLE, Int.reduceAdd, Int.reduceSub, Int.reduceNeg, reduceCtorEq, Nat.reduceShiftRight, Nat.reduceAnd, Nat.reduceBNe, hr, hp, d1]
        exact settled_bool (ext_Sx hr (by simp)) (by simp)
      · by_cases d3 : t.sort = 1
        · rw [d3] at hp ⊢
          simp only [go_sem, ↓reduceIte, Nat.reduceMod, Nat.reduceEqDiff, Nat.reduceAdd, Nat.reduceMul, Nat.reduceSub, Nat.reduceLeDiff, Nat.reduceLT, Int.reduceEq, Int.reduceLT, Int.reduceLE, Int.reduceAdd, Int.reduceSub, Int.reduceNeg, reduceCtorEq, Nat.reduceShiftRight, Nat.reduceAnd, Nat.reduceBNe, hr, hp, d1, hk.vlen, len0]
          exact settled_bool (ext_Sx hr (by simp)) (by simp)
        · simp only [go_sem, ↓reduceIte, Nat.reduceMod, Nat.reduceEqDiff, Nat.reduceAdd, Nat.reduceMul, Nat.reduceSub, Nat.reduceLeDiff, Nat.reduceLT, Int.reduceEq, Int.reduceLT, Int.reduceLE, Int.reduceAdd, Int.reduceSub, Int.reduceNeg, reduceCtorEq, Nat.reduceShiftRight, Nat.reduceAnd, Nat.reduceBNe, hr, hp, d1, d3]
          exact settled_bool (ext_Sx hr (by simp)) (by simp)
  have c2a : ¬ t.op = 2 := fun e => c2 (.inl e)
  have c2b : ¬ t.op = 3 := fun e => c2 (.inr e)
  by_cases c4 : t.op = 4
  · have e : nodeOk t = (!t.n.neg && (decide (t.n.mag = []) && sigOk ⟨t.name, t.kids.map T.sort, t.sort⟩)) := by simp only [nodeOk]; rw [if_neg c1, if_neg c2, if_pos c4]
    have hx1 := ext_Sx (s := s) (l := [.cells [.int .i64 t.op, ng, mg, .str t.name, .int .i64 t.sort, kv]]) hr (by simp)
    have hr1 := hr.Sx (l := [.cells [.int .i64 t.op, ng, mg, .str t.name, .int .i64 t.sort, kv]]) (by simp; omega) (by simp)
    have hn1 := Sx_n (s := s) (l := [.cells [.int .i64 t.op, ng, mg, .str t.name, .int .i64 t.sort, kv]]) hr (by simp)
    simp only [List.length_cons, List.length_nil] at hn1
    have hs := Sig_ok (Sx s [.cells [.int .i64 t.op, ng, mg, .str t.name, .int .i64 t.sort, kv]]) _ t hr1 (by omega) hkl (h'.x hx1)
    have hi := IsSig_ok (Sx s [.cells [.int .i64 t.op, ng, mg, .str t.name, .int .i64 t.sort, kv]]) ⟨t.name, t.kids.map T.sort, t.sort⟩ _ hr1 (by omega) (avI_ints _ _ (by simp; omega))
    rw [e]
    rw [c4] at hs hi ⊢
    refine fn_of code_term_node (by simp) ?_
    cases d1 : t.n.neg
    · rw [d1] at hzn
      subst hzn
      by_cases d2 : t.n.mag = []
      · simp only [go_sem, ↓reduceIte, Nat.reduceMod, Nat.reduceEqDiff, Nat.reduceAdd, Nat.reduceMul, Nat.reduceSub, Nat.reduceLeDiff, Nat.reduceLT, Int.reduceEq, Int.reduceLT, Int.reduceLE, Int.reduceAdd, Int.reduceSub, Int.reduceNeg, reduceCtorEq, Nat.reduceShiftRight, Nat.reduceAnd, Nat.reduceBNe, hr, Bool.not_false, hzm.vlen, len0, d2, hs, hi]
        exact settled_bool (ext_Sx hr (by simp)) (by simp)
      · simp only [go_sem, ↓reduceIte, Nat.reduceMod, Nat.reduceEqDiff, Nat.reduceAdd, Nat.reduceMul, Nat.reduceSub, Nat.reduceLeDiff, Nat.reduceLT, Int.reduceEq, Int.reduceLT, Int.reduceLE, Int.reduceAdd, Int.reduceSub, Int.reduceNeg, reduceCtorEq, Nat.reduceShiftRight, Nat.reduceAnd, Nat.reduceBNe, hr, Bool.not_false, hzm.vlen, len0, d2]
        exact settled_bool (ext_Sx hr (by simp)) (by simp)
    · rw [d1] at hzn
      subst hzn
      simp only [go_sem, ↓reduceIte, Nat.reduceMod, Nat.reduceEqDiff, Nat.reduceAdd, Nat.reduceMul, Nat.reduceSub, Nat.reduceLeDiff, Nat.reduceLT, Int.reduceEq, Int.reduceLT, Int.reduceLE, Int.reduceAdd, Int.reduceSub, Int.reduceNeg, reduceCtorEq, Nat.reduceShiftRight, Nat.reduceAnd, Nat.reduceBNe, hr, Bool.not_true]
      exact settled_bool (ext_Sx hr (by simp)) (by simp)
  · have e : nodeOk t = (madeB t.op && (plainB t && (kidsOk t.op t.kids.length && (decide (wrongE t.op t.kids = 0) && decide (t.sort = resSort t.op t.kids))))) := by simp only [nodeOk]; rw [if_neg c1, if_neg c2, if_neg c4]
    obtain ⟨L, hL⟩ : ∃ L : List AO, L = [.cells [.int .i64 t.op, ng, mg, .str t.name, .int .i64 t.sort, kv], .dead, .dead, .dead, .dead, .dead, .dead, .dead, .dead, .dead, .dead, .dead, .dead, .dead, .dead, .dead, .dead, .dead, .dead, .dead, .dead, .dead, .dead, .dead, .dead, .dead, .dead, .dead, .dead, .dead, .dead, .dead, .dead, .dead, .dead] := ⟨_, rfl⟩
    have hlen : L.length = 35 := by rw [hL]; rfl
    have hx1 := ext_Sx (s := s) (l := L) hr (by omega)
    have hr1 := hr.Sx (l := L) (by omega) (by omega)
    have hn1 := Sx_n (s := s) (l := L) hr (by omega)
    have f1 := made_ok (Sx s L) t.op
    have f2 := plain_ok (Sx s L) _ t hr1 (h'.x hx1)
    have f3 := kids_ok (Sx s L) t.op t.kids.length
    have f4 := fun d3 : kidsOk t.op t.kids.length = true => wrong_ok (Sx s L) kv t.kids t.op hr1 (by omega) (fun e => kids12 (by rw [← e]; exact d3)) (fun _ => kids1 d3) (fun ho => kids2 ho d3) hb (hk.x hx1)
    have f5 := fun d3 : kidsOk t.op t.kids.length = true => sort_ok (Sx s L) kv t.kids t.op (fun e => by have := kids12 (l := t.kids) (by rw [← e]; exact d3); omega) (hk.x hx1)
    change _ = R.ok (.bool (madeB t.op)) _ at f1
    change _ = R.ok (.bool (plainB t)) _ at f2
    rw [hL] at f1 f2 f3 hx1
    rw [e]
    refine fn_of code_term_node (by simp) ?_
    simp only [go_sem, ↓reduceIte, Nat.reduceMod, Nat.reduceEqDiff, Nat.reduceAdd, Nat.reduceMul, Nat.reduceSub, Nat.reduceLeDiff, Nat.reduceLT, Int.reduceEq, Int.reduceLT, Int.reduceLE, Int.reduceAdd, Int.reduceSub, Int.reduceNeg, reduceCtorEq, Nat.reduceShiftRight, Nat.reduceAnd, Nat.reduceBNe, hr, c1, c2a, c2b, c4]
    refine W_drawn hr _ (by simp) ?_
    cases d1 : madeB t.op
    · simp only [go_sem, ↓reduceIte, Nat.reduceMod, Nat.reduceEqDiff, Nat.reduceAdd, Nat.reduceMul, Nat.reduceSub, Nat.reduceLeDiff, Nat.reduceLT, Int.reduceEq, Int.reduceLT, Int.reduceLE, Int.reduceAdd, Int.reduceSub, Int.reduceNeg, reduceCtorEq, Nat.reduceShiftRight, Nat.reduceAnd, Nat.reduceBNe, hr, f1, d1]
      exact settled_bool (ext_Sx hr (by simp)) (by simp)
    cases d2 : plainB t
    · simp only [go_sem, ↓reduceIte, Nat.reduceMod, Nat.reduceEqDiff, Nat.reduceAdd, Nat.reduceMul, Nat.reduceSub, Nat.reduceLeDiff, Nat.reduceLT, Int.reduceEq, Int.reduceLT, Int.reduceLE, Int.reduceAdd, Int.reduceSub, Int.reduceNeg, reduceCtorEq, Nat.reduceShiftRight, Nat.reduceAnd, Nat.reduceBNe, hr, f1, d1, f2, d2]
      exact settled_bool (ext_Sx hr (by simp)) (by simp)
    cases d3 : kidsOk t.op t.kids.length
    · simp only [go_sem, ↓reduceIte, Nat.reduceMod, Nat.reduceEqDiff, Nat.reduceAdd, Nat.reduceMul, Nat.reduceSub, Nat.reduceLeDiff, Nat.reduceLT, Int.reduceEq, Int.reduceLT, Int.reduceLE, Int.reduceAdd, Int.reduceSub, Int.reduceNeg, reduceCtorEq, Nat.reduceShiftRight, Nat.reduceAnd, Nat.reduceBNe, hr, f1, d1, f2, d2, hk.vlen, f3, d3]
      exact settled_bool (ext_Sx hr (by simp)) (by simp)
    have f4 := f4 d3
    have f5 := f5 d3
    rw [hL] at f4 f5
    by_cases d4 : wrongE t.op t.kids = 0
    · simp only [go_sem, ↓reduceIte, Nat.reduceMod, Nat.reduceEqDiff, Nat.reduceAdd, Nat.reduceMul, Nat.reduceSub, Nat.reduceLeDiff, Nat.reduceLT, Int.reduceEq, Int.reduceLT, Int.reduceLE, Int.reduceAdd, Int.reduceSub, Int.reduceNeg, reduceCtorEq, Nat.reduceShiftRight, Nat.reduceAnd, Nat.reduceBNe, hr, f1, d1, f2, d2, hk.vlen, f3, d3, f4, d4, f5]
      exact settled_bool (ext_Sx hr (by simp)) (by simp)
    · simp only [go_sem, ↓reduceIte, Nat.reduceMod, Nat.reduceEqDiff, Nat.reduceAdd, Nat.reduceMul, Nat.reduceSub, Nat.reduceLeDiff, Nat.reduceLT, Int.reduceEq, Int.reduceLT, Int.reduceLE, Int.reduceAdd, Int.reduceSub, Int.reduceNeg, reduceCtorEq, Nat.reduceShiftRight, Nat.reduceAnd, Nat.reduceBNe, hr, f1, d1, f2, d2, hk.vlen, f3, d3, f4, d4]
      exact settled_bool (ext_Sx hr (by simp)) (by simp)
end Go.Proofs.Ytjnejkganejdbaa
