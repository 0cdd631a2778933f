/- Functions of the program: more. No condition. -/
import Derived.Test.YtkdkojnlimadnaaDoorLibD
import GoSem.Op.String
import Derived.Test.YtkdkojnlimadnaaDoorLibP
namespace Go.Proofs.YtkdkojnlimadnaaDoor
open Go Go.Vm Go.Lib
set_option linter.unusedVariables false
theorem less_snoc (c d : UInt8) : ∀ (x y : List UInt8), x.length = y.length → Op.bytesLess (x ++ [c]) (y ++ [d]) = (Op.bytesLess x y || (decide (x = y) && decide (c < d)))
  | [], [], _ => by simp [Op.bytesLess]
  | [], _ :: _, h => by simp at h
  | _ :: _, [], h => by simp at h
  | a :: x, b :: y, h => by
    simp only [List.cons_append, Op.bytesLess]
    rw [less_snoc c d x y (by simpa using h)]
    by_cases h1 : a < b
    · simp [h1]
    · by_cases h2 : a = b
      · subst h2; simp [h1]
      · have h3 : (a == b) = false := by simpa using h2
        simp [h1, h3]
        exact fun h => absurd h h2
theorem dig_toNat {n : Nat} (h : n < 10) : (UInt8.ofNat (48 + n)).toNat = 48 + n := by
  rw [UInt8.toNat_ofNat']; omega
theorem padk_inj : ∀ (k a b : Nat), a < 10 ^ k → b < 10 ^ k → padk k a = padk k b → a = b
  | 0, a, b, ha, hb, _ => by simp at ha hb; omega
  | k + 1, a, b, ha, hb, h => by
    rw [Nat.pow_succ] at ha hb
    unfold padk at h
    have h1 := List.append_inj h (by rw [padk_len, padk_len])
    have h2 := padk_inj k (a / 10) (b / 10) (by omega) (by omega) h1.1
    have h3 := congrArg UInt8.toNat (List.cons.inj h1.2).1
    rw [dig_toNat (Nat.mod_lt _ (by omega)), dig_toNat (Nat.mod_lt _ (by omega))] at h3
    omega
theorem padk_less : ∀ (k a b : Nat), a < 10 ^ k → b < 10 ^ k → Op.bytesLess (padk k a) (padk k b) = decide (a < b)
  | 0, a, b, ha, hb => by simp at ha hb; subst ha; subst hb; rfl
  | k + 1, a, b, ha, hb => by
    rw [Nat.pow_succ] at ha hb
    unfold padk
    rw [less_snoc _ _ _ _ (by rw [padk_len, padk_len]), padk_less k (a / 10) (b / 10) (by omega) (by omega)]
    have hd : decide (UInt8.ofNat (48 + a % 10) < UInt8.ofNat (48 + b % 10)) = decide (a % 10 < b % 10) := by
      have e1 : (UInt8.ofNat (48 + a % 10) < UInt8.ofNat (48 + b % 10)) ↔ a % 10 < b % 10 := by
        rw [UInt8.lt_iff_toNat_lt, dig_toNat (Nat.mod_lt _ (by omega)), dig_toNat (Nat.mod_lt _ (by omega))]; omega
      simp only [e1]
    rw [hd]
    have he : decide (padk k (a / 10) = padk k (b / 10)) = decide (a / 10 = b / 10) := by
      congr 1
      exact propext ⟨fun h => padk_inj k _ _ (by omega) (by omega) h, fun h => by rw [h]⟩
    rw [he, Bool.eq_iff_iff]
    simp only [Bool.or_eq_true, Bool.and_eq_true, decide_eq_true_eq]
    omega
theorem dec_low {n : Nat} (h : 1 ≤ n) : 10 ^ ((decDigits n).length - 1) ≤ n := by
  apply Decidable.byContradiction
  intro hlt
  have hp := dec_len_pos n
  by_cases h1 : (decDigits n).length - 1 = 0
  · rw [h1] at hlt; simp at hlt; omega
  · have := dec_len_le (n := n) (k := (decDigits n).length - 1) (by omega) (by omega)
    omega
theorem dec_up (n : Nat) : n < 10 ^ (decDigits n).length := by rw [decDigits_length]; exact lt_pow_nDigits n
theorem dec_shorter {a b : Nat} (h : (decDigits a).length < (decDigits b).length) : a < b := by
  have h1 := dec_up a
  have hp := dec_len_pos a
  by_cases hb : b = 0
  · have h0 : (decDigits 0).length = 1 := by rw [dec_small (by omega)]; rfl
    subst hb; omega
  · have h2 := dec_low (n := b) (by omega)
    have h3 : 10 ^ (decDigits a).length ≤ 10 ^ ((decDigits b).length - 1) := Nat.pow_le_pow_right (by omega) (by omega)
    omega
theorem dec_pad_self (n : Nat) : decDigits n = padk (decDigits n).length n := by
  have h := pad_eq (decDigits n).length (dec_len_pos n) (dec_up n)
  rw [Nat.sub_self] at h
  exact h
theorem dec_less {a b : Nat} (h : (decDigits a).length = (decDigits b).length) : Op.bytesLess (decDigits a) (decDigits b) = decide (a < b) := by
  have ha := dec_pad_self a
  have hb := dec_pad_self b
  rw [← h] at hb
  rw [ha, hb]
  have hl := padk_len (decDigits a).length a
  rw [padk_less _ _ _ (dec_up a) (by rw [h]; exact dec_up b)]
theorem dec_inj {a b : Nat} (h : decDigits a = decDigits b) : a = b := by
  have ha := dec_pad_self a
  have hb := dec_pad_self b
  rw [← h] at hb
  exact padk_inj _ a b (dec_up a) (by rw [h]; exact dec_up b) (ha.symm.trans hb)
end Go.Proofs.YtkdkojnlimadnaaDoor
namespace Go.Vm
theorem vbin_sgtr (s : St) (a b : List UInt8) : vbin .gtr (.str a) (.str b) s = .ok (.bool (!(Op.bytesLess a b || decide (a = b)))) s := by
  show R.ok (.bool (!(Op.bytesLess a b || beqs a b))) s = _
  rw [beqs_eq]
  by_cases h : a = b
  · subst h; simp
  · have h3 : (a == b) = false := by simpa using h
    rw [h3, decide_eq_false h]
attribute [go_sem] vbin_sgtr
end Go.Vm
namespace Go.Proofs.YtkdkojnlimadnaaDoor
open Go Go.Vm
set_option linter.unusedVariables false
set_option linter.unusedSimpArgs false
theorem order_ok (s : St) (v w : AV) (l m : List Nat) (hr : Room s) (hn : s.n.val ≤ 20000) (hv : Nats s v l) (hw : Nats s w m) : CA F.law3_DigitsOrder [v, w] s = .ok (.bool true) s := by
  have hk := known_ok (Sx s []) hr (by show s.n.val ≤ _; omega)
  refine fn_of code_law3_DigitsOrder (by simp) ?_
  by_cases c1 : (8 : Int) < (l.length : Int)
  · simp only [go_sem, ↓reduceIte, Nat.reduceMod, Nat.reduceEqDiff, Nat.reduceAdd, Nat.reduceMul, Nat.reduceSub, Nat.reduceLeDiff, Nat.reduceLT, Int.reduceEq, Int.reduceLT, Int.reduceLE, Int.reduceAdd, Int.reduceSub, Int.reduceNeg, reduceCtorEq, Nat.reduceShiftRight, Nat.reduceAnd, Nat.reduceBNe, Bool.not_true, Bool.not_false, hk, hv.vlen, hw.vlen, c1]
    exact settled_bool (Ext.refl s) rfl
  by_cases c2 : (8 : Int) < (m.length : Int)
  · simp only [go_sem, ↓reduceIte, Nat.reduceMod, Nat.reduceEqDiff, Nat.reduceAdd, Nat.reduceMul, Nat.reduceSub, Nat.reduceLeDiff, Nat.reduceLT, Int.reduceEq, Int.reduceLT, Int.reduceLE, Int.reduceAdd, Int.reduceSub, Int.reduceNeg, reduceCtorEq, Nat.reduceShiftRight, Nat.reduceAnd, Nat.reduceBNe, Bool.not_true, Bool.not_false, hk, hv.vlen, hw.vlen, c1, c2]
    exact settled_bool (Ext.refl s) rfl
  have i1 := isNat_ok (Sx s []) v l hv
  have i2 := isNat_ok (Sx s []) w m hw
  cases c3 : natIs l
  · rw [c3] at i1
    simp only [go_sem, ↓reduceIte, Nat.reduceMod, Nat.reduceEqDiff, Nat.reduceAdd, Nat.reduceMul, Nat.reduceSub, Nat.reduceLeDiff, Nat.reduceLT, Int.reduceEq, Int.reduceLT, Int.reduceLE, Int.reduceAdd, Int.reduceSub, Int.reduceNeg, reduceCtorEq, Nat.reduceShiftRight, Nat.reduceAnd, Nat.reduceBNe, Bool.not_true, Bool.not_false, hk, hv.vlen, hw.vlen, c1, c2, i1]
    exact settled_bool (Ext.refl s) rfl
  rw [c3] at i1
  cases c4 : natIs m
  · rw [c4] at i2
    simp only [go_sem, ↓reduceIte, Nat.reduceMod, Nat.reduceEqDiff, Nat.reduceAdd, Nat.reduceMul, Nat.reduceSub, Nat.reduceLeDiff, Nat.reduceLT, Int.reduceEq, Int.reduceLT, Int.reduceLE, Int.reduceAdd, Int.reduceSub, Int.reduceNeg, reduceCtorEq, Nat.reduceShiftRight, Nat.reduceAnd, Nat.reduceBNe, Bool.not_true, Bool.not_false, hk, hv.vlen, hw.vlen, c1, c2, i1, i2]
    exact settled_bool (Ext.refl s) rfl
  rw [c4] at i2
  have n1 := nat_call (Sx s []) v l (by omega) hv
  have n2 := nat_call (Sx s []) w m (by omega) hw
  have hc := cmpNat_ok (Sx s []) v w l m hr (by show s.n.val + _ + _ ≤ _; omega) hv hw
  rw [vh_is c3] at n1 hc
  rw [vh_is c4] at n2 hc
  have hsh1 := @dec_shorter (val l) (val m)
  have hsh2 := @dec_shorter (val m) (val l)
  have hless := @dec_less (val l) (val m)
  have hinj := @dec_inj (val l) (val m)
  have hfun : val l = val m → Lib.decDigits (val l) = Lib.decDigits (val m) := fun h => by rw [h]
  generalize val l = a at *
  generalize val m = b at *
  generalize Lib.decDigits a = S at *
  generalize Lib.decDigits b = T at *
  unfold cmpI at hc
  by_cases d1 : (S.length : Int) < (T.length : Int)
  · have := hsh1 (by omega)
    rw [if_pos (by omega)] at hc
    simp only [go_sem, ↓reduceIte, Nat.reduceMod, Nat.reduceEqDiff, Nat.reduceAdd, Nat.reduceMul, Nat.reduceSub, Nat.reduceLeDiff, Nat.reduceLT, Int.reduceEq, Int.reduceLT, Int.reduceLE, Int.reduceAdd, Int.reduceSub, Int.reduceNeg, reduceCtorEq, Nat.reduceShiftRight, Nat.reduceAnd, Nat.reduceBNe, Bool.not_true, Bool.not_false, hk, hv.vlen, hw.vlen, c1, c2, i1, i2, n1, n2, hc, d1]
    exact settled_bool (Ext.refl s) rfl
  · by_cases d2 : (S.length : Int) = (T.length : Int)
    · have hl := hless (by omega)
      have hTT : ¬ (T.length : Int) < (T.length : Int) := by omega
      by_cases d3 : a < b
      · rw [decide_eq_true d3] at hl
        rw [if_pos (by omega)] at hc
        simp only [go_sem, ↓reduceIte, Nat.reduceMod, Nat.reduceEqDiff, Nat.reduceAdd, Nat.reduceMul, Nat.reduceSub, Nat.reduceLeDiff, Nat.reduceLT, Int.reduceEq, Int.reduceLT, Int.reduceLE, Int.reduceAdd, Int.reduceSub, Int.reduceNeg, reduceCtorEq, Nat.reduceShiftRight, Nat.reduceAnd, Nat.reduceBNe, Bool.not_true, Bool.not_false, hk, hv.vlen, hw.vlen, c1, c2, i1, i2, n1, n2, hc, hTT, d2, hl]
        exact settled_bool (Ext.refl s) rfl
      · rw [decide_eq_false d3] at hl
        rw [if_neg (by omega)] at hc
        by_cases d4 : S = T
        · have := hinj d4
          rw [if_neg (by omega)] at hc
          simp only [go_sem, ↓reduceIte, Nat.reduceMod, Nat.reduceEqDiff, Nat.reduceAdd, Nat.reduceMul, Nat.reduceSub, Nat.reduceLeDiff, Nat.reduceLT, Int.reduceEq, Int.reduceLT, Int.reduceLE, Int.reduceAdd, Int.reduceSub, Int.reduceNeg, reduceCtorEq, Nat.reduceShiftRight, Nat.reduceAnd, Nat.reduceBNe, Bool.not_true, Bool.not_false, hk, hv.vlen, hw.vlen, c1, c2, i1, i2, n1, n2, hc, hTT, d2, hl, decide_eq_true d4, Bool.false_or, Bool.true_or]
          exact settled_bool (Ext.refl s) rfl
        · have hab : b < a := by
            apply Decidable.byContradiction
            intro h
            exact d4 (hfun (by omega))
          rw [if_pos (by omega)] at hc
          simp only [go_sem, ↓reduceIte, Nat.reduceMod, Nat.reduceEqDiff, Nat.reduceAdd, Nat.reduceMul, Nat.reduceSub, Nat.reduceLeDiff, Nat.reduceLT, Int.reduceEq, Int.reduceLT, Int.reduceLE, Int.reduceAdd, Int.reduceSub, Int.reduceNeg, reduceCtorEq, Nat.reduceShiftRight, Nat.reduceAnd, Nat.reduceBNe, Bool.not_true, Bool.not_false, hk, hv.vlen, hw.vlen, c1, c2, i1, i2, n1, n2, hc, hTT, d2, hl, decide_eq_false d4, Bool.false_or, Bool.true_or]
          exact settled_bool (Ext.refl s) rfl
    · have d5 : (T.length : Int) < (S.length : Int) := by omega
      have := hsh2 (by omega)
      rw [if_neg (by omega), if_pos (by omega)] at hc
      simp only [go_sem, ↓reduceIte, Nat.reduceMod, Nat.reduceEqDiff, Nat.reduceAdd, Nat.reduceMul, Nat.reduceSub, Nat.reduceLeDiff, Nat.reduceLT, Int.reduceEq, Int.reduceLT, Int.reduceLE, Int.reduceAdd, Int.reduceSub, Int.reduceNeg, reduceCtorEq, Nat.reduceShiftRight, Nat.reduceAnd, Nat.reduceBNe, Bool.not_true, Bool.not_false, hk, hv.vlen, hw.vlen, c1, c2, i1, i2, n1, n2, hc, d1, d2, d5]
      exact settled_bool (Ext.refl s) rfl
end Go.Proofs.YtkdkojnlimadnaaDoor
