/- Functions of the program: more. No condition. -/
import Derived.Test.YtjnejkganejdbaaGreatLibP
import Derived.Test.YtjnejkganejdbaaGreatLibG
namespace Go.Proofs.YtjnejkganejdbaaGreat
open Go Go.Vm
set_option linter.unusedVariables false
set_option linter.unusedSimpArgs false
theorem TermTells_ok (s : St) (cs ds : List AV) (t u : T) (hr : Room s) (hn : s.n.val ≤ 1000) (ht : RT6 s cs t) (hu : RT6 s ds u) : CA F.law10_TermTells [.agg cs, .agg ds] s = .ok (.bool true) s := by
  obtain ⟨ng, mg, kv, rfl, hz, hk⟩ := ht.ex
  obtain ⟨ng', mg', kv', rfl, hz', hk'⟩ := hu.ex
  obtain ⟨c0, hc0⟩ : ∃ c, c = [AV.int .i64 t.op, ng, mg, .str t.name, .int .i64 t.sort, kv] := ⟨_, rfl⟩
  obtain ⟨d0, hd0⟩ : ∃ c, c = [AV.int .i64 u.op, ng', mg', .str u.name, .int .i64 u.sort, kv'] := ⟨_, rfl⟩
  have hx0 := ext_Sx (s := s) (l := [.cells c0, .cells d0]) hr (by simp)
  have hr0 := hr.Sx (l := [.cells c0, .cells d0]) (by simp; omega) (by simp)
  have hn0 := Sx_n (s := s) (l := [.cells c0, .cells d0]) hr (by simp)
  simp only [List.length_cons, List.length_nil] at hn0
  have fk := fun t => known_ok (Sx s t)
  have ht0 := ht.x hx0
  have hu0 := hu.x hx0
  have ft := fewTerm_ok t _ _ hr0 (by omega) ht0
  have fu := fewTerm_ok u _ _ hr0 (by omega) hu0
  rw [hc0, hd0] at ft fu
  cases d1 : fewT t
  · refine fn_of code_law10_TermTells (by simp) ?_
    simp only [go_sem, ↓reduceIte, Nat.reduceMod, Nat.reduceEqDiff, Nat.reduceAdd, Nat.reduceMul, Nat.reduceSub, Nat.reduceLeDiff, Nat.reduceLT, Int.reduceEq, Int.reduceLT, Int.reduceLE, Int.reduceAdd, Int.reduceSub, Int.reduceNeg, reduceCtorEq, Nat.reduceShiftRight, Nat.reduceAnd, Nat.reduceBNe, hr, fk, Bool.not_true, ft, fu, d1, Bool.not_false, hz.one, hk.one, hz'.one, hk'.one]
    exact settled_bool (ext_Sx hr (by simp)) rfl
  cases d2 : fewT u
  · refine fn_of code_law10_TermTells (by simp) ?_
    simp only [go_sem, ↓reduceIte, Nat.reduceMod, Nat.reduceEqDiff, Nat.reduceAdd, Nat.reduceMul, Nat.reduceSub, Nat.reduceLeDiff, Nat.reduceLT, Int.reduceEq, Int.reduceLT, Int.reduceLE, Int.reduceAdd, Int.reduceSub, Int.reduceNeg, reduceCtorEq, Nat.reduceShiftRight, Nat.reduceAnd, Nat.reduceBNe, hr, fk, Bool.not_true, ft, fu, d1, d2, Bool.not_false, hz.one, hk.one, hz'.one, hk'.one]
    exact settled_bool (ext_Sx hr (by simp)) rfl
  have htm : t.tame := fewN_tame t (by unfold fewT at d1; rw [Bool.and_eq_true] at d1; exact d1.2)
  have hum : u.tame := fewN_tame u (by unfold fewT at d2; rw [Bool.and_eq_true] at d2; exact d2.2)
  have hts : t.size ≤ 120 := by unfold fewT at d1; rw [Bool.and_eq_true, decide_eq_true_eq] at d1; exact d1.1
  have fi := Is_ok t htm _ _ hr0 (by omega) ht0
  have fs := ref_Sigs_ok _ _ t hr0 (by omega) hts ht0
  have fS := term_Sigs_ok _ _ t htm hr0 (by omega) ht0
  have hxd := ext_Sx (s := s) (l := .cells c0 :: .cells d0 :: .dead :: .dead :: .dead :: .dead :: .dead :: .dead :: .dead :: .dead :: .dead :: .dead :: .dead :: .dead :: .dead :: .dead :: .dead :: .dead :: .dead :: .dead :: .dead :: .dead :: .dead :: .dead :: .dead :: .dead :: .dead :: .dead :: .dead :: .dead :: .dead :: .dead :: .dead :: .dead :: []) hr (by simp)
  have hrd := hr.Sx (l := .cells c0 :: .cells d0 :: .dead :: .dead :: .dead :: .dead :: .dead :: .dead :: .dead :: .dead :: .dead :: .dead :: .dead :: .dead :: .dead :: .dead :: .dead :: .dead :: .dead :: .dead :: .dead :: .dead :: .dead :: .dead :: .dead :: .dead :: .dead :: .dead :: .dead :: .dead :: .dead :: .dead :: .dead :: .dead :: []) (by simp; omega) (by simp)
  have hnd := Sx_n (s := s) (l := .cells c0 :: .cells d0 :: .dead :: .dead :: .dead :: .dead :: .dead :: .dead :: .dead :: .dead :: .dead :: .dead :: .dead :: .dead :: .dead :: .dead :: .dead :: .dead :: .dead :: .dead :: .dead :: .dead :: .dead :: .dead :: .dead :: .dead :: .dead :: .dead :: .dead :: .dead :: .dead :: .dead :: .dead :: .dead :: []) hr (by simp)
  simp only [List.length_cons, List.length_nil] at hnd
  have htd := ht.x hxd
  have hud := hu.x hxd
  have g1 := Is_tm t htm _ _ hrd (by omega) htd
  have g2 := Is_ok t htm _ _ hrd (by omega) htd
  have g3 := Count_ok _ _ t hrd (by omega) htd
  have g4 := ref_Count_ok _ _ t hrd (by omega) htd
  have g5 := sameTm_ok _ t u (Nat.le_refl _) htm _ _ _ hrd (by omega) htd hud
  have g6 := same_ok _ t u (Nat.le_refl _) htm _ _ _ hrd (by omega) htd hud
  have hlen := namesT_len t []
  have hags := namesT_args t [] (by omega) (by simp)
  simp only [List.length_nil] at hlen
  have hl2 : (sortG (namesT [] t).1).length ≤ 400 := by rw [sortG_len]; omega
  have ha2 : ∀ o ∈ sortG (namesT [] t).1, o.args.length ≤ 400 := fun o ho => hags o ((sortG_perm _).mem_iff.mp ho)
  have g7 := sameSigs_ok _ (sortG (namesT [] t).1) (sortG (namesT [] t).1) hrd (by omega) hl2 hl2 ha2 ha2
  have g8 := sameSigs_ok _ [] [] hrd (by omega) (by simp) (by simp) (by simp) (by simp)
  rw [avG_nil] at g8
  rw [hc0, hd0] at fi fs fS g1 g2 g3 g4 g5 g6 g7 g8
  have hmin : min (401 : Int) (t.size : Int) = min (t.size : Int) 401 := by omega
  rw [hmin] at g3
  cases hB : isT t
  · rw [hB] at fi fS g1 g2
    simp only [Bool.false_eq_true, if_false] at fS
    rw [avG_nil] at fS
    refine fn_of code_law10_TermTells (by simp) ?_
    simp only [go_sem, ↓reduceIte, Nat.reduceMod, Nat.reduceEqDiff, Nat.reduceAdd, Nat.reduceMul, Nat.reduceSub, Nat.reduceLeDiff, Nat.reduceLT, Int.reduceEq, Int.reduceLT, Int.reduceLE, Int.reduceAdd, Int.reduceSub, Int.reduceNeg, reduceCtorEq, Nat.reduceShiftRight, Nat.reduceAnd, Nat.reduceBNe, hr, fk, Bool.not_true, ft, fu, d1, d2, Bool.not_false, hz.one, hk.one, hz'.one, hk'.one, fi, fS]
    refine W_drawn hr _ (by simp) ?_
    simp only [go_sem, ↓reduceIte, Nat.reduceMod, Nat.reduceEqDiff, Nat.reduceAdd, Nat.reduceMul, Nat.reduceSub, Nat.reduceLeDiff, Nat.reduceLT, Int.reduceEq, Int.reduceLT, Int.reduceLE, Int.reduceAdd, Int.reduceSub, Int.reduceNeg, reduceCtorEq, Nat.reduceShiftRight, Nat.reduceAnd, Nat.reduceBNe, hr, hz.one, hk.one, hz'.one, hk'.one, g1, g2, g3, g4, g5, g6, g8, decide_true, BEq.rfl]
    exact settled_bool (by rw [hc0, hd0] at hxd; exact hxd) rfl
  · rw [hB] at fi fS g1 g2
    simp only [if_true] at fS
    have ga := avG_one (sortG (namesT [] t).1)
    refine fn_of code_law10_TermTells (by simp) ?_
    simp only [go_sem, ↓reduceIte, Nat.reduceMod, Nat.reduceEqDiff, Nat.reduceAdd, Nat.reduceMul, Nat.reduceSub, Nat.reduceLeDiff, Nat.reduceLT, Int.reduceEq, Int.reduceLT, Int.reduceLE, Int.reduceAdd, Int.reduceSub, Int.reduceNeg, reduceCtorEq, Nat.reduceShiftRight, Nat.reduceAnd, Nat.reduceBNe, hr, fk, Bool.not_true, ft, fu, d1, d2, Bool.not_false, hz.one, hk.one, hz'.one, hk'.one, fi, fs, fS]
    refine W_drawn hr _ (by simp) ?_
    simp only [go_sem, ↓reduceIte, Nat.reduceMod, Nat.reduceEqDiff, Nat.reduceAdd, Nat.reduceMul, Nat.reduceSub, Nat.reduceLeDiff, Nat.reduceLT, Int.reduceEq, Int.reduceLT, Int.reduceLE, Int.reduceAdd, Int.reduceSub, Int.reduceNeg, reduceCtorEq, Nat.reduceShiftRight, Nat.reduceAnd, Nat.reduceBNe, hr, hz.one, hk.one, hz'.one, hk'.one, g1, g2, g3, g4, g5, g6, g7, decide_true, BEq.rfl]
    exact settled_bool (by rw [hc0, hd0] at hxd; exact hxd) rfl
end Go.Proofs.YtjnejkganejdbaaGreat
