/- Functions of the program: more. No condition. -/
import Derived.Test.YtjnejkganejdbaaGreatLibG
namespace Go.Proofs.YtjnejkganejdbaaGreat
open Go Go.Vm
set_option linter.unusedVariables false
set_option linter.unusedSimpArgs false
set_option linter.unusedSectionVars false
theorem TermLinearPos (s : St) (t : T) (ng mg kv : AV) (n : Int) (hn16 : -32768 ≤ n ∧ n ≤ 32767) (hr : Room s) (hn : s.n.val ≤ 1000) (h : RT6 s [.int .i64 t.op, ng, mg, .str t.name, .int .i64 2, kv] t) (d1 : fewT t = true) (d2 : isT t = true) (d3 : t.sort = 2) : CA F.law10_TermLinear [.agg [.int .i64 t.op, ng, mg, .str t.name, .int .i64 2, kv], .int .i16 n, .bool false] s = .ok (.bool true) s := by
  have ot := rz1 h
  have htm : t.tame := fewN_tame t (by unfold fewT at d1; rw [Bool.and_eq_true] at d1; exact d1.2)
  have hsz : t.size ≤ 120 := by unfold fewT at d1; simp at d1; exact d1.1
  have fk := fun t => known_ok (Sx s t)
  obtain ⟨A, hA⟩ : ∃ L : List AO, L = [.cells [.int .i64 t.op, ng, mg, .str t.name, .int .i64 2, kv]] := ⟨_, rfl⟩
  have lA : A.length = 1 := by rw [hA]; rfl
  have xA := ext_Sx (s := s) (l := A) hr (by omega)
  have rA := hr.Sx (l := A) (by omega) (by omega)
  have nA := Sx_n (s := s) (l := A) hr (by omega)
  have fg := fewTerm_ok t (Sx s A) _ rA (by omega) (h.x xA)
  have fi := Is_tm t htm (Sx s A) _ rA (by omega) (h.x xA)
  rw [d1] at fg
  rw [d2] at fi
  obtain ⟨nc, fn, rn⟩ := num_ok (Sx s A) n rA (by omega) (by omega)
  have rn' := rn (Sx s A)
  obtain ⟨na, nb, nk, rfl, hnz, hnk⟩ := rn'.ex
  simp only [T.op, T.name, T.sort, T.n, T.kids] at fn rn rn' hnz hnk
  rw [hA] at fg fi fn
  have rk : RT6 (Sx s A) [.int .i64 1, na, nb, .str [], .int .i64 2, nk] (tNum n) := rn _
  have hrk : ∀ L : List AO, L.length ≤ 5000 → L[1]? = some (.cells [.int .i64 1, na, nb, .str [], .int .i64 2, nk]) → RT6 (Sx s L) [.int .i64 1, na, nb, .str [], .int .i64 2, nk] (tNum n) := fun L _ _ => rn _
  have hkt : ((tNum n) : T).size ≤ 2 := by simp [tNeg, tNum, T.size, T.sizes]
  have hktm : ((tNum n) : T).tame := tNum_tame n hn16
  have hk1 := rz1 rk
  have fc := fun L => con_ok (Sx s L) [120] 2
  obtain ⟨Q, hQ⟩ : ∃ L : List AO, L = [.cells [.int .i64 t.op, ng, mg, .str t.name, .int .i64 2, kv], .cells [.int .i64 1, na, nb, .str [], .int .i64 2, nk]] := ⟨_, rfl⟩
  have lQ : Q.length = 2 := by rw [hQ]; rfl
  have xQ := ext_Sx (s := s) (l := Q) hr (by omega)
  have rQ := hr.Sx (l := Q) (by omega) (by omega)
  have nQ := Sx_n (s := s) (l := Q) hr (by omega)
  have fc' := con_ok (Sx s Q) [120] 2 rQ
  rw [hQ] at fc'
  obtain ⟨S0, hS0⟩ : ∃ L : List AO, L = [.cells [.int .i64 t.op, ng, mg, .str t.name, .int .i64 2, kv], .cells [.int .i64 1, na, nb, .str [], .int .i64 2, nk], .cells [.int .i64 4, .bool false, .nils, .str [120], .int .i64 2, .nils], .cells [.int .i64 1, na, nb, .str [], .int .i64 2, nk, .int .i64 t.op, ng, mg, .str t.name, .int .i64 2, kv]] := ⟨_, rfl⟩
  have lS0 : S0.length = 4 := by rw [hS0]; rfl
  have xS0 := ext_Sx (s := s) (l := S0) hr (by omega)
  have rS0 := hr.Sx (l := S0) (by omega) (by omega)
  have nS0 := Sx_n (s := s) (l := S0) hr (by omega)
  obtain ⟨c0, fm1, rmfm1⟩ := Make_ok (Sx s S0) (.sl (nm s 3) 0 2 2 0) [tNum n, t] 15 ⟨hktm, htm, trivial⟩ rS0 (by omega) (by simp) (ts_two hr (by omega) (i := 3) (by rw [hS0]; rfl) rfl (hrk _ (by omega) (by rw [hS0]; rfl)) (h.x xS0))
  obtain ⟨a0, b0, e0, rfl, _, _⟩ := rmfm1.ex
  have o0 := rz1 rmfm1
  rw [hS0] at fm1
  obtain ⟨S1, hS1⟩ : ∃ L : List AO, L = [.cells [.int .i64 t.op, ng, mg, .str t.name, .int .i64 2, kv], .cells [.int .i64 1, na, nb, .str [], .int .i64 2, nk], .cells [.int .i64 4, .bool false, .nils, .str [120], .int .i64 2, .nils], .cells [.int .i64 1, na, nb, .str [], .int .i64 2, nk, .int .i64 t.op, ng, mg, .str t.name, .int .i64 2, kv], .cells [.int .i64 (makeT 15 [tNum n, t]).op, a0, b0, .str (makeT 15 [tNum n, t]).name, .int .i64 (makeT 15 [tNum n, t]).sort, e0], .cells [.int .i64 t.op, ng, mg, .str t.name, .int .i64 2, kv, .int .i64 1, na, nb, .str [], .int .i64 2, nk]] := ⟨_, rfl⟩
  have lS1 : S1.length = 6 := by rw [hS1]; rfl
  have xS1 := ext_Sx (s := s) (l := S1) hr (by omega)
  have rS1 := hr.Sx (l := S1) (by omega) (by omega)
  have nS1 := Sx_n (s := s) (l := S1) hr (by omega)
  obtain ⟨c1, fm2, rmfm2⟩ := Make_ok (Sx s S1) (.sl (nm s 5) 0 2 2 0) [t, tNum n] 15 ⟨htm, hktm, trivial⟩ rS1 (by omega) (by simp) (ts_two hr (by omega) (i := 5) (by rw [hS1]; rfl) rfl (h.x xS1) (hrk _ (by omega) (by rw [hS1]; rfl)))
  obtain ⟨a1, b1, e1, rfl, _, _⟩ := rmfm2.ex
  have o1 := rz1 rmfm2
  rw [hS1] at fm2
  obtain ⟨S2, hS2⟩ : ∃ L : List AO, L = [.cells [.int .i64 t.op, ng, mg, .str t.name, .int .i64 2, kv], .cells [.int .i64 1, na, nb, .str [], .int .i64 2, nk], .cells [.int .i64 4, .bool false, .nils, .str [120], .int .i64 2, .nils], .cells [.int .i64 1, na, nb, .str [], .int .i64 2, nk, .int .i64 t.op, ng, mg, .str t.name, .int .i64 2, kv], .cells [.int .i64 (makeT 15 [tNum n, t]).op, a0, b0, .str (makeT 15 [tNum n, t]).name, .int .i64 (makeT 15 [tNum n, t]).sort, e0], .cells [.int .i64 t.op, ng, mg, .str t.name, .int .i64 2, kv, .int .i64 1, na, nb, .str [], .int .i64 2, nk], .cells [.int .i64 (makeT 15 [t, tNum n]).op, a1, b1, .str (makeT 15 [t, tNum n]).name, .int .i64 (makeT 15 [t, tNum n]).sort, e1], .cells [.int .i64 4, .bool false, .nils, .str [120], .int .i64 2, .nils, .int .i64 t.op, ng, mg, .str t.name, .int .i64 2, kv]] := ⟨_, rfl⟩
  have lS2 : S2.length = 8 := by rw [hS2]; rfl
  have xS2 := ext_Sx (s := s) (l := S2) hr (by omega)
  have rS2 := hr.Sx (l := S2) (by omega) (by omega)
  have nS2 := Sx_n (s := s) (l := S2) hr (by omega)
  obtain ⟨c2, fm3, rmfm3⟩ := Make_ok (Sx s S2) (.sl (nm s 7) 0 2 2 0) [tX, t] 15 ⟨tX_tame, htm, trivial⟩ rS2 (by omega) (by simp) (ts_two hr (by omega) (i := 7) (by rw [hS2]; rfl) rfl (con_rep _ _ _) (h.x xS2))
  obtain ⟨a2, b2, e2, rfl, _, _⟩ := rmfm3.ex
  have o2 := rz1 rmfm3
  rw [hS2] at fm3
  obtain ⟨S3, hS3⟩ : ∃ L : List AO, L = [.cells [.int .i64 t.op, ng, mg, .str t.name, .int .i64 2, kv], .cells [.int .i64 1, na, nb, .str [], .int .i64 2, nk], .cells [.int .i64 4, .bool false, .nils, .str [120], .int .i64 2, .nils], .cells [.int .i64 1, na, nb, .str [], .int .i64 2, nk, .int .i64 t.op, ng, mg, .str t.name, .int .i64 2, kv], .cells [.int .i64 (makeT 15 [tNum n, t]).op, a0, b0, .str (makeT 15 [tNum n, t]).name, .int .i64 (makeT 15 [tNum n, t]).sort, e0], .cells [.int .i64 t.op, ng, mg, .str t.name, .int .i64 2, kv, .int .i64 1, na, nb, .str [], .int .i64 2, nk], .cells [.int .i64 (makeT 15 [t, tNum n]).op, a1, b1, .str (makeT 15 [t, tNum n]).name, .int .i64 (makeT 15 [t, tNum n]).sort, e1], .cells [.int .i64 4, .bool false, .nils, .str [120], .int .i64 2, .nils, .int .i64 t.op, ng, mg, .str t.name, .int .i64 2, kv], .cells [.int .i64 (makeT 15 [tX, t]).op, a2, b2, .str (makeT 15 [tX, t]).name, .int .i64 (makeT 15 [tX, t]).sort, e2], .cells [.int .i64 t.op, ng, mg, .str t.name, .int .i64 2, kv, .int .i64 1, na, nb, .str [], .int .i64 2, nk]] := ⟨_, rfl⟩
  have lS3 : S3.length = 10 := by rw [hS3]; rfl
  have xS3 := ext_Sx (s := s) (l := S3) hr (by omega)
  have rS3 := hr.Sx (l := S3) (by omega) (by omega)
  have nS3 := Sx_n (s := s) (l := S3) hr (by omega)
  obtain ⟨c3, fm4, rmfm4⟩ := Make_ok (Sx s S3) (.sl (nm s 9) 0 2 2 0) [t, tNum n] 16 ⟨htm, hktm, trivial⟩ rS3 (by omega) (by simp) (ts_two hr (by omega) (i := 9) (by rw [hS3]; rfl) rfl (h.x xS3) (hrk _ (by omega) (by rw [hS3]; rfl)))
  obtain ⟨a3, b3, e3, rfl, _, _⟩ := rmfm4.ex
  have o3 := rz1 rmfm4
  rw [hS3] at fm4
  obtain ⟨S4, hS4⟩ : ∃ L : List AO, L = [.cells [.int .i64 t.op, ng, mg, .str t.name, .int .i64 2, kv], .cells [.int .i64 1, na, nb, .str [], .int .i64 2, nk], .cells [.int .i64 4, .bool false, .nils, .str [120], .int .i64 2, .nils], .cells [.int .i64 1, na, nb, .str [], .int .i64 2, nk, .int .i64 t.op, ng, mg, .str t.name, .int .i64 2, kv], .cells [.int .i64 (makeT 15 [tNum n, t]).op, a0, b0, .str (makeT 15 [tNum n, t]).name, .int .i64 (makeT 15 [tNum n, t]).sort, e0], .cells [.int .i64 t.op, ng, mg, .str t.name, .int .i64 2, kv, .int .i64 1, na, nb, .str [], .int .i64 2, nk], .cells [.int .i64 (makeT 15 [t, tNum n]).op, a1, b1, .str (makeT 15 [t, tNum n]).name, .int .i64 (makeT 15 [t, tNum n]).sort, e1], .cells [.int .i64 4, .bool false, .nils, .str [120], .int .i64 2, .nils, .int .i64 t.op, ng, mg, .str t.name, .int .i64 2, kv], .cells [.int .i64 (makeT 15 [tX, t]).op, a2, b2, .str (makeT 15 [tX, t]).name, .int .i64 (makeT 15 [tX, t]).sort, e2], .cells [.int .i64 t.op, ng, mg, .str t.name, .int .i64 2, kv, .int .i64 1, na, nb, .str [], .int .i64 2, nk], .cells [.int .i64 (makeT 16 [t, tNum n]).op, a3, b3, .str (makeT 16 [t, tNum n]).name, .int .i64 (makeT 16 [t, tNum n]).sort, e3], .cells [.int .i64 t.op, ng, mg, .str t.name, .int .i64 2, kv, .int .i64 4, .bool false, .nils, .str [120], .int .i64 2, .nils]] := ⟨_, rfl⟩
  have lS4 : S4.length = 12 := by rw [hS4]; rfl
  have xS4 := ext_Sx (s := s) (l := S4) hr (by omega)
  have rS4 := hr.Sx (l := S4) (by omega) (by omega)
  have nS4 := Sx_n (s := s) (l := S4) hr (by omega)
  obtain ⟨c4, fm5, rmfm5⟩ := Make_ok (Sx s S4) (.sl (nm s 11) 0 2 2 0) [t, tX] 17 ⟨htm, tX_tame, trivial⟩ rS4 (by omega) (by simp) (ts_two hr (by omega) (i := 11) (by rw [hS4]; rfl) rfl (h.x xS4) (con_rep _ _ _))
  obtain ⟨a4, b4, e4, rfl, _, _⟩ := rmfm5.ex
  have o4 := rz1 rmfm5
  rw [hS4] at fm5
  obtain ⟨Z, hZ⟩ : ∃ L : List AO, L = [.cells [.int .i64 t.op, ng, mg, .str t.name, .int .i64 2, kv], .cells [.int .i64 1, na, nb, .str [], .int .i64 2, nk], .cells [.int .i64 4, .bool false, .nils, .str [120], .int .i64 2, .nils], .cells [.int .i64 1, na, nb, .str [], .int .i64 2, nk, .int .i64 t.op, ng, mg, .str t.name, .int .i64 2, kv], .cells [.int .i64 (makeT 15 [tNum n, t]).op, a0, b0, .str (makeT 15 [tNum n, t]).name, .int .i64 (makeT 15 [tNum n, t]).sort, e0], .cells [.int .i64 t.op, ng, mg, .str t.name, .int .i64 2, kv, .int .i64 1, na, nb, .str [], .int .i64 2, nk], .cells [.int .i64 (makeT 15 [t, tNum n]).op, a1, b1, .str (makeT 15 [t, tNum n]).name, .int .i64 (makeT 15 [t, tNum n]).sort, e1], .cells [.int .i64 4, .bool false, .nils, .str [120], .int .i64 2, .nils, .int .i64 t.op, ng, mg, .str t.name, .int .i64 2, kv], .cells [.int .i64 (makeT 15 [tX, t]).op, a2, b2, .str (makeT 15 [tX, t]).name, .int .i64 (makeT 15 [tX, t]).sort, e2], .cells [.int .i64 t.op, ng, mg, .str t.name, .int .i64 2, kv, .int .i64 1, na, nb, .str [], .int .i64 2, nk], .cells [.int .i64 (makeT 16 [t, tNum n]).op, a3, b3, .str (makeT 16 [t, tNum n]).name, .int .i64 (makeT 16 [t, tNum n]).sort, e3], .cells [.int .i64 t.op, ng, mg, .str t.name, .int .i64 2, kv, .int .i64 4, .bool false, .nils, .str [120], .int .i64 2, .nils], .cells [.int .i64 (makeT 17 [t, tX]).op, a4, b4, .str (makeT 17 [t, tX]).name, .int .i64 (makeT 17 [t, tX]).sort, e4]] := ⟨_, rfl⟩
  have lZ : Z.length = 13 := by rw [hZ]; rfl
  have xZ := ext_Sx (s := s) (l := Z) hr (by omega)
  have rZ := hr.Sx (l := Z) (by omega) (by omega)
  have nZ := Sx_n (s := s) (l := Z) hr (by omega)
  obtain ⟨za, zb, fnu, rnu⟩ := Number_ok (Sx s Z) _ t rZ (by omega) (h.x xZ)
  rw [hZ] at fnu
  have onu := rnu.one
  have sk : ((tNum n) : T).sort = 2 := rfl
  have m1 := lin_made (op := 15) (by omega) (num_isT n) d2 sk d3 (by omega)
  have m2 := lin_made (op := 15) (by omega) d2 (num_isT n) d3 sk (by omega)
  have m3 := lin_made (op := 15) (by omega) x_isT d2 rfl d3 (by show 1 + 0 + _ ≤ _; omega)
  have m4 := lin_made (op := 16) (by omega) d2 (num_isT n) d3 sk (by omega)
  have m5 := lin_made (op := 17) (by omega) d2 x_isT d3 rfl (by show _ + (1 + 0) ≤ _; omega)
  have nk1 := num_num n
  have sg := num_sign n
  have m1' : makeE 15 [tNum n, t] = 0 := by rw [m1]; simp [linE, nk1]
  have m2' : makeE 15 [t, tNum n] = 0 := by rw [m2]; simp [linE, nk1]
  have m3' : makeE 15 [tX, t] = if isNum t = true then 0 else 19 := by rw [m3]; simp [linE, x_num]; cases isNum t <;> simp
  have m4' : makeE 16 [t, tNum n] = if n = 0 then 12 else 0 := by rw [m4]; simp [linE, nk1, sg]
  have m5' : makeE 17 [t, tX] = 19 := by rw [m5]; simp [linE, x_num]
  rw [m1'] at fm1
  rw [m2'] at fm2
  rw [m3'] at fm3
  rw [m4'] at fm4
  rw [m5'] at fm5
  have hcv : IntKind.wrap .i64 n = n := wrap_i64 (by omega) (by omega)
  by_cases dn : isNum t = true
  · rw [if_pos dn] at fm3
    rw [dn] at fnu
    by_cases d0 : n = 0
    · rw [if_pos d0] at fm4
      subst d0
      refine fn_of code_law10_TermLinear (by simp) ?_
      simp only [go_sem, ↓reduceIte, Nat.reduceMod, Nat.reduceEqDiff, Nat.reduceAdd, Nat.reduceMul, Nat.reduceSub, Nat.reduceLeDiff, Nat.reduceLT, Int.reduceEq, Int.reduceLT, Int.reduceLE, Int.reduceAdd, Int.reduceSub, Int.reduceNeg, reduceCtorEq, Nat.reduceShiftRight, Nat.reduceAnd, Nat.reduceBNe, hr, splice0_12, splice6_12, fk, Bool.not_true, Bool.not_false, hcv, ne_eq, not_true_eq_false, not_false_eq_true, fg, fi, fn, fc', fm1, fm2, fm3, fm4, fm5, fnu, ot.1, ot.2.1, ot.2.2, o0.1, o0.2.1, o0.2.2, o1.1, o1.2.1, o1.2.2, o2.1, o2.2.1, o2.2.2, o3.1, o3.2.1, o3.2.2, o4.1, o4.2.1, o4.2.2, onu.1, onu.2, hk1.1, hk1.2.1, hk1.2.2]
      exact settled_bool (ext_Sx hr (by simp)) rfl
    · rw [if_neg d0] at fm4
      refine fn_of code_law10_TermLinear (by simp) ?_
      simp only [go_sem, ↓reduceIte, Nat.reduceMod, Nat.reduceEqDiff, Nat.reduceAdd, Nat.reduceMul, Nat.reduceSub, Nat.reduceLeDiff, Nat.reduceLT, Int.reduceEq, Int.reduceLT, Int.reduceLE, Int.reduceAdd, Int.reduceSub, Int.reduceNeg, reduceCtorEq, Nat.reduceShiftRight, Nat.reduceAnd, Nat.reduceBNe, hr, splice0_12, splice6_12, fk, Bool.not_true, Bool.not_false, hcv, ne_eq, not_true_eq_false, not_false_eq_true, fg, fi, fn, fc', fm1, fm2, fm3, fm4, fm5, fnu, ot.1, ot.2.1, ot.2.2, o0.1, o0.2.1, o0.2.2, o1.1, o1.2.1, o1.2.2, o2.1, o2.2.1, o2.2.2, o3.1, o3.2.1, o3.2.2, o4.1, o4.2.1, o4.2.2, onu.1, onu.2, hk1.1, hk1.2.1, hk1.2.2, d0]
      exact settled_bool (ext_Sx hr (by simp)) rfl
  · have dn' : isNum t = false := by simpa using dn
    rw [if_neg dn] at fm3
    rw [dn'] at fnu
    by_cases d0 : n = 0
    · rw [if_pos d0] at fm4
      subst d0
      refine fn_of code_law10_TermLinear (by simp) ?_
      simp only [go_sem, ↓reduceIte, Nat.reduceMod, Nat.reduceEqDiff, Nat.reduceAdd, Nat.reduceMul, Nat.reduceSub, Nat.reduceLeDiff, Nat.reduceLT, Int.reduceEq, Int.reduceLT, Int.reduceLE, Int.reduceAdd, Int.reduceSub, Int.reduceNeg, reduceCtorEq, Nat.reduceShiftRight, Nat.reduceAnd, Nat.reduceBNe, hr, splice0_12, splice6_12, fk, Bool.not_true, Bool.not_false, hcv, ne_eq, not_true_eq_false, not_false_eq_true, fg, fi, fn, fc', fm1, fm2, fm3, fm4, fm5, fnu, ot.1, ot.2.1, ot.2.2, o0.1, o0.2.1, o0.2.2, o1.1, o1.2.1, o1.2.2, o2.1, o2.2.1, o2.2.2, o3.1, o3.2.1, o3.2.2, o4.1, o4.2.1, o4.2.2, onu.1, onu.2, hk1.1, hk1.2.1, hk1.2.2]
      exact settled_bool (ext_Sx hr (by simp)) rfl
    · rw [if_neg d0] at fm4
      refine fn_of code_law10_TermLinear (by simp) ?_
      simp only [go_sem, ↓reduceIte, Nat.reduceMod, Nat.reduceEqDiff, Nat.reduceAdd, Nat.reduceMul, Nat.reduceSub, Nat.reduceLeDiff, Nat.reduceLT, Int.reduceEq, Int.reduceLT, Int.reduceLE, Int.reduceAdd, Int.reduceSub, Int.reduceNeg, reduceCtorEq, Nat.reduceShiftRight, Nat.reduceAnd, Nat.reduceBNe, hr, splice0_12, splice6_12, fk, Bool.not_true, Bool.not_false, hcv, ne_eq, not_true_eq_false, not_false_eq_true, fg, fi, fn, fc', fm1, fm2, fm3, fm4, fm5, fnu, ot.1, ot.2.1, ot.2.2, o0.1, o0.2.1, o0.2.2, o1.1, o1.2.1, o1.2.2, o2.1, o2.2.1, o2.2.2, o3.1, o3.2.1, o3.2.2, o4.1, o4.2.1, o4.2.2, onu.1, onu.2, hk1.1, hk1.2.1, hk1.2.2, d0]
      exact settled_bool (ext_Sx hr (by simp)) rfl
theorem TermLinearNeg (s : St) (t : T) (ng mg kv : AV) (n : Int) (hn16 : -32768 ≤ n ∧ n ≤ 32767) (hr : Room s) (hn : s.n.val ≤ 1000) (h : RT6 s [.int .i64 t.op, ng, mg, .str t.name, .int .i64 2, kv] t) (d1 : fewT t = true) (d2 : isT t = true) (d3 : t.sort = 2) : CA F.law10_TermLinear [.agg [.int .i64 t.op, ng, mg, .str t.name, .int .i64 2, kv], .int .i16 n, .bool true] s = .ok (.bool true) s := by
  have ot := rz1 h
  have htm : t.tame := fewN_tame t (by unfold fewT at d1; rw [Bool.and_eq_true] at d1; exact d1.2)
  have hsz : t.size ≤ 120 := by unfold fewT at d1; simp at d1; exact d1.1
  have fk := fun t => known_ok (Sx s t)
  obtain ⟨A, hA⟩ : ∃ L : List AO, L = [.cells [.int .i64 t.op, ng, mg, .str t.name, .int .i64 2, kv]] := ⟨_, rfl⟩
  have lA : A.length = 1 := by rw [hA]; rfl
  have xA := ext_Sx (s := s) (l := A) hr (by omega)
  have rA := hr.Sx (l := A) (by omega) (by omega)
  have nA := Sx_n (s := s) (l := A) hr (by omega)
  have fg := fewTerm_ok t (Sx s A) _ rA (by omega) (h.x xA)
  have fi := Is_tm t htm (Sx s A) _ rA (by omega) (h.x xA)
  rw [d1] at fg
  rw [d2] at fi
  obtain ⟨nc, fn, rn⟩ := num_ok (Sx s A) n rA (by omega) (by omega)
  have rn' := rn (Sx s A)
  obtain ⟨na, nb, nk, rfl, hnz, hnk⟩ := rn'.ex
  simp only [T.op, T.name, T.sort, T.n, T.kids] at fn rn rn' hnz hnk
  rw [hA] at fg fi fn
  obtain ⟨B, hB⟩ : ∃ L : List AO, L = [.cells [.int .i64 t.op, ng, mg, .str t.name, .int .i64 2, kv], .cells [.int .i64 1, na, nb, .str [], .int .i64 2, nk]] := ⟨_, rfl⟩
  have lB : B.length = 2 := by rw [hB]; rfl
  have xB := ext_Sx (s := s) (l := B) hr (by omega)
  have rB := hr.Sx (l := B) (by omega) (by omega)
  have nB := Sx_n (s := s) (l := B) hr (by omega)
  obtain ⟨nc2, fn2, rn2⟩ := num_ok (Sx s B) n rB (by omega) (by omega)
  have rn2' := rn2 (Sx s B)
  obtain ⟨nd, ne, nf, rfl, hnz2, hnk2⟩ := rn2'.ex
  simp only [T.op, T.name, T.sort, T.n, T.kids] at fn2 rn2 rn2' hnz2 hnk2
  rw [hB] at fn2
  obtain ⟨C, hC⟩ : ∃ L : List AO, L = [.cells [.int .i64 t.op, ng, mg, .str t.name, .int .i64 2, kv], .cells [.int .i64 1, na, nb, .str [], .int .i64 2, nk], .cells [.int .i64 1, nd, ne, .str [], .int .i64 2, nf]] := ⟨_, rfl⟩
  have lC : C.length = 3 := by rw [hC]; rfl
  have xC := ext_Sx (s := s) (l := C) hr (by omega)
  have rC := hr.Sx (l := C) (by omega) (by omega)
  have nC := Sx_n (s := s) (l := C) hr (by omega)
  obtain ⟨kc, fm0, rm00⟩ := Make_ok2 (Sx s C) (.sl (nm s 2) 0 1 1 0) [tNum n] 14 ⟨tNum_tame n hn16, trivial⟩ rC (by omega) (by simp) (ts_one hr (by omega) (i := 2) (by rw [hC]; rfl) (rn2 _))
  rw [neg_made] at fm0
  rw [negT] at rm00
  have rm0 := rm00 (Sx s C) (ts_one hr (by omega) (i := 2) (by rw [hC]; rfl) (rn2 _)) rfl
  obtain ⟨ka, kb, kk, rfl, hkz, hkk⟩ := rm0.ex
  simp only [tNeg, T.op, T.name, T.sort, T.n, T.kids] at fm0
  change RT6 _ [.int .i64 14, ka, kb, .str [], .int .i64 2, kk] _ at rm0
  change ∀ s', _ → _ → RT6 s' [.int .i64 14, ka, kb, .str [], .int .i64 2, kk] _ at rm00
  rw [row_lit hr (by omega) (i := 2) (by rw [hC]; rfl) (by unfold limit; omega)] at rm00
  rw [hC] at fm0
  have rk : RT6 (Sx s C) [.int .i64 14, ka, kb, .str [], .int .i64 2, kk] (tNeg n) := rm0
  have hrk : ∀ L : List AO, L.length ≤ 5000 → L[2]? = some (.cells [.int .i64 1, nd, ne, .str [], .int .i64 2, nf]) → RT6 (Sx s L) [.int .i64 14, ka, kb, .str [], .int .i64 2, kk] (tNeg n) := fun L h1 h2 => rm00 (Sx s L) (ts_one hr h1 (i := 2) h2 (rn2 _)) (row_lit hr h1 h2 (by unfold limit; omega) 1 0)
  have hkt : ((tNeg n) : T).size ≤ 2 := by simp [tNeg, tNum, T.size, T.sizes]
  have hktm : ((tNeg n) : T).tame := ⟨by simp, by simp, tNum_tame n hn16, trivial⟩
  have hk1 := rz1 rk
  have fc := fun L => con_ok (Sx s L) [120] 2
  obtain ⟨Q, hQ⟩ : ∃ L : List AO, L = [.cells [.int .i64 t.op, ng, mg, .str t.name, .int .i64 2, kv], .cells [.int .i64 14, ka, kb, .str [], .int .i64 2, kk], .cells [.int .i64 1, nd, ne, .str [], .int .i64 2, nf]] := ⟨_, rfl⟩
  have lQ : Q.length = 3 := by rw [hQ]; rfl
  have xQ := ext_Sx (s := s) (l := Q) hr (by omega)
  have rQ := hr.Sx (l := Q) (by omega) (by omega)
  have nQ := Sx_n (s := s) (l := Q) hr (by omega)
  have fc' := con_ok (Sx s Q) [120] 2 rQ
  rw [hQ] at fc'
  obtain ⟨S0, hS0⟩ : ∃ L : List AO, L = [.cells [.int .i64 t.op, ng, mg, .str t.name, .int .i64 2, kv], .cells [.int .i64 14, ka, kb, .str [], .int .i64 2, kk], .cells [.int .i64 1, nd, ne, .str [], .int .i64 2, nf], .cells [.int .i64 4, .bool false, .nils, .str [120], .int .i64 2, .nils], .cells [.int .i64 14, ka, kb, .str [], .int .i64 2, kk, .int .i64 t.op, ng, mg, .str t.name, .int .i64 2, kv]] := ⟨_, rfl⟩
  have lS0 : S0.length = 5 := by rw [hS0]; rfl
  have xS0 := ext_Sx (s := s) (l := S0) hr (by omega)
  have rS0 := hr.Sx (l := S0) (by omega) (by omega)
  have nS0 := Sx_n (s := s) (l := S0) hr (by omega)
  obtain ⟨c0, fm1, rmfm1⟩ := Make_ok (Sx s S0) (.sl (nm s 4) 0 2 2 0) [tNeg n, t] 15 ⟨hktm, htm, trivial⟩ rS0 (by omega) (by simp) (ts_two hr (by omega) (i := 4) (by rw [hS0]; rfl) rfl (hrk _ (by omega) (by rw [hS0]; rfl)) (h.x xS0))
  obtain ⟨a0, b0, e0, rfl, _, _⟩ := rmfm1.ex
  have o0 := rz1 rmfm1
  rw [hS0] at fm1
  obtain ⟨S1, hS1⟩ : ∃ L : List AO, L = [.cells [.int .i64 t.op, ng, mg, .str t.name, .int .i64 2, kv], .cells [.int .i64 14, ka, kb, .str [], .int .i64 2, kk], .cells [.int .i64 1, nd, ne, .str [], .int .i64 2, nf], .cells [.int .i64 4, .bool false, .nils, .str [120], .int .i64 2, .nils], .cells [.int .i64 14, ka, kb, .str [], .int .i64 2, kk, .int .i64 t.op, ng, mg, .str t.name, .int .i64 2, kv], .cells [.int .i64 (makeT 15 [tNeg n, t]).op, a0, b0, .str (makeT 15 [tNeg n, t]).name, .int .i64 (makeT 15 [tNeg n, t]).sort, e0], .cells [.int .i64 t.op, ng, mg, .str t.name, .int .i64 2, kv, .int .i64 14, ka, kb, .str [], .int .i64 2, kk]] := ⟨_, rfl⟩
  have lS1 : S1.length = 7 := by rw [hS1]; rfl
  have xS1 := ext_Sx (s := s) (l := S1) hr (by omega)
  have rS1 := hr.Sx (l := S1) (by omega) (by omega)
  have nS1 := Sx_n (s := s) (l := S1) hr (by omega)
  obtain ⟨c1, fm2, rmfm2⟩ := Make_ok (Sx s S1) (.sl (nm s 6) 0 2 2 0) [t, tNeg n] 15 ⟨htm, hktm, trivial⟩ rS1 (by omega) (by simp) (ts_two hr (by omega) (i := 6) (by rw [hS1]; rfl) rfl (h.x xS1) (hrk _ (by omega) (by rw [hS1]; rfl)))
  obtain ⟨a1, b1, e1, rfl, _, _⟩ := rmfm2.ex
  have o1 := rz1 rmfm2
  rw [hS1] at fm2
  obtain ⟨S2, hS2⟩ : ∃ L : List AO, L = [.cells [.int .i64 t.op, ng, mg, .str t.name, .int .i64 2, kv], .cells [.int .i64 14, ka, kb, .str [], .int .i64 2, kk], .cells [.int .i64 1, nd, ne, .str [], .int .i64 2, nf], .cells [.int .i64 4, .bool false, .nils, .str [120], .int .i64 2, .nils], .cells [.int .i64 14, ka, kb, .str [], .int .i64 2, kk, .int .i64 t.op, ng, mg, .str t.name, .int .i64 2, kv], .cells [.int .i64 (makeT 15 [tNeg n, t]).op, a0, b0, .str (makeT 15 [tNeg n, t]).name, .int .i64 (makeT 15 [tNeg n, t]).sort, e0], .cells [.int .i64 t.op, ng, mg, .str t.name, .int .i64 2, kv, .int .i64 14, ka, kb, .str [], .int .i64 2, kk], .cells [.int .i64 (makeT 15 [t, tNeg n]).op, a1, b1, .str (makeT 15 [t, tNeg n]).name, .int .i64 (makeT 15 [t, tNeg n]).sort, e1], .cells [.int .i64 4, .bool false, .nils, .str [120], .int .i64 2, .nils, .int .i64 t.op, ng, mg, .str t.name, .int .i64 2, kv]] := ⟨_, rfl⟩
  have lS2 : S2.length = 9 := by rw [hS2]; rfl
  have xS2 := ext_Sx (s := s) (l := S2) hr (by omega)
  have rS2 := hr.Sx (l := S2) (by omega) (by omega)
  have nS2 := Sx_n (s := s) (l := S2) hr (by omega)
  obtain ⟨c2, fm3, rmfm3⟩ := Make_ok (Sx s S2) (.sl (nm s 8) 0 2 2 0) [tX, t] 15 ⟨tX_tame, htm, trivial⟩ rS2 (by omega) (by simp) (ts_two hr (by omega) (i := 8) (by rw [hS2]; rfl) rfl (con_rep _ _ _) (h.x xS2))
  obtain ⟨a2, b2, e2, rfl, _, _⟩ := rmfm3.ex
  have o2 := rz1 rmfm3
  rw [hS2] at fm3
  obtain ⟨S3, hS3⟩ : ∃ L : List AO, L = [.cells [.int .i64 t.op, ng, mg, .str t.name, .int .i64 2, kv], .cells [.int .i64 14, ka, kb, .str [], .int .i64 2, kk], .cells [.int .i64 1, nd, ne, .str [], .int .i64 2, nf], .cells [.int .i64 4, .bool false, .nils, .str [120], .int .i64 2, .nils], .cells [.int .i64 14, ka, kb, .str [], .int .i64 2, kk, .int .i64 t.op, ng, mg, .str t.name, .int .i64 2, kv], .cells [.int .i64 (makeT 15 [tNeg n, t]).op, a0, b0, .str (makeT 15 [tNeg n, t]).name, .int .i64 (makeT 15 [tNeg n, t]).sort, e0], .cells [.int .i64 t.op, ng, mg, .str t.name, .int .i64 2, kv, .int .i64 14, ka, kb, .str [], .int .i64 2, kk], .cells [.int .i64 (makeT 15 [t, tNeg n]).op, a1, b1, .str (makeT 15 [t, tNeg n]).name, .int .i64 (makeT 15 [t, tNeg n]).sort, e1], .cells [.int .i64 4, .bool false, .nils, .str [120], .int .i64 2, .nils, .int .i64 t.op, ng, mg, .str t.name, .int .i64 2, kv], .cells [.int .i64 (makeT 15 [tX, t]).op, a2, b2, .str (makeT 15 [tX, t]).name, .int .i64 (makeT 15 [tX, t]).sort, e2], .cells [.int .i64 t.op, ng, mg, .str t.name, .int .i64 2, kv, .int .i64 14, ka, kb, .str [], .int .i64 2, kk]] := ⟨_, rfl⟩
  have lS3 : S3.length = 11 := by rw [hS3]; rfl
  have xS3 := ext_Sx (s := s) (l := S3) hr (by omega)
  have rS3 := hr.Sx (l := S3) (by omega) (by omega)
  have nS3 := Sx_n (s := s) (l := S3) hr (by omega)
  obtain ⟨c3, fm4, rmfm4⟩ := Make_ok (Sx s S3) (.sl (nm s 10) 0 2 2 0) [t, tNeg n] 16 ⟨htm, hktm, trivial⟩ rS3 (by omega) (by simp) (ts_two hr (by omega) (i := 10) (by rw [hS3]; rfl) rfl (h.x xS3) (hrk _ (by omega) (by rw [hS3]; rfl)))
  obtain ⟨a3, b3, e3, rfl, _, _⟩ := rmfm4.ex
  have o3 := rz1 rmfm4
  rw [hS3] at fm4
  obtain ⟨S4, hS4⟩ : ∃ L : List AO, L = [.cells [.int .i64 t.op, ng, mg, .str t.name, .int .i64 2, kv], .cells [.int .i64 14, ka, kb, .str [], .int .i64 2, kk], .cells [.int .i64 1, nd, ne, .str [], .int .i64 2, nf], .cells [.int .i64 4, .bool false, .nils, .str [120], .int .i64 2, .nils], .cells [.int .i64 14, ka, kb, .str [], .int .i64 2, kk, .int .i64 t.op, ng, mg, .str t.name, .int .i64 2, kv], .cells [.int .i64 (makeT 15 [tNeg n, t]).op, a0, b0, .str (makeT 15 [tNeg n, t]).name, .int .i64 (makeT 15 [tNeg n, t]).sort, e0], .cells [.int .i64 t.op, ng, mg, .str t.name, .int .i64 2, kv, .int .i64 14, ka, kb, .str [], .int .i64 2, kk], .cells [.int .i64 (makeT 15 [t, tNeg n]).op, a1, b1, .str (makeT 15 [t, tNeg n]).name, .int .i64 (makeT 15 [t, tNeg n]).sort, e1], .cells [.int .i64 4, .bool false, .nils, .str [120], .int .i64 2, .nils, .int .i64 t.op, ng, mg, .str t.name, .int .i64 2, kv], .cells [.int .i64 (makeT 15 [tX, t]).op, a2, b2, .str (makeT 15 [tX, t]).name, .int .i64 (makeT 15 [tX, t]).sort, e2], .cells [.int .i64 t.op, ng, mg, .str t.name, .int .i64 2, kv, .int .i64 14, ka, kb, .str [], .int .i64 2, kk], .cells [.int .i64 (makeT 16 [t, tNeg n]).op, a3, b3, .str (makeT 16 [t, tNeg n]).name, .int .i64 (makeT 16 [t, tNeg n]).sort, e3], .cells [.int .i64 t.op, ng, mg, .str t.name, .int .i64 2, kv, .int .i64 4, .bool false, .nils, .str [120], .int .i64 2, .nils]] := ⟨_, rfl⟩
  have lS4 : S4.length = 13 := by rw [hS4]; rfl
  have xS4 := ext_Sx (s := s) (l := S4) hr (by omega)
  have rS4 := hr.Sx (l := S4) (by omega) (by omega)
  have nS4 := Sx_n (s := s) (l := S4) hr (by omega)
  obtain ⟨c4, fm5, rmfm5⟩ := Make_ok (Sx s S4) (.sl (nm s 12) 0 2 2 0) [t, tX] 17 ⟨htm, tX_tame, trivial⟩ rS4 (by omega) (by simp) (ts_two hr (by omega) (i := 12) (by rw [hS4]; rfl) rfl (h.x xS4) (con_rep _ _ _))
  obtain ⟨a4, b4, e4, rfl, _, _⟩ := rmfm5.ex
  have o4 := rz1 rmfm5
  rw [hS4] at fm5
  obtain ⟨Z, hZ⟩ : ∃ L : List AO, L = [.cells [.int .i64 t.op, ng, mg, .str t.name, .int .i64 2, kv], .cells [.int .i64 14, ka, kb, .str [], .int .i64 2, kk], .cells [.int .i64 1, nd, ne, .str [], .int .i64 2, nf], .cells [.int .i64 4, .bool false, .nils, .str [120], .int .i64 2, .nils], .cells [.int .i64 14, ka, kb, .str [], .int .i64 2, kk, .int .i64 t.op, ng, mg, .str t.name, .int .i64 2, kv], .cells [.int .i64 (makeT 15 [tNeg n, t]).op, a0, b0, .str (makeT 15 [tNeg n, t]).name, .int .i64 (makeT 15 [tNeg n, t]).sort, e0], .cells [.int .i64 t.op, ng, mg, .str t.name, .int .i64 2, kv, .int .i64 14, ka, kb, .str [], .int .i64 2, kk], .cells [.int .i64 (makeT 15 [t, tNeg n]).op, a1, b1, .str (makeT 15 [t, tNeg n]).name, .int .i64 (makeT 15 [t, tNeg n]).sort, e1], .cells [.int .i64 4, .bool false, .nils, .str [120], .int .i64 2, .nils, .int .i64 t.op, ng, mg, .str t.name, .int .i64 2, kv], .cells [.int .i64 (makeT 15 [tX, t]).op, a2, b2, .str (makeT 15 [tX, t]).name, .int .i64 (makeT 15 [tX, t]).sort, e2], .cells [.int .i64 t.op, ng, mg, .str t.name, .int .i64 2, kv, .int .i64 14, ka, kb, .str [], .int .i64 2, kk], .cells [.int .i64 (makeT 16 [t, tNeg n]).op, a3, b3, .str (makeT 16 [t, tNeg n]).name, .int .i64 (makeT 16 [t, tNeg n]).sort, e3], .cells [.int .i64 t.op, ng, mg, .str t.name, .int .i64 2, kv, .int .i64 4, .bool false, .nils, .str [120], .int .i64 2, .nils], .cells [.int .i64 (makeT 17 [t, tX]).op, a4, b4, .str (makeT 17 [t, tX]).name, .int .i64 (makeT 17 [t, tX]).sort, e4]] := ⟨_, rfl⟩
  have lZ : Z.length = 14 := by rw [hZ]; rfl
  have xZ := ext_Sx (s := s) (l := Z) hr (by omega)
  have rZ := hr.Sx (l := Z) (by omega) (by omega)
  have nZ := Sx_n (s := s) (l := Z) hr (by omega)
  obtain ⟨za, zb, fnu, rnu⟩ := Number_ok (Sx s Z) _ t rZ (by omega) (h.x xZ)
  rw [hZ] at fnu
  have onu := rnu.one
  have sk : ((tNeg n) : T).sort = 2 := rfl
  have m1 := lin_made (op := 15) (by omega) (neg_isT n) d2 sk d3 (by omega)
  have m2 := lin_made (op := 15) (by omega) d2 (neg_isT n) d3 sk (by omega)
  have m3 := lin_made (op := 15) (by omega) x_isT d2 rfl d3 (by show 1 + 0 + _ ≤ _; omega)
  have m4 := lin_made (op := 16) (by omega) d2 (neg_isT n) d3 sk (by omega)
  have m5 := lin_made (op := 17) (by omega) d2 x_isT d3 rfl (by show _ + (1 + 0) ≤ _; omega)
  have nk1 := neg_num n
  have sg := neg_sign n
  have m1' : makeE 15 [tNeg n, t] = 0 := by rw [m1]; simp [linE, nk1]
  have m2' : makeE 15 [t, tNeg n] = 0 := by rw [m2]; simp [linE, nk1]
  have m3' : makeE 15 [tX, t] = if isNum t = true then 0 else 19 := by rw [m3]; simp [linE, x_num]; cases isNum t <;> simp
  have m4' : makeE 16 [t, tNeg n] = if n = 0 then 12 else 0 := by rw [m4]; simp [linE, nk1, sg]
  have m5' : makeE 17 [t, tX] = 19 := by rw [m5]; simp [linE, x_num]
  rw [m1'] at fm1
  rw [m2'] at fm2
  rw [m3'] at fm3
  rw [m4'] at fm4
  rw [m5'] at fm5
  have hcv : IntKind.wrap .i64 n = n := wrap_i64 (by omega) (by omega)
  by_cases dn : isNum t = true
  · rw [if_pos dn] at fm3
    rw [dn] at fnu
    by_cases d0 : n = 0
    · rw [if_pos d0] at fm4
      subst d0
      refine fn_of code_law10_TermLinear (by simp) ?_
      simp only [go_sem, ↓reduceIte, Nat.reduceMod, Nat.reduceEqDiff, Nat.reduceAdd, Nat.reduceMul, Nat.reduceSub, Nat.reduceLeDiff, Nat.reduceLT, Int.reduceEq, Int.reduceLT, Int.reduceLE, Int.reduceAdd, Int.reduceSub, Int.reduceNeg, reduceCtorEq, Nat.reduceShiftRight, Nat.reduceAnd, Nat.reduceBNe, hr, splice0_12, splice6_12, fk, Bool.not_true, Bool.not_false, hcv, ne_eq, not_true_eq_false, not_false_eq_true, fg, fi, fn, fn2, fm0, fc', fm1, fm2, fm3, fm4, fm5, fnu, ot.1, ot.2.1, ot.2.2, o0.1, o0.2.1, o0.2.2, o1.1, o1.2.1, o1.2.2, o2.1, o2.2.1, o2.2.2, o3.1, o3.2.1, o3.2.2, o4.1, o4.2.1, o4.2.2, onu.1, onu.2, hk1.1, hk1.2.1, hk1.2.2]
      exact settled_bool (ext_Sx hr (by simp)) rfl
    · rw [if_neg d0] at fm4
      refine fn_of code_law10_TermLinear (by simp) ?_
      simp only [go_sem, ↓reduceIte, Nat.reduceMod, Nat.reduceEqDiff, Nat.reduceAdd, Nat.reduceMul, Nat.reduceSub, Nat.reduceLeDiff, Nat.reduceLT, Int.reduceEq, Int.reduceLT, Int.reduceLE, Int.reduceAdd, Int.reduceSub, Int.reduceNeg, reduceCtorEq, Nat.reduceShiftRight, Nat.reduceAnd, Nat.reduceBNe, hr, splice0_12, splice6_12, fk, Bool.not_true, Bool.not_false, hcv, ne_eq, not_true_eq_false, not_false_eq_true, fg, fi, fn, fn2, fm0, fc', fm1, fm2, fm3, fm4, fm5, fnu, ot.1, ot.2.1, ot.2.2, o0.1, o0.2.1, o0.2.2, o1.1, o1.2.1, o1.2.2, o2.1, o2.2.1, o2.2.2, o3.1, o3.2.1, o3.2.2, o4.1, o4.2.1, o4.2.2, onu.1, onu.2, hk1.1, hk1.2.1, hk1.2.2, d0]
      exact settled_bool (ext_Sx hr (by simp)) rfl
  · have dn' : isNum t = false := by simpa using dn
    rw [if_neg dn] at fm3
    rw [dn'] at fnu
    by_cases d0 : n = 0
    · rw [if_pos d0] at fm4
      subst d0
      refine fn_of code_law10_TermLinear (by simp) ?_
      simp only [go_sem, ↓reduceIte, Nat.reduceMod, Nat.reduceEqDiff, Nat.reduceAdd, Nat.reduceMul, Nat.reduceSub, Nat.reduceLeDiff, Nat.reduceLT, Int.reduceEq, Int.reduceLT, Int.reduceLE, Int.reduceAdd, Int.reduceSub, Int.reduceNeg, reduceCtorEq, Nat.reduceShiftRight, Nat.reduceAnd, Nat.reduceBNe, hr, splice0_12, splice6_12, fk, Bool.not_true, Bool.not_false, hcv, ne_eq, not_true_eq_false, not_false_eq_true, fg, fi, fn, fn2, fm0, fc', fm1, fm2, fm3, fm4, fm5, fnu, ot.1, ot.2.1, ot.2.2, o0.1, o0.2.1, o0.2.2, o1.1, o1.2.1, o1.2.2, o2.1, o2.2.1, o2.2.2, o3.1, o3.2.1, o3.2.2, o4.1, o4.2.1, o4.2.2, onu.1, onu.2, hk1.1, hk1.2.1, hk1.2.2]
      exact settled_bool (ext_Sx hr (by simp)) rfl
    · rw [if_neg d0] at fm4
      refine fn_of code_law10_TermLinear (by simp) ?_
      simp only [go_sem, ↓reduceIte, Nat.reduceMod, Nat.reduceEqDiff, Nat.reduceAdd, Nat.reduceMul, Nat.reduceSub, Nat.reduceLeDiff, Nat.reduceLT, Int.reduceEq, Int.reduceLT, Int.reduceLE, Int.reduceAdd, Int.reduceSub, Int.reduceNeg, reduceCtorEq, Nat.reduceShiftRight, Nat.reduceAnd, Nat.reduceBNe, hr, splice0_12, splice6_12, fk, Bool.not_true, Bool.not_false, hcv, ne_eq, not_true_eq_false, not_false_eq_true, fg, fi, fn, fn2, fm0, fc', fm1, fm2, fm3, fm4, fm5, fnu, ot.1, ot.2.1, ot.2.2, o0.1, o0.2.1, o0.2.2, o1.1, o1.2.1, o1.2.2, o2.1, o2.2.1, o2.2.2, o3.1, o3.2.1, o3.2.2, o4.1, o4.2.1, o4.2.2, onu.1, onu.2, hk1.1, hk1.2.1, hk1.2.2, d0]
      exact settled_bool (ext_Sx hr (by simp)) rfl

end Go.Proofs.YtjnejkganejdbaaGreat
namespace Go.Proofs.YtjnejkganejdbaaGreat
open Go Go.Vm
set_option linter.unusedVariables false
set_option linter.unusedSimpArgs false
theorem TermLinear_ok (s : St) (cs : List AV) (t : T) (n : Int) (b : Bool) (hn16 : -32768 ≤ n ∧ n ≤ 32767) (hr : Room s) (hn : s.n.val ≤ 1000) (h : RT6 s cs t) : CA F.law10_TermLinear [.agg cs, .int .i16 n, .bool b] s = .ok (.bool true) s := by
  obtain ⟨ng, mg, kv, rfl, hz, hk⟩ := h.ex
  have fk := fun t => known_ok (Sx s t)
  obtain ⟨A, hA⟩ : ∃ L : List AO, L = [.cells [.int .i64 t.op, ng, mg, .str t.name, .int .i64 t.sort, kv]] := ⟨_, rfl⟩
  have lA : A.length = 1 := by rw [hA]; rfl
  have xA := ext_Sx (s := s) (l := A) hr (by omega)
  have rA := hr.Sx (l := A) (by omega) (by omega)
  have nA := Sx_n (s := s) (l := A) hr (by omega)
  have fg := fewTerm_ok t (Sx s A) _ rA (by omega) (h.x xA)
  cases d1 : fewT t
  · rw [hA, d1] at fg
    refine fn_of code_law10_TermLinear (by simp) ?_
    simp only [go_sem, ↓reduceIte, Nat.reduceMod, Nat.reduceEqDiff, Nat.reduceAdd, Nat.reduceMul, Nat.reduceSub, Nat.reduceLeDiff, Nat.reduceLT, Int.reduceEq, Int.reduceLT, Int.reduceLE, Int.reduceAdd, Int.reduceSub, Int.reduceNeg, reduceCtorEq, Nat.reduceShiftRight, Nat.reduceAnd, Nat.reduceBNe, hr, fk, Bool.not_true, Bool.not_false, fg]
    exact settled_bool (ext_Sx hr (by simp)) rfl
  have htm : t.tame := fewN_tame t (by unfold fewT at d1; rw [Bool.and_eq_true] at d1; exact d1.2)
  have fi := Is_tm t htm (Sx s A) _ rA (by omega) (h.x xA)
  rw [hA, d1] at fg
  cases d2 : isT t
  · rw [hA, d2] at fi
    refine fn_of code_law10_TermLinear (by simp) ?_
    simp only [go_sem, ↓reduceIte, Nat.reduceMod, Nat.reduceEqDiff, Nat.reduceAdd, Nat.reduceMul, Nat.reduceSub, Nat.reduceLeDiff, Nat.reduceLT, Int.reduceEq, Int.reduceLT, Int.reduceLE, Int.reduceAdd, Int.reduceSub, Int.reduceNeg, reduceCtorEq, Nat.reduceShiftRight, Nat.reduceAnd, Nat.reduceBNe, hr, fk, Bool.not_true, Bool.not_false, fg, fi]
    exact settled_bool (ext_Sx hr (by simp)) rfl
  rw [hA, d2] at fi
  by_cases d3 : t.sort = 2
  · rw [d3] at h ⊢
    cases b
    · exact TermLinearPos s t ng mg kv n hn16 hr hn h d1 d2 d3
    · exact TermLinearNeg s t ng mg kv n hn16 hr hn h d1 d2 d3
  · refine fn_of code_law10_TermLinear (by simp) ?_
    simp only [go_sem, ↓reduceIte, Nat.reduceMod, Nat.reduceEqDiff, Nat.reduceAdd, Nat.reduceMul, Nat.reduceSub, Nat.reduceLeDiff, Nat.reduceLT, Int.reduceEq, Int.reduceLT, Int.reduceLE, Int.reduceAdd, Int.reduceSub, Int.reduceNeg, reduceCtorEq, Nat.reduceShiftRight, Nat.reduceAnd, Nat.reduceBNe, hr, fk, Bool.not_true, Bool.not_false, fg, fi, ne_eq, d3, not_false_eq_true]
    exact settled_bool (ext_Sx hr (by simp)) rfl
end Go.Proofs.YtjnejkganejdbaaGreat
