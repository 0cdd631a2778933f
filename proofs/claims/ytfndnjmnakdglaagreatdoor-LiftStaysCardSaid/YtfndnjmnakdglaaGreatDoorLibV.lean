/- The law. No condition. -/
import Derived.Test.YtfndnjmnakdglaaGreatDoorLibK
namespace Go.Proofs.YtfndnjmnakdglaaGreatDoor
open Go Go.Vm
set_option linter.unusedVariables false
set_option linter.unusedSimpArgs false
set_option maxHeartbeats 1000000 in
theorem stays_ok (s : St) (cs : List AV) (t : T) (n : Int) (hr : Room s) (hn : s.n.val ≤ 1000000) (h : RT6 s cs t) (h0 : 0 ≤ n) (h1 : n ≤ 255) : CA F.law13_LiftStays [.agg cs, .int .u8 n] s = .ok (.bool true) s := by
  have hc7 := h
  obtain ⟨ng, mg, kv, rfl, hz, hkv⟩ := h.ex
  have o1 := hz.one
  have o2 := hkv.one
  obtain ⟨L1, hL1⟩ : ∃ L : List AO, L = [.cells [.int .i64 t.op, ng, mg, .str t.name, .int .i64 t.sort, kv]] := ⟨_, rfl⟩
  have hl1 : L1.length = 1 := by rw [hL1]; rfl
  have e1 := ext_Sx (s := s) (l := L1) hr (by omega)
  have r1 := hr.sx (l := L1) (by omega)
  have n1 := Sx_n (s := s) (l := L1) hr (by omega)
  have fk := known_call (Sx s L1)
  have ff := fewTerm_ok t (Sx s L1) _ r1 (by omega) (hc7.x e1)
  cases hf : fewT t
  · rw [hf] at ff
    rw [hL1] at ff fk
    refine fn_of code_law13_LiftStays (by simp) ?_
    simp only [go_sem, ↓reduceIte, Nat.reduceMod, Nat.reduceEqDiff, Nat.reduceAdd, Nat.reduceMul, Nat.reduceSub, Nat.reduceLeDiff, Nat.reduceLT, Int.reduceEq, Int.reduceLT, Int.reduceLE, Int.reduceAdd, Int.reduceSub, Int.reduceNeg, reduceCtorEq, Nat.reduceShiftRight, Nat.reduceAnd, Nat.reduceBNe, hr, o1, o2, fk, ff, Bool.not_true, Bool.not_false]
    exact settled_bool (ext_Sx hr (by simp)) rfl
  · have hsz : t.size ≤ 120 ∧ fewN t = true := by unfold fewT at hf; simpa using hf
    have htm := fewN_tame t hsz.2
    have fi := Is_ok t htm (Sx s L1) _ r1 (by omega) (hc7.x e1)
    cases hi : isT t
    · rw [hf] at ff
      rw [hi] at fi
      rw [hL1] at ff fk fi
      refine fn_of code_law13_LiftStays (by simp) ?_
      simp only [go_sem, ↓reduceIte, Nat.reduceMod, Nat.reduceEqDiff, Nat.reduceAdd, Nat.reduceMul, Nat.reduceSub, Nat.reduceLeDiff, Nat.reduceLT, Int.reduceEq, Int.reduceLT, Int.reduceLE, Int.reduceAdd, Int.reduceSub, Int.reduceNeg, reduceCtorEq, Nat.reduceShiftRight, Nat.reduceAnd, Nat.reduceBNe, hr, o1, o2, fk, ff, fi, Bool.not_true, Bool.not_false]
      exact settled_bool (ext_Sx hr (by simp)) rfl
    · rw [hf] at ff
      rw [hi] at fi
      obtain ⟨ng1, mg1, kv1, hv1, fd, ru, rl⟩ := Do_ok s (Sx s L1) e1 _ t n r1 (by omega) hc7 htm h0 (by omega)
      obtain ⟨ng', mg', kv', hh, hz1, hk1⟩ := ru.ex
      obtain ⟨rfl, rfl, rfl⟩ : ng1 = ng' ∧ mg1 = mg' ∧ kv1 = kv' := by simpa using hh
      have p1 := hz1.one
      have p2 := hk1.one
      have p3 := rl.one
      have hw : IntKind.wrap .i64 n = n := wrap_i64 (by omega) (by omega)
      generalize hu : (doX n t).1 = u at *
      generalize hul : (doX n t).2.1 = ul at *
      generalize hn' : (doX n t).2.2 = n' at *
      obtain ⟨L2, hL2⟩ : ∃ L : List AO, L = [.cells [.int .i64 t.op, ng, mg, .str t.name, .int .i64 t.sort, kv], .cells [.int .i64 u.op, ng1, mg1, .str u.name, .int .i64 u.sort, kv1]] := ⟨_, rfl⟩
      have hl2 : L2.length = 2 := by rw [hL2]; rfl
      have e2 := ext_Sx (s := s) (l := L2) hr (by omega)
      have r2 := hr.sx (l := L2) (by omega)
      have n2 := Sx_n (s := s) (l := L2) hr (by omega)
      have fp := Pure_ok (Sx s L2) _ t r2 (by omega) (hc7.x e2)
      cases hp : anyT chT t
      · have hd := doX_pure hi hp n
        rw [hd] at hu hul hn'
        replace hu : t = u := hu
        replace hul : [] = ul := hul
        replace hn' : n = n' := hn'
        subst hu hul hn'
        have vl : ∀ σ, vlen hv1 σ = .ok (.int .i64 0) σ := fun σ => by have := rl.vlen σ; exact this
        have fs := same_ok _ t t (Nat.le_refl _) htm (Sx s L2) _ _ r2 (by omega) (ru.x e2) (hc7.x e2)
        rw [sameT_self _ t (Nat.le_refl _)] at fs
        rw [hp] at fp
        rw [hL1] at ff fk fi fd
        rw [hL2] at fp fs
        refine fn_of code_law13_LiftStays (by simp) ?_
        simp only [go_sem, ↓reduceIte, Nat.reduceMod, Nat.reduceEqDiff, Nat.reduceAdd, Nat.reduceMul, Nat.reduceSub, Nat.reduceLeDiff, Nat.reduceLT, Int.reduceEq, Int.reduceLT, Int.reduceLE, Int.reduceAdd, Int.reduceSub, Int.reduceNeg, reduceCtorEq, Nat.reduceShiftRight, Nat.reduceAnd, Nat.reduceBNe, hr, o1, o2, fk, ff, fi, Bool.not_true, Bool.not_false, hw, fd, p1, p2, p3, fp, fs, vl]
        exact settled_bool (ext_Sx hr (by simp)) rfl
      · rw [hp] at fp
        have hgo := doX_goes hi htm h0 (by omega)
        rw [hu, hul, hn'] at hgo
        have hnb : 0 ≤ n' ∧ n' ≤ 899800000 ∧ u.tame ∧ isT u = true := by
          rcases hgo with q | ⟨q1, q2, q3, q4, q5, q6, q7⟩
          · rw [q] at hu hn'
            replace hu : t = u := hu
            replace hn' : n = n' := hn'
            subst hu hn'
            exact ⟨h0, by omega, htm, hi⟩
          · exact ⟨by omega, q6, q2, q1⟩
        have hus : u.size ≤ 400 := by have := hnb.2.2.2; unfold isT at this; simp at this; exact this.1
        obtain ⟨ng2, mg2, kv2, hv2, fd2, ru2, rl2⟩ := Do_ok s (Sx s L2) e2 _ u n' r2 (by omega) ru hnb.2.2.1 hnb.1 (by omega)
        obtain ⟨ng', mg', kv', hh, hz2, hk2⟩ := ru2.ex
        obtain ⟨rfl, rfl, rfl⟩ : ng2 = ng' ∧ mg2 = mg' ∧ kv2 = kv' := by simpa using hh
        have p4 := hz2.one
        have p5 := hk2.one
        have p6 := rl2.one
        generalize hv : (doX n' u).1 = v at *
        generalize hvl : (doX n' u).2.1 = vl at *
        generalize hn2' : (doX n' u).2.2 = n2' at *
        obtain ⟨L3, hL3⟩ : ∃ L : List AO, L = [.cells [.int .i64 t.op, ng, mg, .str t.name, .int .i64 t.sort, kv], .cells [.int .i64 u.op, ng1, mg1, .str u.name, .int .i64 u.sort, kv1], .cells [.int .i64 v.op, ng2, mg2, .str v.name, .int .i64 v.sort, kv2]] := ⟨_, rfl⟩
        have hl3 : L3.length = 3 := by rw [hL3]; rfl
        have e3 := ext_Sx (s := s) (l := L3) hr (by omega)
        have r3 := hr.sx (l := L3) (by omega)
        have n3 := Sx_n (s := s) (l := L3) hr (by omega)
        have fq := Pure_ok (Sx s L3) _ u r3 (by omega) (ru.x e3)
        rcases hgo with q | ⟨q1, q2, q3, q4, q5, q6, q7⟩
        · rw [q] at hu hn'
          replace hu : t = u := hu
          replace hn' : n = n' := hn'
          subst hu hn'
          rw [hp] at fq
          rw [hL1] at ff fk fi fd
          rw [hL2] at fp fd2
          rw [hL3] at fq
          refine fn_of code_law13_LiftStays (by simp) ?_
          simp only [go_sem, ↓reduceIte, Nat.reduceMod, Nat.reduceEqDiff, Nat.reduceAdd, Nat.reduceMul, Nat.reduceSub, Nat.reduceLeDiff, Nat.reduceLT, Int.reduceEq, Int.reduceLT, Int.reduceLE, Int.reduceAdd, Int.reduceSub, Int.reduceNeg, reduceCtorEq, Nat.reduceShiftRight, Nat.reduceAnd, Nat.reduceBNe, hr, o1, o2, fk, ff, fi, Bool.not_true, Bool.not_false, hw, fd, p1, p2, p3, fp, fd2, p4, p5, p6, fq]
          exact settled_bool (ext_Sx hr (by simp)) rfl
        · have hd := doX_pure q1 q4 n'
          rw [hd] at hv hvl hn2'
          replace hv : u = v := hv
          replace hvl : [] = vl := hvl
          replace hn2' : n' = n2' := hn2'
          subst hv hvl hn2'
          rw [q4] at fq
          have vl2 : ∀ σ, vlen hv2 σ = .ok (.int .i64 0) σ := fun σ => by have := rl2.vlen σ; exact this
          have fs := same_ok _ u u (Nat.le_refl _) q2 (Sx s L3) _ _ r3 (by omega) (ru2.x e3) (ru.x e3)
          rw [sameT_self _ u (Nat.le_refl _)] at fs
          have hq3 : (u.sort = t.sort) = True := eq_true q3
          have w1 : IntKind.wrap .i64 (n' - n) = n' - n := wrap_i64 (by omega) (by omega)
          have w2 : IntKind.wrap .i64 (2 * (n' - n)) = 2 * (n' - n) := wrap_i64 (by omega) (by omega)
          have vl1 : ∀ σ, vlen hv1 σ = .ok (.int .i64 (2 * (n' - n))) σ := fun σ => by rw [← q7]; exact rl.vlen σ
          rw [hL1] at ff fk fi fd
          rw [hL2] at fp fd2
          rw [hL3] at fq fs
          refine fn_of code_law13_LiftStays (by simp) ?_
          simp only [go_sem, ↓reduceIte, Nat.reduceMod, Nat.reduceEqDiff, Nat.reduceAdd, Nat.reduceMul, Nat.reduceSub, Nat.reduceLeDiff, Nat.reduceLT, Int.reduceEq, Int.reduceLT, Int.reduceLE, Int.reduceAdd, Int.reduceSub, Int.reduceNeg, reduceCtorEq, Nat.reduceShiftRight, Nat.reduceAnd, Nat.reduceBNe, hr, o1, o2, fk, ff, fi, Bool.not_true, Bool.not_false, hw, fd, p1, p2, p3, fp, fd2, p4, p5, p6, fq, hq3, fs, vl2, vl1, w1, w2]
          exact settled_bool (ext_Sx hr (by simp)) rfl
end Go.Proofs.YtfndnjmnakdglaaGreatDoor
