/- Functions of the program: a term whose nodes are changed. No condition. -/
import Derived.Test.YtfndnjmnakdglaaGreatDoorLibI
namespace Go.Proofs.YtfndnjmnakdglaaGreatDoor
open Go Go.Vm
set_option linter.unusedVariables false
set_option linter.unusedSimpArgs false
def iteX (X : MV) (t : T) : T × MV :=
  let v := frT X.next.toNat t.sort
  let n1 := makeT 5 [kidT t 0]
  let e1 := makeT 10 [v, kidT t 1]
  let o1 := makeT 7 [n1, e1]
  let e2 := makeT 10 [v, kidT t 2]
  let o2 := makeT 7 [kidT t 0, e2]
  (v, hoX (mkX (mkX (hoX (mkX (mkX (mkX (frX X t) 5 [kidT t 0]) 10 [v, kidT t 1]) 7 [n1, e1]) [o1]) 10 [v, kidT t 2]) 7 [kidT t 0, e2]) [o2])
def absX (X : MV) (t : T) : T × MV :=
  let v := frT X.next.toNat t.sort
  let a := kidT t 0
  let z := numT ⟨false, []⟩
  let l1 := makeT 20 [a, z]
  let e1 := makeT 10 [v, a]
  let o1 := makeT 7 [l1, e1]
  let l2 := makeT 21 [a, z]
  let s2 := makeT 14 [a]
  let e2 := makeT 10 [v, s2]
  let o2 := makeT 7 [l2, e2]
  (v, hoX (mkX (mkX (mkX (mkX (hoX (mkX (mkX (mkX (frX X t) 20 [a, z]) 10 [v, a]) 7 [l1, e1]) [o1]) 21 [a, z]) 14 [a]) 10 [v, s2]) 7 [l2, e2]) [o2])
def liftsX (X : MV) (t : T) : T × MV := if X.fails || !chT t then (t, X) else if t.op = 12 then iteX X t else absX X t
section
variable {s σ : St} {b : Vm.Id} {hv mv : AV} {hc mc : List AV} {X : MV}
set_option maxHeartbeats 4000000 in
theorem lifts_ok (h : Mk0 s σ b hv mv hc mc X) {cs : List AV} {t : T} (hc6 : RT6 s cs t) (htm : t.tame) (hk : X.fails = false → chT t = true → (t.op = 12 → 3 ≤ t.kids.length) ∧ (t.op ≠ 12 → 1 ≤ t.kids.length)) (h0 : 0 ≤ X.next) (h1 : X.next < 999999999) (hm : X.means.length + 1 ≤ 1000000) (hh : X.holds.length + 2 ≤ 1000000) (hn : σ.n.val ≤ 1000000000) :
    ∃ cs' σ', CA F.lift_Maker_lifts [.ptr b 0, .agg cs] σ = .ok (.agg cs') σ' ∧ RT6 s cs' (liftsX X t).1 ∧ MkM 2000 s σ hv mv σ' b (liftsX X t).2 := by
  have hr := h.room
  have hb := h.bge.2
  have ob := h.ob
  have hov := rt6_ovσ h.ext hc6
  have hc7 := hc6
  obtain ⟨ng, mg, kv, rfl, hz, hkv⟩ := hc6.ex
  have o1 := hz.one
  have o2 := hkv.one
  have key : ∃ r σ' X', CA F.lift_Maker_lifts [.ptr b 0, .agg [.int .i64 t.op, ng, mg, .str t.name, .int .i64 t.sort, kv]] σ = .ok r σ' ∧ (∃ cs', r = .agg cs' ∧ RT6 s cs' (liftsX X t).1 ∧ X' = (liftsX X t).2) ∧ MkM 2000 s σ hv mv σ' b X' := by
    refine fn_mk h code_lift_Maker_lifts (by simp) ?_
    have hL0 := (Loc.start h).sx (Nat.le_refl _) [.cells [.int .i64 t.op, ng, mg, .str t.name, .int .i64 t.sort, kv], .cells zeroC] [0, 1] (by simp) (by simp) (by simp)
    have k1 := choice_ok (Sx σ [.cells [.int .i64 t.op, ng, mg, .str t.name, .int .i64 t.sort, kv], .cells zeroC]) _ t hL0.room (by have := hL0.nle; simp at this; omega) (hc7.x hL0.ext)
    cases hf : X.fails
    · rw [hf] at ob
      cases hct : chT t
      · simp only [go_sem, ↓reduceIte, Nat.reduceMod, Nat.reduceEqDiff, Nat.reduceAdd, Nat.reduceMul, Nat.reduceSub, Nat.reduceLeDiff, Nat.reduceLT, Int.reduceEq, Int.reduceLT, Int.reduceLE, Int.reduceAdd, Int.reduceSub, Int.reduceNeg, reduceCtorEq, Nat.reduceShiftRight, Nat.reduceAnd, Nat.reduceBNe, hr, hb, ob, o1, o2, k1, hct, Bool.not_false]
        refine ⟨ov_agg hov, _, ⟨_, rfl, ?_, rfl⟩, ?_⟩
        · rw [show liftsX X t = (t, X) by simp [liftsX, hct]]; exact hc7
        · rw [show liftsX X t = (t, X) by simp [liftsX, hct]]
          exact (((Loc.start h).sx (Nat.le_refl _) [.cells [.int .i64 t.op, ng, mg, .str t.name, .int .i64 t.sort, kv], .cells [.int .i64 t.op, ng, mg, .str t.name, .int .i64 t.sort, kv]] [] (by simp) (by simp) (by simp)).le (by simp)).done
      · obtain ⟨τ1, f1, hL1⟩ := hL0.fresh (by simp; omega) hc7 h0 h1 hm
        replace hL1 := hL1.le (K' := 102) (by simp)
        simp only [go_sem, ↓reduceIte, Nat.reduceMod, Nat.reduceEqDiff, Nat.reduceAdd, Nat.reduceMul, Nat.reduceSub, Nat.reduceLeDiff, Nat.reduceLT, Int.reduceEq, Int.reduceLT, Int.reduceLE, Int.reduceAdd, Int.reduceSub, Int.reduceNeg, reduceCtorEq, Nat.reduceShiftRight, Nat.reduceAnd, Nat.reduceBNe, hr, hb, ob, o1, o2, k1, hct, Bool.not_true, f1]
        rw [← Sx_nil τ1]
        have hr1 := hL1.room
        have v3 := hL1.get 0 rfl rfl
        have v4 := hL1.get 1 rfl rfl
        have b3 := hL1.lt 0 rfl
        have b4 := hL1.lt 1 rfl
        simp only [List.getElem?_cons_zero, List.getElem?_cons_succ, Option.getD_some] at v3 v4
        have hfr := fr_rep s X.next.toNat t.sort
        have hovr := rt6_ovσ h.ext hfr
        have hftm : (frT X.next.toNat t.sort).tame := frT_tame t.sort (by omega)
        have hsn := h.ext.n
        have hsk : ∀ {K : Nat}, K ≤ 2000 → σ.n.val + K ≤ 1000020000 := fun hK => by omega
        by_cases c12 : t.op = 12
        · have hk3 := (hk hf hct).1 c12
          obtain ⟨ngk0, mgk0, kvk0, rk0, ok0, pk0, qk0, ik0, lk0⟩ := kid_cells (t := t) hkv hL1.ext (i := 0) (by omega)
          replace ik0 : ∀ σ, viaddr 6 kv (.int .i64 0) σ = .ok (elp kv 0) σ := ik0
          replace lk0 : ∀ σ, Ext τ1 σ → vload true 6 (elp kv 0) σ = .ok (.agg [.int .i64 (kidT t 0).op, ngk0, mgk0, .str (kidT t 0).name, .int .i64 (kidT t 0).sort, kvk0]) σ := lk0
          have tk0 : (kidT t 0).tame := by rw [kidT_at (by omega)]; exact T.tame_at (T.tame_kids htm).2 (by omega)
          obtain ⟨ngk1, mgk1, kvk1, rk1, ok1, pk1, qk1, ik1, lk1⟩ := kid_cells (t := t) hkv hL1.ext (i := 1) (by omega)
          replace ik1 : ∀ σ, viaddr 6 kv (.int .i64 1) σ = .ok (elp kv 6) σ := ik1
          replace lk1 : ∀ σ, Ext τ1 σ → vload true 6 (elp kv 6) σ = .ok (.agg [.int .i64 (kidT t 1).op, ngk1, mgk1, .str (kidT t 1).name, .int .i64 (kidT t 1).sort, kvk1]) σ := lk1
          have tk1 : (kidT t 1).tame := by rw [kidT_at (by omega)]; exact T.tame_at (T.tame_kids htm).2 (by omega)
          obtain ⟨ngk2, mgk2, kvk2, rk2, ok2, pk2, qk2, ik2, lk2⟩ := kid_cells (t := t) hkv hL1.ext (i := 2) (by omega)
          replace ik2 : ∀ σ, viaddr 6 kv (.int .i64 2) σ = .ok (elp kv 12) σ := ik2
          replace lk2 : ∀ σ, Ext τ1 σ → vload true 6 (elp kv 12) σ = .ok (.agg [.int .i64 (kidT t 2).op, ngk2, mgk2, .str (kidT t 2).name, .int .i64 (kidT t 2).sort, kvk2]) σ := lk2
          have tk2 : (kidT t 2).tame := by rw [kidT_at (by omega)]; exact T.tame_at (T.tame_kids htm).2 (by omega)
          simp only [go_sem, ↓reduceIte, Nat.reduceMod, Nat.reduceEqDiff, Nat.reduceAdd, Nat.reduceMul, Nat.reduceSub, Nat.reduceLeDiff, Nat.reduceLT, Int.reduceEq, Int.reduceLT, Int.reduceLE, Int.reduceAdd, Int.reduceSub, Int.reduceNeg, reduceCtorEq, Nat.reduceShiftRight, Nat.reduceAnd, Nat.reduceBNe, hr1, b3, b4, v3, v4, o1, o2, c12]
          refine W_drawn hr1 _ (by simp) ?_
          simp only [List.nil_append, List.cons_append, List.length_nil, List.length_cons, List.replicate_succ, List.replicate_zero, Nat.reduceAdd]
          simp only [go_sem, ↓reduceIte, Nat.reduceMod, Nat.reduceEqDiff, Nat.reduceAdd, Nat.reduceMul, Nat.reduceSub, Nat.reduceLeDiff, Nat.reduceLT, Int.reduceEq, Int.reduceLT, Int.reduceLE, Int.reduceAdd, Int.reduceSub, Int.reduceNeg, reduceCtorEq, Nat.reduceShiftRight, Nat.reduceAnd, Nat.reduceBNe, hr1, b3, b4, v3, v4, o1, o2, ik0, lk0, ok0, pk0, qk0, ik1, lk1, ok1, pk1, qk1, ik2, lk2, ok2, pk2, qk2]
          refine W_drawn hr1 _ (by simp) ?_
          simp only [List.nil_append, List.cons_append, List.length_nil, List.length_cons, List.replicate_succ, List.replicate_zero, Nat.reduceAdd]
          have hL2 := (hL1.sx hL1.nle0 [.cells (frC X.next.toNat t.sort), .dead, .dead, .dead, .dead, .dead, .dead, .dead, .dead, .dead, .dead, .dead, .dead, .cells [.int .i64 (kidT t 0).op, ngk0, mgk0, .str (kidT t 0).name, .int .i64 (kidT t 0).sort, kvk0], .cells [.int .i64 (kidT t 1).op, ngk1, mgk1, .str (kidT t 1).name, .int .i64 (kidT t 1).sort, kvk1], .cells [.int .i64 (kidT t 2).op, ngk2, mgk2, .str (kidT t 2).name, .int .i64 (kidT t 2).sort, kvk2], .dead, .dead, .dead, .dead, .dead, .dead, .dead, .dead, .dead, .dead, .dead, .dead, .dead, .dead, .dead, .dead, .dead, .dead] [0, 13, 14, 15, 23, 28, 30, 32] (by simp) (by simp) (by decide)).le (K' := 136) (by simp)
          generalize hτ2 : Sx τ1 [.cells (frC X.next.toNat t.sort), .dead, .dead, .dead, .dead, .dead, .dead, .dead, .dead, .dead, .dead, .dead, .dead, .cells [.int .i64 (kidT t 0).op, ngk0, mgk0, .str (kidT t 0).name, .int .i64 (kidT t 0).sort, kvk0], .cells [.int .i64 (kidT t 1).op, ngk1, mgk1, .str (kidT t 1).name, .int .i64 (kidT t 1).sort, kvk1], .cells [.int .i64 (kidT t 2).op, ngk2, mgk2, .str (kidT t 2).name, .int .i64 (kidT t 2).sort, kvk2], .dead, .dead, .dead, .dead, .dead, .dead, .dead, .dead, .dead, .dead, .dead, .dead, .dead, .dead, .dead, .dead, .dead, .dead] = τ2 at hL2 ⊢
          have w2v : τ2.obj (nm τ1 0) = .cells (frC X.next.toNat t.sort) := hL2.get 2 rfl rfl
          have w2k0 : τ2.obj (nm τ1 13) = .cells [.int .i64 (kidT t 0).op, ngk0, mgk0, .str (kidT t 0).name, .int .i64 (kidT t 0).sort, kvk0] := hL2.get 3 rfl rfl
          have w2k1 : τ2.obj (nm τ1 14) = .cells [.int .i64 (kidT t 1).op, ngk1, mgk1, .str (kidT t 1).name, .int .i64 (kidT t 1).sort, kvk1] := hL2.get 4 rfl rfl
          have w2k2 : τ2.obj (nm τ1 15) = .cells [.int .i64 (kidT t 2).op, ngk2, mgk2, .str (kidT t 2).name, .int .i64 (kidT t 2).sort, kvk2] := hL2.get 5 rfl rfl
          have hp2 := hL2.put hsn 6 (i := nm τ1 23) rfl (.cells ([.int .i64 (kidT t 0).op, ngk0, mgk0, .str (kidT t 0).name, .int .i64 (kidT t 0).sort, kvk0]))
          obtain ⟨ngn1, mgn1, kvn1, τ3, f3, on1, pn1, qn1, rn1, hL3⟩ := hp2.make1 (hsk (K := 136) (by omega)) 5 (6) (i := nm τ1 23) rfl (c1 := [.int .i64 (kidT t 0).op, ngk0, mgk0, .str (kidT t 0).name, .int .i64 (kidT t 0).sort, kvk0]) rfl rk0 tk0
          have tn1 : (makeT 5 [kidT t 0]).tame := makeT_tame ⟨tk0, trivial⟩
          try simp only [List.cons_append, List.nil_append] at f3
          simp only [go_sem, ↓reduceIte, Nat.reduceMod, Nat.reduceEqDiff, Nat.reduceAdd, Nat.reduceMul, Nat.reduceSub, Nat.reduceLeDiff, Nat.reduceLT, Int.reduceEq, Int.reduceLT, Int.reduceLE, Int.reduceAdd, Int.reduceSub, Int.reduceNeg, reduceCtorEq, Nat.reduceShiftRight, Nat.reduceAnd, Nat.reduceBNe, hr1, w2v, w2k0, w2k1, w2k2, ik0, lk0, ok0, pk0, qk0, ik1, lk1, ok1, pk1, qk1, ik2, lk2, ok2, pk2, qk2, on1, pn1, qn1, f3, nm_val, mk_obj, splice0_12, splice6_12]
          have w3v : τ3.obj (nm τ1 0) = .cells (frC X.next.toNat t.sort) := hL3.get 2 rfl rfl
          have w3k0 : τ3.obj (nm τ1 13) = .cells [.int .i64 (kidT t 0).op, ngk0, mgk0, .str (kidT t 0).name, .int .i64 (kidT t 0).sort, kvk0] := hL3.get 3 rfl rfl
          have w3k1 : τ3.obj (nm τ1 14) = .cells [.int .i64 (kidT t 1).op, ngk1, mgk1, .str (kidT t 1).name, .int .i64 (kidT t 1).sort, kvk1] := hL3.get 4 rfl rfl
          have w3k2 : τ3.obj (nm τ1 15) = .cells [.int .i64 (kidT t 2).op, ngk2, mgk2, .str (kidT t 2).name, .int .i64 (kidT t 2).sort, kvk2] := hL3.get 5 rfl rfl
          have hp3 := hL3.put hsn 7 (i := nm τ1 28) rfl (.cells ((frC X.next.toNat t.sort) ++ [.int .i64 (kidT t 1).op, ngk1, mgk1, .str (kidT t 1).name, .int .i64 (kidT t 1).sort, kvk1]))
          obtain ⟨nge1, mge1, kve1, τ4, f4, oe1, pe1, qe1, re1, hL4⟩ := hp3.make2 (hsk (K := 236) (by omega)) 10 (7) (i := nm τ1 28) rfl (c1 := (frC X.next.toNat t.sort)) (c2 := [.int .i64 (kidT t 1).op, ngk1, mgk1, .str (kidT t 1).name, .int .i64 (kidT t 1).sort, kvk1]) rfl hfr rk1 hftm tk1
          have te1 : (makeT 10 [frT X.next.toNat t.sort, kidT t 1]).tame := makeT_tame ⟨hftm, tk1, trivial⟩
          try simp only [List.cons_append, List.nil_append] at f4
          simp only [go_sem, ↓reduceIte, Nat.reduceMod, Nat.reduceEqDiff, Nat.reduceAdd, Nat.reduceMul, Nat.reduceSub, Nat.reduceLeDiff, Nat.reduceLT, Int.reduceEq, Int.reduceLT, Int.reduceLE, Int.reduceAdd, Int.reduceSub, Int.reduceNeg, reduceCtorEq, Nat.reduceShiftRight, Nat.reduceAnd, Nat.reduceBNe, hr1, w2v, w2k0, w2k1, w2k2, w3v, w3k0, w3k1, w3k2, ik0, lk0, ok0, pk0, qk0, ik1, lk1, ok1, pk1, qk1, ik2, lk2, ok2, pk2, qk2, on1, pn1, qn1, oe1, pe1, qe1, f4, nm_val, mk_obj, splice0_12, splice6_12]
          have w4v : τ4.obj (nm τ1 0) = .cells (frC X.next.toNat t.sort) := hL4.get 2 rfl rfl
          have w4k0 : τ4.obj (nm τ1 13) = .cells [.int .i64 (kidT t 0).op, ngk0, mgk0, .str (kidT t 0).name, .int .i64 (kidT t 0).sort, kvk0] := hL4.get 3 rfl rfl
          have w4k1 : τ4.obj (nm τ1 14) = .cells [.int .i64 (kidT t 1).op, ngk1, mgk1, .str (kidT t 1).name, .int .i64 (kidT t 1).sort, kvk1] := hL4.get 4 rfl rfl
          have w4k2 : τ4.obj (nm τ1 15) = .cells [.int .i64 (kidT t 2).op, ngk2, mgk2, .str (kidT t 2).name, .int .i64 (kidT t 2).sort, kvk2] := hL4.get 5 rfl rfl
          have hp4 := hL4.put hsn 8 (i := nm τ1 30) rfl (.cells ([.int .i64 (makeT 5 [kidT t 0]).op, ngn1, mgn1, .str (makeT 5 [kidT t 0]).name, .int .i64 (makeT 5 [kidT t 0]).sort, kvn1] ++ [.int .i64 (makeT 10 [frT X.next.toNat t.sort, kidT t 1]).op, nge1, mge1, .str (makeT 10 [frT X.next.toNat t.sort, kidT t 1]).name, .int .i64 (makeT 10 [frT X.next.toNat t.sort, kidT t 1]).sort, kve1]))
          obtain ⟨ngo1, mgo1, kvo1, τ5, f5, oo1, po1, qo1, ro1, hL5⟩ := hp4.make2 (hsk (K := 336) (by omega)) 7 (8) (i := nm τ1 30) rfl (c1 := [.int .i64 (makeT 5 [kidT t 0]).op, ngn1, mgn1, .str (makeT 5 [kidT t 0]).name, .int .i64 (makeT 5 [kidT t 0]).sort, kvn1]) (c2 := [.int .i64 (makeT 10 [frT X.next.toNat t.sort, kidT t 1]).op, nge1, mge1, .str (makeT 10 [frT X.next.toNat t.sort, kidT t 1]).name, .int .i64 (makeT 10 [frT X.next.toNat t.sort, kidT t 1]).sort, kve1]) rfl rn1 re1 tn1 te1
          have to1 : (makeT 7 [makeT 5 [kidT t 0], makeT 10 [frT X.next.toNat t.sort, kidT t 1]]).tame := makeT_tame ⟨tn1, te1, trivial⟩
          try simp only [List.cons_append, List.nil_append] at f5
          simp only [go_sem, ↓reduceIte, Nat.reduceMod, Nat.reduceEqDiff, Nat.reduceAdd, Nat.reduceMul, Nat.reduceSub, Nat.reduceLeDiff, Nat.reduceLT, Int.reduceEq, Int.reduceLT, Int.reduceLE, Int.reduceAdd, Int.reduceSub, Int.reduceNeg, reduceCtorEq, Nat.reduceShiftRight, Nat.reduceAnd, Nat.reduceBNe, hr1, w2v, w2k0, w2k1, w2k2, w3v, w3k0, w3k1, w3k2, w4v, w4k0, w4k1, w4k2, ik0, lk0, ok0, pk0, qk0, ik1, lk1, ok1, pk1, qk1, ik2, lk2, ok2, pk2, qk2, on1, pn1, qn1, oe1, pe1, qe1, oo1, po1, qo1, f5, nm_val, mk_obj, splice0_12, splice6_12]
          have w5v : τ5.obj (nm τ1 0) = .cells (frC X.next.toNat t.sort) := hL5.get 2 rfl rfl
          have w5k0 : τ5.obj (nm τ1 13) = .cells [.int .i64 (kidT t 0).op, ngk0, mgk0, .str (kidT t 0).name, .int .i64 (kidT t 0).sort, kvk0] := hL5.get 3 rfl rfl
          have w5k1 : τ5.obj (nm τ1 14) = .cells [.int .i64 (kidT t 1).op, ngk1, mgk1, .str (kidT t 1).name, .int .i64 (kidT t 1).sort, kvk1] := hL5.get 4 rfl rfl
          have w5k2 : τ5.obj (nm τ1 15) = .cells [.int .i64 (kidT t 2).op, ngk2, mgk2, .str (kidT t 2).name, .int .i64 (kidT t 2).sort, kvk2] := hL5.get 5 rfl rfl
          have hp5 := hL5.put hsn 9 (i := nm τ1 32) rfl (.cells ([.int .i64 (makeT 7 [makeT 5 [kidT t 0], makeT 10 [frT X.next.toNat t.sort, kidT t 1]]).op, ngo1, mgo1, .str (makeT 7 [makeT 5 [kidT t 0], makeT 10 [frT X.next.toNat t.sort, kidT t 1]]).name, .int .i64 (makeT 7 [makeT 5 [kidT t 0], makeT 10 [frT X.next.toNat t.sort, kidT t 1]]).sort, kvo1]))
          obtain ⟨τ6, f6, hL6⟩ := hp5.hold1 (9) (i := nm τ1 32) rfl (c1 := [.int .i64 (makeT 7 [makeT 5 [kidT t 0], makeT 10 [frT X.next.toNat t.sort, kidT t 1]]).op, ngo1, mgo1, .str (makeT 7 [makeT 5 [kidT t 0], makeT 10 [frT X.next.toNat t.sort, kidT t 1]]).name, .int .i64 (makeT 7 [makeT 5 [kidT t 0], makeT 10 [frT X.next.toNat t.sort, kidT t 1]]).sort, kvo1]) rfl ro1 (by simp; omega)
          try simp only [List.cons_append, List.nil_append] at f6
          simp only [go_sem, ↓reduceIte, Nat.reduceMod, Nat.reduceEqDiff, Nat.reduceAdd, Nat.reduceMul, Nat.reduceSub, Nat.reduceLeDiff, Nat.reduceLT, Int.reduceEq, Int.reduceLT, Int.reduceLE, Int.reduceAdd, Int.reduceSub, Int.reduceNeg, reduceCtorEq, Nat.reduceShiftRight, Nat.reduceAnd, Nat.reduceBNe, hr1, w2v, w2k0, w2k1, w2k2, w3v, w3k0, w3k1, w3k2, w4v, w4k0, w4k1, w4k2, w5v, w5k0, w5k1, w5k2, ik0, lk0, ok0, pk0, qk0, ik1, lk1, ok1, pk1, qk1, ik2, lk2, ok2, pk2, qk2, on1, pn1, qn1, oe1, pe1, qe1, oo1, po1, qo1, f6, nm_val, mk_obj, splice0_12, splice6_12]
          rw [← Sx_nil τ6]
          have hR6 := hL6.room
          refine W_drawn hL6.room _ (by simp) ?_
          simp only [List.nil_append, List.cons_append, List.length_nil, List.length_cons, List.replicate_succ, List.replicate_zero, Nat.reduceAdd]
          have hL7 := (hL6.sx hL6.nle0 [.dead, .dead, .dead, .dead, .dead, .dead, .dead, .dead, .dead, .dead, .dead, .dead] [6, 8, 10] (by simp) (by simp) (by decide)).le (K' := 548) (by simp)
          generalize hτ7 : Sx τ6 [.dead, .dead, .dead, .dead, .dead, .dead, .dead, .dead, .dead, .dead, .dead, .dead] = τ7 at hL7 ⊢
          have w7v : τ7.obj (nm τ1 0) = .cells (frC X.next.toNat t.sort) := hL7.get 2 rfl rfl
          have w7k0 : τ7.obj (nm τ1 13) = .cells [.int .i64 (kidT t 0).op, ngk0, mgk0, .str (kidT t 0).name, .int .i64 (kidT t 0).sort, kvk0] := hL7.get 3 rfl rfl
          have w7k1 : τ7.obj (nm τ1 14) = .cells [.int .i64 (kidT t 1).op, ngk1, mgk1, .str (kidT t 1).name, .int .i64 (kidT t 1).sort, kvk1] := hL7.get 4 rfl rfl
          have w7k2 : τ7.obj (nm τ1 15) = .cells [.int .i64 (kidT t 2).op, ngk2, mgk2, .str (kidT t 2).name, .int .i64 (kidT t 2).sort, kvk2] := hL7.get 5 rfl rfl
          have hp7 := hL7.put hsn 10 (i := nm τ6 6) rfl (.cells ((frC X.next.toNat t.sort) ++ [.int .i64 (kidT t 2).op, ngk2, mgk2, .str (kidT t 2).name, .int .i64 (kidT t 2).sort, kvk2]))
          obtain ⟨nge2, mge2, kve2, τ8, f8, oe2, pe2, qe2, re2, hL8⟩ := hp7.make2 (hsk (K := 548) (by omega)) 10 (10) (i := nm τ6 6) rfl (c1 := (frC X.next.toNat t.sort)) (c2 := [.int .i64 (kidT t 2).op, ngk2, mgk2, .str (kidT t 2).name, .int .i64 (kidT t 2).sort, kvk2]) rfl hfr rk2 hftm tk2
          have te2 : (makeT 10 [frT X.next.toNat t.sort, kidT t 2]).tame := makeT_tame ⟨hftm, tk2, trivial⟩
          try simp only [List.cons_append, List.nil_append] at f8
          simp only [go_sem, ↓reduceIte, Nat.reduceMod, Nat.reduceEqDiff, Nat.reduceAdd, Nat.reduceMul, Nat.reduceSub, Nat.reduceLeDiff, Nat.reduceLT, Int.reduceEq, Int.reduceLT, Int.reduceLE, Int.reduceAdd, Int.reduceSub, Int.reduceNeg, reduceCtorEq, Nat.reduceShiftRight, Nat.reduceAnd, Nat.reduceBNe, hR6, w7v, w7k0, w7k1, w7k2, ik0, lk0, ok0, pk0, qk0, ik1, lk1, ok1, pk1, qk1, ik2, lk2, ok2, pk2, qk2, on1, pn1, qn1, oe1, pe1, qe1, oo1, po1, qo1, oe2, pe2, qe2, f8, nm_val, mk_obj, splice0_12, splice6_12]
          have w8v : τ8.obj (nm τ1 0) = .cells (frC X.next.toNat t.sort) := hL8.get 2 rfl rfl
          have w8k0 : τ8.obj (nm τ1 13) = .cells [.int .i64 (kidT t 0).op, ngk0, mgk0, .str (kidT t 0).name, .int .i64 (kidT t 0).sort, kvk0] := hL8.get 3 rfl rfl
          have w8k1 : τ8.obj (nm τ1 14) = .cells [.int .i64 (kidT t 1).op, ngk1, mgk1, .str (kidT t 1).name, .int .i64 (kidT t 1).sort, kvk1] := hL8.get 4 rfl rfl
          have w8k2 : τ8.obj (nm τ1 15) = .cells [.int .i64 (kidT t 2).op, ngk2, mgk2, .str (kidT t 2).name, .int .i64 (kidT t 2).sort, kvk2] := hL8.get 5 rfl rfl
          have hp8 := hL8.put hsn 11 (i := nm τ6 8) rfl (.cells ([.int .i64 (kidT t 0).op, ngk0, mgk0, .str (kidT t 0).name, .int .i64 (kidT t 0).sort, kvk0] ++ [.int .i64 (makeT 10 [frT X.next.toNat t.sort, kidT t 2]).op, nge2, mge2, .str (makeT 10 [frT X.next.toNat t.sort, kidT t 2]).name, .int .i64 (makeT 10 [frT X.next.toNat t.sort, kidT t 2]).sort, kve2]))
          obtain ⟨ngo2, mgo2, kvo2, τ9, f9, oo2, po2, qo2, ro2, hL9⟩ := hp8.make2 (hsk (K := 648) (by omega)) 7 (11) (i := nm τ6 8) rfl (c1 := [.int .i64 (kidT t 0).op, ngk0, mgk0, .str (kidT t 0).name, .int .i64 (kidT t 0).sort, kvk0]) (c2 := [.int .i64 (makeT 10 [frT X.next.toNat t.sort, kidT t 2]).op, nge2, mge2, .str (makeT 10 [frT X.next.toNat t.sort, kidT t 2]).name, .int .i64 (makeT 10 [frT X.next.toNat t.sort, kidT t 2]).sort, kve2]) rfl rk0 re2 tk0 te2
          have to2 : (makeT 7 [kidT t 0, makeT 10 [frT X.next.toNat t.sort, kidT t 2]]).tame := makeT_tame ⟨tk0, te2, trivial⟩
          try simp only [List.cons_append, List.nil_append] at f9
          simp only [go_sem, ↓reduceIte, Nat.reduceMod, Nat.reduceEqDiff, Nat.reduceAdd, Nat.reduceMul, Nat.reduceSub, Nat.reduceLeDiff, Nat.reduceLT, Int.reduceEq, Int.reduceLT, Int.reduceLE, Int.reduceAdd, Int.reduceSub, Int.reduceNeg, reduceCtorEq, Nat.reduceShiftRight, Nat.reduceAnd, Nat.reduceBNe, hR6, w7v, w7k0, w7k1, w7k2, w8v, w8k0, w8k1, w8k2, ik0, lk0, ok0, pk0, qk0, ik1, lk1, ok1, pk1, qk1, ik2, lk2, ok2, pk2, qk2, on1, pn1, qn1, oe1, pe1, qe1, oo1, po1, qo1, oe2, pe2, qe2, oo2, po2, qo2, f9, nm_val, mk_obj, splice0_12, splice6_12]
          have w9v : τ9.obj (nm τ1 0) = .cells (frC X.next.toNat t.sort) := hL9.get 2 rfl rfl
          have w9k0 : τ9.obj (nm τ1 13) = .cells [.int .i64 (kidT t 0).op, ngk0, mgk0, .str (kidT t 0).name, .int .i64 (kidT t 0).sort, kvk0] := hL9.get 3 rfl rfl
          have w9k1 : τ9.obj (nm τ1 14) = .cells [.int .i64 (kidT t 1).op, ngk1, mgk1, .str (kidT t 1).name, .int .i64 (kidT t 1).sort, kvk1] := hL9.get 4 rfl rfl
          have w9k2 : τ9.obj (nm τ1 15) = .cells [.int .i64 (kidT t 2).op, ngk2, mgk2, .str (kidT t 2).name, .int .i64 (kidT t 2).sort, kvk2] := hL9.get 5 rfl rfl
          have hp9 := hL9.put hsn 12 (i := nm τ6 10) rfl (.cells ([.int .i64 (makeT 7 [kidT t 0, makeT 10 [frT X.next.toNat t.sort, kidT t 2]]).op, ngo2, mgo2, .str (makeT 7 [kidT t 0, makeT 10 [frT X.next.toNat t.sort, kidT t 2]]).name, .int .i64 (makeT 7 [kidT t 0, makeT 10 [frT X.next.toNat t.sort, kidT t 2]]).sort, kvo2]))
          obtain ⟨τ10, f10, hL10⟩ := hp9.hold1 (12) (i := nm τ6 10) rfl (c1 := [.int .i64 (makeT 7 [kidT t 0, makeT 10 [frT X.next.toNat t.sort, kidT t 2]]).op, ngo2, mgo2, .str (makeT 7 [kidT t 0, makeT 10 [frT X.next.toNat t.sort, kidT t 2]]).name, .int .i64 (makeT 7 [kidT t 0, makeT 10 [frT X.next.toNat t.sort, kidT t 2]]).sort, kvo2]) rfl ro2 (by simp; omega)
          try simp only [List.cons_append, List.nil_append] at f10
          simp only [go_sem, ↓reduceIte, Nat.reduceMod, Nat.reduceEqDiff, Nat.reduceAdd, Nat.reduceMul, Nat.reduceSub, Nat.reduceLeDiff, Nat.reduceLT, Int.reduceEq, Int.reduceLT, Int.reduceLE, Int.reduceAdd, Int.reduceSub, Int.reduceNeg, reduceCtorEq, Nat.reduceShiftRight, Nat.reduceAnd, Nat.reduceBNe, hR6, w7v, w7k0, w7k1, w7k2, w8v, w8k0, w8k1, w8k2, w9v, w9k0, w9k1, w9k2, ik0, lk0, ok0, pk0, qk0, ik1, lk1, ok1, pk1, qk1, ik2, lk2, ok2, pk2, qk2, on1, pn1, qn1, oe1, pe1, qe1, oo1, po1, qo1, oe2, pe2, qe2, oo2, po2, qo2, f10, nm_val, mk_obj, splice0_12, splice6_12]
          rw [← Sx_nil τ10]
          have w10v : τ10.obj (nm τ1 0) = .cells (frC X.next.toNat t.sort) := hL10.get 2 rfl rfl
          have l10v := hL10.lt 2 (i := nm τ1 0) rfl
          have w10r : τ10.obj (nm σ 1) = .cells zeroC := hL10.get 1 rfl rfl
          have l10r := hL10.lt 1 (i := nm σ 1) rfl
          have hrr := hL10.room
          simp only [go_sem, ↓reduceIte, Nat.reduceMod, Nat.reduceEqDiff, Nat.reduceAdd, Nat.reduceMul, Nat.reduceSub, Nat.reduceLeDiff, Nat.reduceLT, Int.reduceEq, Int.reduceLT, Int.reduceLE, Int.reduceAdd, Int.reduceSub, Int.reduceNeg, reduceCtorEq, Nat.reduceShiftRight, Nat.reduceAnd, Nat.reduceBNe, hrr, w10v, l10v, w10r, l10r]
          refine ⟨ov_agg hovr, _, ⟨_, rfl, ?_, rfl⟩, ?_⟩
          · rw [show liftsX X t = iteX X t by simp [liftsX, hf, hct, c12]]; exact hfr
          · rw [show liftsX X t = iteX X t by simp [liftsX, hf, hct, c12]]
            have hq := (hL10.put hsn 1 (i := nm σ 1) rfl (.cells (frC X.next.toNat t.sort))).le (K' := 2000) (by simp)
            rw [Sx_nil]
            exact hq.done
        · have hk1 := (hk hf hct).2 c12
          have tz : (numT ⟨false, []⟩).tame := ⟨by decide, by simp, trivial⟩
          obtain ⟨ngk0, mgk0, kvk0, rk0, ok0, pk0, qk0, ik0, lk0⟩ := kid_cells (t := t) hkv hL1.ext (i := 0) (by omega)
          replace ik0 : ∀ σ, viaddr 6 kv (.int .i64 0) σ = .ok (elp kv 0) σ := ik0
          replace lk0 : ∀ σ, Ext τ1 σ → vload true 6 (elp kv 0) σ = .ok (.agg [.int .i64 (kidT t 0).op, ngk0, mgk0, .str (kidT t 0).name, .int .i64 (kidT t 0).sort, kvk0]) σ := lk0
          have tk0 : (kidT t 0).tame := by rw [kidT_at (by omega)]; exact T.tame_at (T.tame_kids htm).2 (by omega)
          have hnn := hL1.nle
          obtain ⟨csz, fz3, fz2⟩ := Num_ok (Sx τ1 [.cells (frC X.next.toNat t.sort), .dead, .dead, .dead, .dead, .dead, .dead, .dead, .dead, .dead, .dead]) (.bool false) .nils ⟨false, []⟩ (hr1.sx (by simp)) (by rw [Sx_n hr1 (by simp)]; simp only [List.length_cons, List.length_nil]; omega) (by simp) ⟨rfl, nats_nil _⟩
          obtain ⟨ngz, mgz, kvz, rfl, hzz, hkz⟩ := (fz2 s).ex
          have oz1 := hzz.one
          have oz2 := hkz.one
          have rz := fz2 s
          simp only [go_sem, ↓reduceIte, Nat.reduceMod, Nat.reduceEqDiff, Nat.reduceAdd, Nat.reduceMul, Nat.reduceSub, Nat.reduceLeDiff, Nat.reduceLT, Int.reduceEq, Int.reduceLT, Int.reduceLE, Int.reduceAdd, Int.reduceSub, Int.reduceNeg, reduceCtorEq, Nat.reduceShiftRight, Nat.reduceAnd, Nat.reduceBNe, hr1, b3, b4, v3, v4, o1, o2, c12]
          refine W_drawn hr1 _ (by simp) ?_
          simp only [List.nil_append, List.cons_append, List.length_nil, List.length_cons, List.replicate_succ, List.replicate_zero, Nat.reduceAdd]
          simp only [go_sem, ↓reduceIte, Nat.reduceMod, Nat.reduceEqDiff, Nat.reduceAdd, Nat.reduceMul, Nat.reduceSub, Nat.reduceLeDiff, Nat.reduceLT, Int.reduceEq, Int.reduceLT, Int.reduceLE, Int.reduceAdd, Int.reduceSub, Int.reduceNeg, reduceCtorEq, Nat.reduceShiftRight, Nat.reduceAnd, Nat.reduceBNe, hr1, b3, b4, v3, v4, o1, o2, ik0, lk0, ok0, pk0, qk0, oz1, oz2, fz3]
          refine W_drawn hr1 _ (by simp) ?_
          simp only [List.nil_append, List.cons_append, List.length_nil, List.length_cons, List.replicate_succ, List.replicate_zero, Nat.reduceAdd]
          have hL2 := (hL1.sx hL1.nle0 [.cells (frC X.next.toNat t.sort), .dead, .dead, .dead, .dead, .dead, .dead, .cells [.int .i64 (kidT t 0).op, ngk0, mgk0, .str (kidT t 0).name, .int .i64 (kidT t 0).sort, kvk0], .cells [.int .i64 (numT ⟨false, []⟩).op, ngz, mgz, .str (numT ⟨false, []⟩).name, .int .i64 (numT ⟨false, []⟩).sort, kvz], .dead, .dead, .dead, .dead, .dead, .dead, .dead, .dead, .dead, .dead, .dead, .dead, .dead, .dead, .dead, .dead, .dead, .dead] [0, 7, 8, 16, 21, 23, 25] (by simp) (by simp) (by decide)).le (K' := 129) (by simp)
          generalize hτ2 : Sx τ1 [.cells (frC X.next.toNat t.sort), .dead, .dead, .dead, .dead, .dead, .dead, .cells [.int .i64 (kidT t 0).op, ngk0, mgk0, .str (kidT t 0).name, .int .i64 (kidT t 0).sort, kvk0], .cells [.int .i64 (numT ⟨false, []⟩).op, ngz, mgz, .str (numT ⟨false, []⟩).name, .int .i64 (numT ⟨false, []⟩).sort, kvz], .dead, .dead, .dead, .dead, .dead, .dead, .dead, .dead, .dead, .dead, .dead, .dead, .dead, .dead, .dead, .dead, .dead, .dead] = τ2 at hL2 ⊢
          have w2v : τ2.obj (nm τ1 0) = .cells (frC X.next.toNat t.sort) := hL2.get 2 rfl rfl
          have w2k0 : τ2.obj (nm τ1 7) = .cells [.int .i64 (kidT t 0).op, ngk0, mgk0, .str (kidT t 0).name, .int .i64 (kidT t 0).sort, kvk0] := hL2.get 3 rfl rfl
          have w2z : τ2.obj (nm τ1 8) = .cells [.int .i64 (numT ⟨false, []⟩).op, ngz, mgz, .str (numT ⟨false, []⟩).name, .int .i64 (numT ⟨false, []⟩).sort, kvz] := hL2.get 4 rfl rfl
          have hp2 := hL2.put hsn 5 (i := nm τ1 16) rfl (.cells ([.int .i64 (kidT t 0).op, ngk0, mgk0, .str (kidT t 0).name, .int .i64 (kidT t 0).sort, kvk0] ++ [.int .i64 (numT ⟨false, []⟩).op, ngz, mgz, .str (numT ⟨false, []⟩).name, .int .i64 (numT ⟨false, []⟩).sort, kvz]))
          obtain ⟨ngl1, mgl1, kvl1, τ3, f3, ol1, pl1, ql1, rl1, hL3⟩ := hp2.make2 (hsk (K := 129) (by omega)) 20 (5) (i := nm τ1 16) rfl (c1 := [.int .i64 (kidT t 0).op, ngk0, mgk0, .str (kidT t 0).name, .int .i64 (kidT t 0).sort, kvk0]) (c2 := [.int .i64 (numT ⟨false, []⟩).op, ngz, mgz, .str (numT ⟨false, []⟩).name, .int .i64 (numT ⟨false, []⟩).sort, kvz]) rfl rk0 rz tk0 tz
          have tl1 : (makeT 20 [kidT t 0, numT ⟨false, []⟩]).tame := makeT_tame ⟨tk0, tz, trivial⟩
          try simp only [List.cons_append, List.nil_append] at f3
          simp only [go_sem, ↓reduceIte, Nat.reduceMod, Nat.reduceEqDiff, Nat.reduceAdd, Nat.reduceMul, Nat.reduceSub, Nat.reduceLeDiff, Nat.reduceLT, Int.reduceEq, Int.reduceLT, Int.reduceLE, Int.reduceAdd, Int.reduceSub, Int.reduceNeg, reduceCtorEq, Nat.reduceShiftRight, Nat.reduceAnd, Nat.reduceBNe, hr1, w2v, w2k0, w2z, ik0, lk0, ok0, pk0, qk0, oz1, oz2, ol1, pl1, ql1, f3, nm_val, mk_obj, splice0_12, splice6_12]
          have w3v : τ3.obj (nm τ1 0) = .cells (frC X.next.toNat t.sort) := hL3.get 2 rfl rfl
          have w3k0 : τ3.obj (nm τ1 7) = .cells [.int .i64 (kidT t 0).op, ngk0, mgk0, .str (kidT t 0).name, .int .i64 (kidT t 0).sort, kvk0] := hL3.get 3 rfl rfl
          have w3z : τ3.obj (nm τ1 8) = .cells [.int .i64 (numT ⟨false, []⟩).op, ngz, mgz, .str (numT ⟨false, []⟩).name, .int .i64 (numT ⟨false, []⟩).sort, kvz] := hL3.get 4 rfl rfl
          have hp3 := hL3.put hsn 6 (i := nm τ1 21) rfl (.cells ((frC X.next.toNat t.sort) ++ [.int .i64 (kidT t 0).op, ngk0, mgk0, .str (kidT t 0).name, .int .i64 (kidT t 0).sort, kvk0]))
          obtain ⟨nge1, mge1, kve1, τ4, f4, oe1, pe1, qe1, re1, hL4⟩ := hp3.make2 (hsk (K := 229) (by omega)) 10 (6) (i := nm τ1 21) rfl (c1 := (frC X.next.toNat t.sort)) (c2 := [.int .i64 (kidT t 0).op, ngk0, mgk0, .str (kidT t 0).name, .int .i64 (kidT t 0).sort, kvk0]) rfl hfr rk0 hftm tk0
          have te1 : (makeT 10 [frT X.next.toNat t.sort, kidT t 0]).tame := makeT_tame ⟨hftm, tk0, trivial⟩
          try simp only [List.cons_append, List.nil_append] at f4
          simp only [go_sem, ↓reduceIte, Nat.reduceMod, Nat.reduceEqDiff, Nat.reduceAdd, Nat.reduceMul, Nat.reduceSub, Nat.reduceLeDiff, Nat.reduceLT, Int.reduceEq, Int.reduceLT, Int.reduceLE, Int.reduceAdd, Int.reduceSub, Int.reduceNeg, reduceCtorEq, Nat.reduceShiftRight, Nat.reduceAnd, Nat.reduceBNe, hr1, w2v, w2k0, w2z, w3v, w3k0, w3z, ik0, lk0, ok0, pk0, qk0, oz1, oz2, ol1, pl1, ql1, oe1, pe1, qe1, f4, nm_val, mk_obj, splice0_12, splice6_12]
          have w4v : τ4.obj (nm τ1 0) = .cells (frC X.next.toNat t.sort) := hL4.get 2 rfl rfl
          have w4k0 : τ4.obj (nm τ1 7) = .cells [.int .i64 (kidT t 0).op, ngk0, mgk0, .str (kidT t 0).name, .int .i64 (kidT t 0).sort, kvk0] := hL4.get 3 rfl rfl
          have w4z : τ4.obj (nm τ1 8) = .cells [.int .i64 (numT ⟨false, []⟩).op, ngz, mgz, .str (numT ⟨false, []⟩).name, .int .i64 (numT ⟨false, []⟩).sort, kvz] := hL4.get 4 rfl rfl
          have hp4 := hL4.put hsn 7 (i := nm τ1 23) rfl (.cells ([.int .i64 (makeT 20 [kidT t 0, numT ⟨false, []⟩]).op, ngl1, mgl1, .str (makeT 20 [kidT t 0, numT ⟨false, []⟩]).name, .int .i64 (makeT 20 [kidT t 0, numT ⟨false, []⟩]).sort, kvl1] ++ [.int .i64 (makeT 10 [frT X.next.toNat t.sort, kidT t 0]).op, nge1, mge1, .str (makeT 10 [frT X.next.toNat t.sort, kidT t 0]).name, .int .i64 (makeT 10 [frT X.next.toNat t.sort, kidT t 0]).sort, kve1]))
          obtain ⟨ngo1, mgo1, kvo1, τ5, f5, oo1, po1, qo1, ro1, hL5⟩ := hp4.make2 (hsk (K := 329) (by omega)) 7 (7) (i := nm τ1 23) rfl (c1 := [.int .i64 (makeT 20 [kidT t 0, numT ⟨false, []⟩]).op, ngl1, mgl1, .str (makeT 20 [kidT t 0, numT ⟨false, []⟩]).name, .int .i64 (makeT 20 [kidT t 0, numT ⟨false, []⟩]).sort, kvl1]) (c2 := [.int .i64 (makeT 10 [frT X.next.toNat t.sort, kidT t 0]).op, nge1, mge1, .str (makeT 10 [frT X.next.toNat t.sort, kidT t 0]).name, .int .i64 (makeT 10 [frT X.next.toNat t.sort, kidT t 0]).sort, kve1]) rfl rl1 re1 tl1 te1
          have to1 : (makeT 7 [makeT 20 [kidT t 0, numT ⟨false, []⟩], makeT 10 [frT X.next.toNat t.sort, kidT t 0]]).tame := makeT_tame ⟨tl1, te1, trivial⟩
          try simp only [List.cons_append, List.nil_append] at f5
          simp only [go_sem, ↓reduceIte, Nat.reduceMod, Nat.reduceEqDiff, Nat.reduceAdd, Nat.reduceMul, Nat.reduceSub, Nat.reduceLeDiff, Nat.reduceLT, Int.reduceEq, Int.reduceLT, Int.reduceLE, Int.reduceAdd, Int.reduceSub, Int.reduceNeg, reduceCtorEq, Nat.reduceShiftRight, Nat.reduceAnd, Nat.reduceBNe, hr1, w2v, w2k0, w2z, w3v, w3k0, w3z, w4v, w4k0, w4z, ik0, lk0, ok0, pk0, qk0, oz1, oz2, ol1, pl1, ql1, oe1, pe1, qe1, oo1, po1, qo1, f5, nm_val, mk_obj, splice0_12, splice6_12]
          have w5v : τ5.obj (nm τ1 0) = .cells (frC X.next.toNat t.sort) := hL5.get 2 rfl rfl
          have w5k0 : τ5.obj (nm τ1 7) = .cells [.int .i64 (kidT t 0).op, ngk0, mgk0, .str (kidT t 0).name, .int .i64 (kidT t 0).sort, kvk0] := hL5.get 3 rfl rfl
          have w5z : τ5.obj (nm τ1 8) = .cells [.int .i64 (numT ⟨false, []⟩).op, ngz, mgz, .str (numT ⟨false, []⟩).name, .int .i64 (numT ⟨false, []⟩).sort, kvz] := hL5.get 4 rfl rfl
          have hp5 := hL5.put hsn 8 (i := nm τ1 25) rfl (.cells ([.int .i64 (makeT 7 [makeT 20 [kidT t 0, numT ⟨false, []⟩], makeT 10 [frT X.next.toNat t.sort, kidT t 0]]).op, ngo1, mgo1, .str (makeT 7 [makeT 20 [kidT t 0, numT ⟨false, []⟩], makeT 10 [frT X.next.toNat t.sort, kidT t 0]]).name, .int .i64 (makeT 7 [makeT 20 [kidT t 0, numT ⟨false, []⟩], makeT 10 [frT X.next.toNat t.sort, kidT t 0]]).sort, kvo1]))
          obtain ⟨τ6, f6, hL6⟩ := hp5.hold1 (8) (i := nm τ1 25) rfl (c1 := [.int .i64 (makeT 7 [makeT 20 [kidT t 0, numT ⟨false, []⟩], makeT 10 [frT X.next.toNat t.sort, kidT t 0]]).op, ngo1, mgo1, .str (makeT 7 [makeT 20 [kidT t 0, numT ⟨false, []⟩], makeT 10 [frT X.next.toNat t.sort, kidT t 0]]).name, .int .i64 (makeT 7 [makeT 20 [kidT t 0, numT ⟨false, []⟩], makeT 10 [frT X.next.toNat t.sort, kidT t 0]]).sort, kvo1]) rfl ro1 (by simp; omega)
          try simp only [List.cons_append, List.nil_append] at f6
          simp only [go_sem, ↓reduceIte, Nat.reduceMod, Nat.reduceEqDiff, Nat.reduceAdd, Nat.reduceMul, Nat.reduceSub, Nat.reduceLeDiff, Nat.reduceLT, Int.reduceEq, Int.reduceLT, Int.reduceLE, Int.reduceAdd, Int.reduceSub, Int.reduceNeg, reduceCtorEq, Nat.reduceShiftRight, Nat.reduceAnd, Nat.reduceBNe, hr1, w2v, w2k0, w2z, w3v, w3k0, w3z, w4v, w4k0, w4z, w5v, w5k0, w5z, ik0, lk0, ok0, pk0, qk0, oz1, oz2, ol1, pl1, ql1, oe1, pe1, qe1, oo1, po1, qo1, f6, nm_val, mk_obj, splice0_12, splice6_12]
          rw [← Sx_nil τ6]
          have hR6 := hL6.room
          refine W_drawn hL6.room _ (by simp) ?_
          simp only [List.nil_append, List.cons_append, List.length_nil, List.length_cons, List.replicate_succ, List.replicate_zero, Nat.reduceAdd]
          have hL7 := (hL6.sx hL6.nle0 [.dead, .dead, .dead, .dead, .dead, .dead, .dead, .dead, .dead, .dead, .dead, .dead, .dead, .dead, .dead, .dead, .dead, .dead, .dead] [5, 11, 13, 15, 17] (by simp) (by simp) (by decide)).le (K' := 548) (by simp)
          generalize hτ7 : Sx τ6 [.dead, .dead, .dead, .dead, .dead, .dead, .dead, .dead, .dead, .dead, .dead, .dead, .dead, .dead, .dead, .dead, .dead, .dead, .dead] = τ7 at hL7 ⊢
          have w7v : τ7.obj (nm τ1 0) = .cells (frC X.next.toNat t.sort) := hL7.get 2 rfl rfl
          have w7k0 : τ7.obj (nm τ1 7) = .cells [.int .i64 (kidT t 0).op, ngk0, mgk0, .str (kidT t 0).name, .int .i64 (kidT t 0).sort, kvk0] := hL7.get 3 rfl rfl
          have w7z : τ7.obj (nm τ1 8) = .cells [.int .i64 (numT ⟨false, []⟩).op, ngz, mgz, .str (numT ⟨false, []⟩).name, .int .i64 (numT ⟨false, []⟩).sort, kvz] := hL7.get 4 rfl rfl
          have hp7 := hL7.put hsn 9 (i := nm τ6 5) rfl (.cells ([.int .i64 (kidT t 0).op, ngk0, mgk0, .str (kidT t 0).name, .int .i64 (kidT t 0).sort, kvk0] ++ [.int .i64 (numT ⟨false, []⟩).op, ngz, mgz, .str (numT ⟨false, []⟩).name, .int .i64 (numT ⟨false, []⟩).sort, kvz]))
          obtain ⟨ngl2, mgl2, kvl2, τ8, f8, ol2, pl2, ql2, rl2, hL8⟩ := hp7.make2 (hsk (K := 548) (by omega)) 21 (9) (i := nm τ6 5) rfl (c1 := [.int .i64 (kidT t 0).op, ngk0, mgk0, .str (kidT t 0).name, .int .i64 (kidT t 0).sort, kvk0]) (c2 := [.int .i64 (numT ⟨false, []⟩).op, ngz, mgz, .str (numT ⟨false, []⟩).name, .int .i64 (numT ⟨false, []⟩).sort, kvz]) rfl rk0 rz tk0 tz
          have tl2 : (makeT 21 [kidT t 0, numT ⟨false, []⟩]).tame := makeT_tame ⟨tk0, tz, trivial⟩
          try simp only [List.cons_append, List.nil_append] at f8
          simp only [go_sem, ↓reduceIte, Nat.reduceMod, Nat.reduceEqDiff, Nat.reduceAdd, Nat.reduceMul, Nat.reduceSub, Nat.reduceLeDiff, Nat.reduceLT, Int.reduceEq, Int.reduceLT, Int.reduceLE, Int.reduceAdd, Int.reduceSub, Int.reduceNeg, reduceCtorEq, Nat.reduceShiftRight, Nat.reduceAnd, Nat.reduceBNe, hR6, w7v, w7k0, w7z, ik0, lk0, ok0, pk0, qk0, oz1, oz2, ol1, pl1, ql1, oe1, pe1, qe1, oo1, po1, qo1, ol2, pl2, ql2, f8, nm_val, mk_obj, splice0_12, splice6_12]
          have w8v : τ8.obj (nm τ1 0) = .cells (frC X.next.toNat t.sort) := hL8.get 2 rfl rfl
          have w8k0 : τ8.obj (nm τ1 7) = .cells [.int .i64 (kidT t 0).op, ngk0, mgk0, .str (kidT t 0).name, .int .i64 (kidT t 0).sort, kvk0] := hL8.get 3 rfl rfl
          have w8z : τ8.obj (nm τ1 8) = .cells [.int .i64 (numT ⟨false, []⟩).op, ngz, mgz, .str (numT ⟨false, []⟩).name, .int .i64 (numT ⟨false, []⟩).sort, kvz] := hL8.get 4 rfl rfl
          have hp8 := hL8.put hsn 10 (i := nm τ6 11) rfl (.cells ([.int .i64 (kidT t 0).op, ngk0, mgk0, .str (kidT t 0).name, .int .i64 (kidT t 0).sort, kvk0]))
          obtain ⟨ngs2, mgs2, kvs2, τ9, f9, os2, ps2, qs2, rs2, hL9⟩ := hp8.make1 (hsk (K := 648) (by omega)) 14 (10) (i := nm τ6 11) rfl (c1 := [.int .i64 (kidT t 0).op, ngk0, mgk0, .str (kidT t 0).name, .int .i64 (kidT t 0).sort, kvk0]) rfl rk0 tk0
          have ts2 : (makeT 14 [kidT t 0]).tame := makeT_tame ⟨tk0, trivial⟩
          try simp only [List.cons_append, List.nil_append] at f9
          simp only [go_sem, ↓reduceIte, Nat.reduceMod, Nat.reduceEqDiff, Nat.reduceAdd, Nat.reduceMul, Nat.reduceSub, Nat.reduceLeDiff, Nat.reduceLT, Int.reduceEq, Int.reduceLT, Int.reduceLE, Int.reduceAdd, Int.reduceSub, Int.reduceNeg, reduceCtorEq, Nat.reduceShiftRight, Nat.reduceAnd, Nat.reduceBNe, hR6, w7v, w7k0, w7z, w8v, w8k0, w8z, ik0, lk0, ok0, pk0, qk0, oz1, oz2, ol1, pl1, ql1, oe1, pe1, qe1, oo1, po1, qo1, ol2, pl2, ql2, os2, ps2, qs2, f9, nm_val, mk_obj, splice0_12, splice6_12]
          have w9v : τ9.obj (nm τ1 0) = .cells (frC X.next.toNat t.sort) := hL9.get 2 rfl rfl
          have w9k0 : τ9.obj (nm τ1 7) = .cells [.int .i64 (kidT t 0).op, ngk0, mgk0, .str (kidT t 0).name, .int .i64 (kidT t 0).sort, kvk0] := hL9.get 3 rfl rfl
          have w9z : τ9.obj (nm τ1 8) = .cells [.int .i64 (numT ⟨false, []⟩).op, ngz, mgz, .str (numT ⟨false, []⟩).name, .int .i64 (numT ⟨false, []⟩).sort, kvz] := hL9.get 4 rfl rfl
          have hp9 := hL9.put hsn 11 (i := nm τ6 13) rfl (.cells ((frC X.next.toNat t.sort) ++ [.int .i64 (makeT 14 [kidT t 0]).op, ngs2, mgs2, .str (makeT 14 [kidT t 0]).name, .int .i64 (makeT 14 [kidT t 0]).sort, kvs2]))
          obtain ⟨nge2, mge2, kve2, τ10, f10, oe2, pe2, qe2, re2, hL10⟩ := hp9.make2 (hsk (K := 748) (by omega)) 10 (11) (i := nm τ6 13) rfl (c1 := (frC X.next.toNat t.sort)) (c2 := [.int .i64 (makeT 14 [kidT t 0]).op, ngs2, mgs2, .str (makeT 14 [kidT t 0]).name, .int .i64 (makeT 14 [kidT t 0]).sort, kvs2]) rfl hfr rs2 hftm ts2
          have te2 : (makeT 10 [frT X.next.toNat t.sort, makeT 14 [kidT t 0]]).tame := makeT_tame ⟨hftm, ts2, trivial⟩
          try simp only [List.cons_append, List.nil_append] at f10
          simp only [go_sem, ↓reduceIte, Nat.reduceMod, Nat.reduceEqDiff, Nat.reduceAdd, Nat.reduceMul, Nat.reduceSub, Nat.reduceLeDiff, Nat.reduceLT, Int.reduceEq, Int.reduceLT, Int.reduceLE, Int.reduceAdd, Int.reduceSub, Int.reduceNeg, reduceCtorEq, Nat.reduceShiftRight, Nat.reduceAnd, Nat.reduceBNe, hR6, w7v, w7k0, w7z, w8v, w8k0, w8z, w9v, w9k0, w9z, ik0, lk0, ok0, pk0, qk0, oz1, oz2, ol1, pl1, ql1, oe1, pe1, qe1, oo1, po1, qo1, ol2, pl2, ql2, os2, ps2, qs2, oe2, pe2, qe2, f10, nm_val, mk_obj, splice0_12, splice6_12]
          have w10v : τ10.obj (nm τ1 0) = .cells (frC X.next.toNat t.sort) := hL10.get 2 rfl rfl
          have w10k0 : τ10.obj (nm τ1 7) = .cells [.int .i64 (kidT t 0).op, ngk0, mgk0, .str (kidT t 0).name, .int .i64 (kidT t 0).sort, kvk0] := hL10.get 3 rfl rfl
          have w10z : τ10.obj (nm τ1 8) = .cells [.int .i64 (numT ⟨false, []⟩).op, ngz, mgz, .str (numT ⟨false, []⟩).name, .int .i64 (numT ⟨false, []⟩).sort, kvz] := hL10.get 4 rfl rfl
          have hp10 := hL10.put hsn 12 (i := nm τ6 15) rfl (.cells ([.int .i64 (makeT 21 [kidT t 0, numT ⟨false, []⟩]).op, ngl2, mgl2, .str (makeT 21 [kidT t 0, numT ⟨false, []⟩]).name, .int .i64 (makeT 21 [kidT t 0, numT ⟨false, []⟩]).sort, kvl2] ++ [.int .i64 (makeT 10 [frT X.next.toNat t.sort, makeT 14 [kidT t 0]]).op, nge2, mge2, .str (makeT 10 [frT X.next.toNat t.sort, makeT 14 [kidT t 0]]).name, .int .i64 (makeT 10 [frT X.next.toNat t.sort, makeT 14 [kidT t 0]]).sort, kve2]))
          obtain ⟨ngo2, mgo2, kvo2, τ11, f11, oo2, po2, qo2, ro2, hL11⟩ := hp10.make2 (hsk (K := 848) (by omega)) 7 (12) (i := nm τ6 15) rfl (c1 := [.int .i64 (makeT 21 [kidT t 0, numT ⟨false, []⟩]).op, ngl2, mgl2, .str (makeT 21 [kidT t 0, numT ⟨false, []⟩]).name, .int .i64 (makeT 21 [kidT t 0, numT ⟨false, []⟩]).sort, kvl2]) (c2 := [.int .i64 (makeT 10 [frT X.next.toNat t.sort, makeT 14 [kidT t 0]]).op, nge2, mge2, .str (makeT 10 [frT X.next.toNat t.sort, makeT 14 [kidT t 0]]).name, .int .i64 (makeT 10 [frT X.next.toNat t.sort, makeT 14 [kidT t 0]]).sort, kve2]) rfl rl2 re2 tl2 te2
          have to2 : (makeT 7 [makeT 21 [kidT t 0, numT ⟨false, []⟩], makeT 10 [frT X.next.toNat t.sort, makeT 14 [kidT t 0]]]).tame := makeT_tame ⟨tl2, te2, trivial⟩
          try simp only [List.cons_append, List.nil_append] at f11
          simp only [go_sem, ↓reduceIte, Nat.reduceMod, Nat.reduceEqDiff, Nat.reduceAdd, Nat.reduceMul, Nat.reduceSub, Nat.reduceLeDiff, Nat.reduceLT, Int.reduceEq, Int.reduceLT, Int.reduceLE, Int.reduceAdd, Int.reduceSub, Int.reduceNeg, reduceCtorEq, Nat.reduceShiftRight, Nat.reduceAnd, Nat.reduceBNe, hR6, w7v, w7k0, w7z, w8v, w8k0, w8z, w9v, w9k0, w9z, w10v, w10k0, w10z, ik0, lk0, ok0, pk0, qk0, oz1, oz2, ol1, pl1, ql1, oe1, pe1, qe1, oo1, po1, qo1, ol2, pl2, ql2, os2, ps2, qs2, oe2, pe2, qe2, oo2, po2, qo2, f11, nm_val, mk_obj, splice0_12, splice6_12]
          have w11v : τ11.obj (nm τ1 0) = .cells (frC X.next.toNat t.sort) := hL11.get 2 rfl rfl
          have w11k0 : τ11.obj (nm τ1 7) = .cells [.int .i64 (kidT t 0).op, ngk0, mgk0, .str (kidT t 0).name, .int .i64 (kidT t 0).sort, kvk0] := hL11.get 3 rfl rfl
          have w11z : τ11.obj (nm τ1 8) = .cells [.int .i64 (numT ⟨false, []⟩).op, ngz, mgz, .str (numT ⟨false, []⟩).name, .int .i64 (numT ⟨false, []⟩).sort, kvz] := hL11.get 4 rfl rfl
          have hp11 := hL11.put hsn 13 (i := nm τ6 17) rfl (.cells ([.int .i64 (makeT 7 [makeT 21 [kidT t 0, numT ⟨false, []⟩], makeT 10 [frT X.next.toNat t.sort, makeT 14 [kidT t 0]]]).op, ngo2, mgo2, .str (makeT 7 [makeT 21 [kidT t 0, numT ⟨false, []⟩], makeT 10 [frT X.next.toNat t.sort, makeT 14 [kidT t 0]]]).name, .int .i64 (makeT 7 [makeT 21 [kidT t 0, numT ⟨false, []⟩], makeT 10 [frT X.next.toNat t.sort, makeT 14 [kidT t 0]]]).sort, kvo2]))
          obtain ⟨τ12, f12, hL12⟩ := hp11.hold1 (13) (i := nm τ6 17) rfl (c1 := [.int .i64 (makeT 7 [makeT 21 [kidT t 0, numT ⟨false, []⟩], makeT 10 [frT X.next.toNat t.sort, makeT 14 [kidT t 0]]]).op, ngo2, mgo2, .str (makeT 7 [makeT 21 [kidT t 0, numT ⟨false, []⟩], makeT 10 [frT X.next.toNat t.sort, makeT 14 [kidT t 0]]]).name, .int .i64 (makeT 7 [makeT 21 [kidT t 0, numT ⟨false, []⟩], makeT 10 [frT X.next.toNat t.sort, makeT 14 [kidT t 0]]]).sort, kvo2]) rfl ro2 (by simp; omega)
          try simp only [List.cons_append, List.nil_append] at f12
          simp only [go_sem, ↓reduceIte, Nat.reduceMod, Nat.reduceEqDiff, Nat.reduceAdd, Nat.reduceMul, Nat.reduceSub, Nat.reduceLeDiff, Nat.reduceLT, Int.reduceEq, Int.reduceLT, Int.reduceLE, Int.reduceAdd, Int.reduceSub, Int.reduceNeg, reduceCtorEq, Nat.reduceShiftRight, Nat.reduceAnd, Nat.reduceBNe, hR6, w7v, w7k0, w7z, w8v, w8k0, w8z, w9v, w9k0, w9z, w10v, w10k0, w10z, w11v, w11k0, w11z, ik0, lk0, ok0, pk0, qk0, oz1, oz2, ol1, pl1, ql1, oe1, pe1, qe1, oo1, po1, qo1, ol2, pl2, ql2, os2, ps2, qs2, oe2, pe2, qe2, oo2, po2, qo2, f12, nm_val, mk_obj, splice0_12, splice6_12]
          rw [← Sx_nil τ12]
          have w12v : τ12.obj (nm τ1 0) = .cells (frC X.next.toNat t.sort) := hL12.get 2 rfl rfl
          have l12v := hL12.lt 2 (i := nm τ1 0) rfl
          have w12r : τ12.obj (nm σ 1) = .cells zeroC := hL12.get 1 rfl rfl
          have l12r := hL12.lt 1 (i := nm σ 1) rfl
          have hrr := hL12.room
          simp only [go_sem, ↓reduceIte, Nat.reduceMod, Nat.reduceEqDiff, Nat.reduceAdd, Nat.reduceMul, Nat.reduceSub, Nat.reduceLeDiff, Nat.reduceLT, Int.reduceEq, Int.reduceLT, Int.reduceLE, Int.reduceAdd, Int.reduceSub, Int.reduceNeg, reduceCtorEq, Nat.reduceShiftRight, Nat.reduceAnd, Nat.reduceBNe, hrr, w12v, l12v, w12r, l12r]
          refine ⟨ov_agg hovr, _, ⟨_, rfl, ?_, rfl⟩, ?_⟩
          · rw [show liftsX X t = absX X t by simp [liftsX, hf, hct, c12]]; exact hfr
          · rw [show liftsX X t = absX X t by simp [liftsX, hf, hct, c12]]
            have hq := (hL12.put hsn 1 (i := nm σ 1) rfl (.cells (frC X.next.toNat t.sort))).le (K' := 2000) (by simp)
            rw [Sx_nil]
            exact hq.done
    · rw [hf] at ob
      simp only [go_sem, ↓reduceIte, Nat.reduceMod, Nat.reduceEqDiff, Nat.reduceAdd, Nat.reduceMul, Nat.reduceSub, Nat.reduceLeDiff, Nat.reduceLT, Int.reduceEq, Int.reduceLT, Int.reduceLE, Int.reduceAdd, Int.reduceSub, Int.reduceNeg, reduceCtorEq, Nat.reduceShiftRight, Nat.reduceAnd, Nat.reduceBNe, hr, hb, ob, o1, o2, k1]
      refine ⟨ov_agg hov, _, ⟨_, rfl, ?_, rfl⟩, ?_⟩
      · rw [show liftsX X t = (t, X) by simp [liftsX, hf]]; exact hc7
      · rw [show liftsX X t = (t, X) by simp [liftsX, hf]]
        exact (((Loc.start h).sx (Nat.le_refl _) [.cells [.int .i64 t.op, ng, mg, .str t.name, .int .i64 t.sort, kv], .cells [.int .i64 t.op, ng, mg, .str t.name, .int .i64 t.sort, kv]] [] (by simp) (by simp) (by simp)).le (by simp)).done
  obtain ⟨r, σ', X', e1, ⟨cs', rfl, e2, rfl⟩, e3⟩ := key
  exact ⟨cs', σ', e1, e2, e3⟩
end
end Go.Proofs.YtfndnjmnakdglaaGreatDoor
namespace Go.Proofs.YtfndnjmnakdglaaGreatDoor
open Go Go.Vm
set_option linter.unusedVariables false
set_option linter.unusedSimpArgs false
theorem vcallv_cap (call : CallT) (g : Vm.Id) (a : AV) (l : List AV) (s : St) : vcallv call (.fn g [a] []) l s = call g (a :: l) s := by
  show call g (apd [a] (apd l [])) s = _
  rw [apd_eq, apd_eq, List.append_nil]; rfl
structure Bud (X : MV) (m : Nat) : Prop where
  n0 : 0 ≤ X.next
  n1 : X.next + 2 * m ≤ 900000000
  m1 : X.means.length + 2 * m ≤ 900000
  h1 : X.holds.length + 8 * m ≤ 900000
theorem Bud.le {X : MV} {m k : Nat} (h : Bud X m) (hk : k ≤ m) : Bud X k := ⟨h.n0, by have := h.n1; omega, by have := h.m1; omega, by have := h.h1; omega⟩
structure ChOk (ch : MV → T → T × MV) : Prop where
  bud : ∀ X t m, Bud X (m + 1) → Bud (ch X t).2 m
  tame : ∀ X t, Bud X 1 → t.tame → (ch X t).1.tame
  fails : ∀ X t, X.fails = true → (ch X t).2.fails = true
mutual
def walkT (ch : MV → T → T × MV) : T → MV → T × MV
  | .mk op n nm so kids, X =>
    if kids = [] ∨ X.fails = true then ch X (.mk op n nm so kids)
    else if op ≠ 4 then ch (mkX (walkTs ch kids X).2 op (walkTs ch kids X).1) (makeT op (walkTs ch kids X).1)
    else ch {(walkTs ch kids X).2 with fails := (walkTs ch kids X).2.fails || decide (appE ⟨nm, kids.map T.sort, so⟩ (walkTs ch kids X).1 ≠ 0)} (appT ⟨nm, kids.map T.sort, so⟩ (walkTs ch kids X).1)
def walkTs (ch : MV → T → T × MV) : List T → MV → List T × MV
  | [], X => ([], X)
  | t :: l, X => ((walkT ch t X).1 :: (walkTs ch l (walkT ch t X).2).1, (walkTs ch l (walkT ch t X).2).2)
end
theorem walkT_eq (ch : MV → T → T × MV) (t : T) (X : MV) : walkT ch t X = if t.kids = [] ∨ X.fails = true then ch X t
    else if t.op ≠ 4 then ch (mkX (walkTs ch t.kids X).2 t.op (walkTs ch t.kids X).1) (makeT t.op (walkTs ch t.kids X).1)
    else ch {(walkTs ch t.kids X).2 with fails := (walkTs ch t.kids X).2.fails || decide (appE ⟨t.name, t.kids.map T.sort, t.sort⟩ (walkTs ch t.kids X).1 ≠ 0)} (appT ⟨t.name, t.kids.map T.sort, t.sort⟩ (walkTs ch t.kids X).1) := by
  cases t; rw [walkT]; rfl
theorem walkTs_snoc (ch : MV → T → T × MV) (l : List T) (t : T) : ∀ X, walkTs ch (l ++ [t]) X = ((walkTs ch l X).1 ++ [(walkT ch t (walkTs ch l X).2).1], (walkT ch t (walkTs ch l X).2).2) := by
  induction l with
  | nil => intro X; simp [walkTs]
  | cons a l ih => intro X; simp only [List.cons_append, walkTs]; rw [ih]
theorem walkTs_take (ch : MV → T → T × MV) (l : List T) (X : MV) {i : Nat} (h : i < l.length) : walkTs ch (l.take (i + 1)) X = ((walkTs ch (l.take i) X).1 ++ [(walkT ch l[i] (walkTs ch (l.take i) X).2).1], (walkT ch l[i] (walkTs ch (l.take i) X).2).2) := by
  rw [← List.take_append_getElem h, walkTs_snoc]
theorem walkTs_len (ch : MV → T → T × MV) (l : List T) : ∀ X, (walkTs ch l X).1.length = l.length := by
  induction l with
  | nil => intro X; rfl
  | cons a l ih => intro X; simp only [walkTs, List.length_cons]; rw [ih]
theorem bud_mk {X : MV} {m : Nat} (h : Bud X m) (op : Int) (l : List T) : Bud (mkX X op l) m := ⟨h.n0, h.n1, h.m1, h.h1⟩
theorem bud_fl {X : MV} {m : Nat} (h : Bud X m) (c : Bool) : Bud {X with fails := c} m := ⟨h.n0, h.n1, h.m1, h.h1⟩
theorem appT_tame {g : Sg} {l : List T} (h : T.tames l) (hg : g.name.length ≤ 1000) : (appT g l).tame := by
  unfold appT
  split
  · exact ⟨by simp, hg, h⟩
  · exact ⟨by simp, by simp, trivial⟩
theorem T.size_pos (t : T) : 1 ≤ t.size := by cases t; simp [T.size]
section
variable {ch : MV → T → T × MV} (hch : ChOk ch)
include hch
theorem walk_plain : ∀ (n : Nat), (∀ (t : T), t.size ≤ n → t.tame → ∀ (X : MV) (m : Nat), Bud X (m + t.size) → Bud (walkT ch t X).2 m ∧ (walkT ch t X).1.tame ∧ (X.fails = true → (walkT ch t X).2.fails = true)) ∧
    (∀ (l : List T), T.sizes l ≤ n → T.tames l → ∀ (X : MV) (m : Nat), Bud X (m + T.sizes l) → Bud (walkTs ch l X).2 m ∧ T.tames (walkTs ch l X).1 ∧ (X.fails = true → (walkTs ch l X).2.fails = true)) := by
  intro n
  induction n with
  | zero =>
    refine ⟨fun t ht => by have := T.size_pos t; omega, fun l hl ht X m hb => ?_⟩
    have hlen := T.length_le l
    have e : l = [] := List.eq_nil_of_length_eq_zero (by omega)
    subst e
    exact ⟨hb.le (by omega), trivial, fun h => h⟩
  | succ n ih =>
    have h1 : ∀ (t : T), t.size ≤ n + 1 → t.tame → ∀ (X : MV) (m : Nat), Bud X (m + t.size) → Bud (walkT ch t X).2 m ∧ (walkT ch t X).1.tame ∧ (X.fails = true → (walkT ch t X).2.fails = true) := by
      intro t ht htm X m hb
      have hs := T.size_kids t
      have hk := T.tame_kids htm
      rw [walkT_eq]
      by_cases c : t.kids = [] ∨ X.fails = true
      · rw [if_pos c]
        exact ⟨hch.bud X t m (hb.le (by omega)), hch.tame X t (hb.le (by omega)) htm, hch.fails X t⟩
      · rw [if_neg c]
        obtain ⟨b1, b2, b3⟩ := ih.2 t.kids (by omega) hk.2 X (m + 1) (hb.le (by omega))
        by_cases c4 : t.op ≠ 4
        · rw [if_pos c4]
          have hm := makeT_tame (op := t.op) b2
          exact ⟨hch.bud _ _ m (bud_mk b1 _ _), hch.tame _ _ ((bud_mk b1 _ _).le (by omega)) hm, fun hf => hch.fails _ _ (by show (_ || _) = true; rw [b3 hf]; rfl)⟩
        · rw [if_neg c4]
          have hm := appT_tame (g := ⟨t.name, t.kids.map T.sort, t.sort⟩) b2 (T.tame_name htm)
          exact ⟨hch.bud _ _ m (bud_fl b1 _), hch.tame _ _ ((bud_fl b1 _).le (by omega)) hm, fun hf => hch.fails _ _ (by show (_ || _) = true; rw [b3 hf]; rfl)⟩
    refine ⟨h1, fun l hl ht X m hb => ?_⟩
    induction l generalizing X with
    | nil => exact ⟨hb.le (by omega), trivial, fun h => h⟩
    | cons a l ihl =>
      simp only [T.sizes] at hl hb
      obtain ⟨b1, b2, b3⟩ := h1 a (by omega) ht.1 X (m + T.sizes l) (hb.le (by omega))
      obtain ⟨d1, d2, d3⟩ := ihl (by omega) ht.2 (walkT ch a X).2 b1
      exact ⟨d1, ⟨b2, d2⟩, fun hf => d3 (b3 hf)⟩
end
end Go.Proofs.YtfndnjmnakdglaaGreatDoor
namespace Go.Proofs.YtfndnjmnakdglaaGreatDoor
open Go Go.Vm
set_option linter.unusedVariables false
set_option linter.unusedSimpArgs false
theorem exk_to {σ σ' : St} {k : Nat} {a : AV} {cs : List AV} (h : ExK σ k a cs) (hf : ∀ i ∈ ids a, σ'.obj i = .cells cs) : ExK σ' k a cs := by
  cases h with
  | nils => exact .nils
  | sl i len _ h h1 h0 hm => exact .sl i len cs (hf i (List.mem_singleton.mpr rfl)) h1 h0 hm
theorem exk_ob {σ : St} {k : Nat} {a : AV} {cs : List AV} (h : ExK σ k a cs) : ∀ i ∈ ids a, σ.obj i = .cells cs := by
  cases h with
  | nils => intro i hi; simp [ids, AV.onSl] at hi
  | sl i' len _ h h1 h0 hm =>
    intro i hi
    have : i = i' := by simpa [ids, AV.onSl] using hi
    rw [this]; exact h
section
variable {s σ0 σ : St} {b : Vm.Id} {hv0 mv0 : AV} {K : Nat} {X : MV} {is : List Vm.Id} {os : List AO}
theorem Loc.rows {l : List Vm.Id} {o : AO} (h : Loc s σ0 hv0 mv0 K σ b X (is ++ l) (os ++ l.map fun _ => o)) (hl : is.length = os.length) : ∀ i ∈ l, σ.obj i = o := by
  intro i hi
  obtain ⟨k, hk, rfl⟩ := List.mem_iff_getElem.mp hi
  refine h.get (is.length + k) ?_ ?_
  · rw [List.getElem?_append_right (by omega), Nat.add_sub_cancel_left, List.getElem?_eq_getElem hk]
  · rw [List.getElem?_append_right (by omega), hl, Nat.add_sub_cancel_left, List.getElem?_map, List.getElem?_eq_getElem hk]; rfl
theorem Loc.app {a : AV} {cs : List AV} (h : Loc s σ0 hv0 mv0 K σ b X (is ++ ids a) (os ++ (ids a).map fun _ => .cells cs)) (hl : is.length = os.length) (hx : ExK σ 6 a cs) (hs : s.n.val ≤ σ0.n.val) {i : Vm.Id} {c1 : List AV} {t1 : T} (ho : σ.obj i = .cells c1) (h1 : RT6 s c1 t1) (hm : lenOf a + 1 ≤ 1000000) :
    ∃ a' σ', vapp 6 88 a (.sl i 0 1 1 0) σ = .ok a' σ' ∧ ExK σ' 6 a' (cs ++ c1) ∧ lenOf a' = lenOf a + 1 ∧ Loc s σ0 hv0 mv0 (K + 1) σ' b X (is ++ ids a') (os ++ (ids a').map fun _ => .cells (cs ++ c1)) := by
  obtain ⟨hv, mv, hc, mc, h⟩ := h
  have hr := h.m0.room
  have h6 := rt6_len h1
  have hrow := row_box ho 1 1 0
  obtain ⟨a', σ', e1, e2, e3, e4, e5, e6, e7⟩ := hx.app hr (by omega) (isl_box hr ho 1 1 0 (by unfold limit; omega)) (by rw [hrow, h6]; show 1 * 6 ≤ 6; omega) (by show 0 < 1; omega) 88 (by show (lenOf a + 1) * 88 ≤ _; unfold limit; omega) (by show lenOf a + 1 ≤ _; unfold limit; omega)
  rw [hrow, show lenOf (.sl i 0 1 1 0) * 6 = c1.length by rw [h6]; rfl, List.take_length] at e2
  have own : ∀ j ∈ ids a, σ0.n.val ≤ j.val ∧ j.val < σ.n.val ∧ j ∉ b :: (ids hv ++ ids mv) := fun j hj => h.own j (List.mem_append_right _ hj)
  have fr : ∀ c ∈ b :: (ids hv ++ ids mv), σ'.obj c = σ.obj c := fun c hc => e7 c (fun hm => (own c hm).2.2 hc) (h.m0.ge c hc).2
  have nd := List.nodup_append.mp h.nd
  refine ⟨a', σ', e1, e2, e6, hv, mv, hc, mc, h.m0.frame e3 ⟨by rw [e4]; have := h.m0.ext.n; omega, fun c hcn => by
      rw [e7 c (fun hm => by have := (own c hm).1; omega) (by have := h.m0.ext.n; omega)]; exact h.m0.ext.old c hcn⟩ (by omega) fr, ⟨by have := h.mw.n; omega, fun c hc hn => by
      rw [e7 c (fun hm => by have := (own c hm).1; omega) (by have := h.mw.n; omega)]; exact h.mw.old c hc hn, h.mw.foot⟩, ?_, ?_, ?_, ?_, ?_⟩
  · have := h.n; omega
  · rw [e5]; simp; omega
  · rw [e5]
    refine List.nodup_append.mpr ⟨nd.1, by simp, fun i hi j hj e => ?_⟩
    have := (h.own i (List.mem_append_left _ hi)).2.1
    rw [e, List.mem_singleton.mp hj] at this; omega
  · intro k i o q1 q2
    by_cases c : k < is.length
    · rw [List.getElem?_append_left c] at q1
      rw [List.getElem?_append_left (by omega)] at q2
      have hi := List.mem_of_getElem? q1
      rw [e7 i (fun hm => nd.2.2 i hi i hm rfl) (h.own i (List.mem_append_left _ hi)).2.1]
      exact h.ob k i o (by rw [List.getElem?_append_left c]; exact q1) (by rw [List.getElem?_append_left (by omega)]; exact q2)
    · rw [List.getElem?_append_right (by omega)] at q1
      rw [List.getElem?_append_right (by omega), ← hl, List.getElem?_map] at q2
      rw [q1] at q2
      have q2 : AO.cells (cs ++ c1) = o := by simpa using q2
      rw [← q2]
      exact exk_ob e2 i (List.mem_of_getElem? q1)
  · intro j hj
    rcases List.mem_append.mp hj with hj | hj
    · obtain ⟨p1, p2, p3⟩ := h.own j (List.mem_append_left _ hj)
      exact ⟨p1, by omega, p3⟩
    · rw [e5] at hj
      rw [List.mem_singleton.mp hj]
      exact ⟨h.mw.n, by omega, fun hm => by have := (h.m0.ge _ hm).2; omega⟩
end
end Go.Proofs.YtfndnjmnakdglaaGreatDoor
namespace Go.Proofs.YtfndnjmnakdglaaGreatDoor
open Go Go.Vm
set_option linter.unusedVariables false
set_option linter.unusedSimpArgs false
def ChCall (s : St) (b : Vm.Id) (ch : MV → T → T × MV) (G : Vm.Id) : Prop := ∀ (σ : St) (hv mv : AV) (hc mc : List AV) (X : MV) (cs : List AV) (t : T), Mk0 s σ b hv mv hc mc X → RT6 s cs t → t.tame → (X.fails = false → isN t = true) → Bud X 1 → σ.n.val ≤ 1000000000 →
  ∃ cs' σ', CA G [.ptr b 0, .agg cs] σ = .ok (.agg cs') σ' ∧ RT6 s cs' (ch X t).1 ∧ MkM 2000 s σ hv mv σ' b (ch X t).2
section
variable {s σ0 σ : St} {b : Vm.Id} {hv0 mv0 : AV} {K : Nat} {X : MV} {is : List Vm.Id} {os : List AO}
theorem Loc.change {ch : MV → T → T × MV} {G : Vm.Id} (hG : ChCall s b ch G) (h : Loc s σ0 hv0 mv0 K σ b X is os) {cs : List AV} {t : T} (h6 : RT6 s cs t) (ht : t.tame) (hN : X.fails = false → isN t = true) (hB : Bud X 1) (hn : σ0.n.val + K ≤ 1000000000) :
    ∃ ng mg kv σ', CA G [.ptr b 0, .agg cs] σ = .ok (.agg [.int .i64 (ch X t).1.op, ng, mg, .str (ch X t).1.name, .int .i64 (ch X t).1.sort, kv]) (Sx σ' []) ∧ ng.one = true ∧ mg.one = true ∧ kv.one = true ∧ RT6 s [.int .i64 (ch X t).1.op, ng, mg, .str (ch X t).1.name, .int .i64 (ch X t).1.sort, kv] (ch X t).1 ∧ Loc s σ0 hv0 mv0 (K + 2000) σ' b (ch X t).2 is os := by
  obtain ⟨hv, mv, hc, mc, h⟩ := h
  obtain ⟨cs', σ', c1, c2, c3⟩ := hG σ hv mv hc mc X cs t h.m0 h6 ht hN hB (by have := h.n; omega)
  obtain ⟨ng, mg, kv, rfl, hz, hk⟩ := c2.ex
  exact ⟨ng, mg, kv, σ', by rw [Sx_nil]; exact c1, by rw [hz.neg]; rfl, hz.one.2, hk.one, c2, Loc.call h c3⟩
theorem Loc.makeR (h : Loc s σ0 hv0 mv0 K σ b X is os) (hb : σ0.n.val + K ≤ 1000020000) (op : Int) {a : AV} {cs : List AV} (hx : ExK σ 6 a cs) {l : List T} (hR : Rows6 s cs l) (hl : lenOf a = l.length) (hlen : l.length ≤ 1000) (ht : T.tames l) :
    ∃ ng mg kv σ', CA F.lift_Maker_Make [.ptr b 0, .int .i64 op, a] σ = .ok (.agg [.int .i64 (makeT op l).op, ng, mg, .str (makeT op l).name, .int .i64 (makeT op l).sort, kv]) (Sx σ' []) ∧ ng.one = true ∧ mg.one = true ∧ kv.one = true ∧ RT6 s [.int .i64 (makeT op l).op, ng, mg, .str (makeT op l).name, .int .i64 (makeT op l).sort, kv] (makeT op l) ∧ Loc s σ0 hv0 mv0 (K + 100) σ' b (mkX X op l) is os := by
  obtain ⟨hv, mv, hc, mc, h⟩ := h
  obtain ⟨q1, q2⟩ := hx.isl h.m0.room
  have q3 := hx.len
  rw [hl] at q3
  obtain ⟨cs', σ', c1, c2, c3⟩ := mMake_ok h.m0 op q1 hl (by rw [q2]; omega) (by rw [q2, ← q3, List.take_length]; exact hR) ht hlen (by have := h.n; omega)
  obtain ⟨ng, mg, kv, rfl, hz, hk⟩ := c2.ex
  exact ⟨ng, mg, kv, σ', by rw [Sx_nil]; exact c1, by rw [hz.neg]; rfl, hz.one.2, hk.one, c2, Loc.call h c3⟩
theorem Loc.mk0 (h : Loc s σ0 hv0 mv0 K σ b X is os) : ∃ hv mv hc mc, LocB s σ0 hv0 mv0 K σ b X is os hv mv hc mc := h
theorem Loc.none {l : List Vm.Id} {m : List AO} (h : Loc s σ0 hv0 mv0 K σ b X (is ++ l) (os ++ m)) (hl : is.length = os.length) : Loc s σ0 hv0 mv0 K σ b X is os := by
  obtain ⟨hv, mv, hc, mc, h⟩ := h
  refine ⟨hv, mv, hc, mc, h.m0, h.mw, h.n, hl, (List.nodup_append.mp h.nd).1, fun k i o e1 e2 => h.ob k i o ?_ ?_, fun i hi => h.own i (List.mem_append_left _ hi)⟩
  · rw [List.getElem?_append_left (List.getElem?_eq_some_iff.mp e1).1]; exact e1
  · rw [List.getElem?_append_left (List.getElem?_eq_some_iff.mp e2).1]; exact e2
theorem Loc.setF (h : Loc s σ0 hv0 mv0 K σ b X is os) (c : Bool) {hv mv : AV} (ho : σ.obj b = .cells [.int .i64 X.next, hv, .bool X.fails, mv]) : Loc s σ0 hv0 mv0 K (σ.put b (.cells [.int .i64 X.next, hv, .bool c, mv])) b {X with fails := c} is os := by
  obtain ⟨hv', mv', hc, mc, h⟩ := h
  have e := h.m0.ob
  rw [ho] at e
  simp only [AO.cells.injEq, List.cons.injEq, true_and, and_true] at e
  obtain ⟨rfl, rfl⟩ := e
  refine ⟨hv, mv, hc, mc, h.m0.fld X.next c, h.mw.trans (Mv.fld _ _ _ _ _), by rw [put_n]; exact h.n, h.len, h.nd, fun k i o e1 e2 => ?_, fun i hi => by rw [put_n]; exact h.own i hi⟩
  rw [St.obj_put, if_neg]
  · exact h.ob k i o e1 e2
  · intro e
    have := (h.own i (List.mem_of_getElem? e1)).2.2
    rw [e] at this; simp at this
end
theorem isN_kid {t : T} (h : isN t = true) {i : Nat} (hi : i < t.kids.length) : isN t.kids[i] = true := by
  rw [isN_eq, isNs_all, Bool.and_eq_true] at h
  exact List.all_eq_true.mp h.1 _ (List.getElem_mem hi)
theorem isN_makeT {op : Int} {l : List T} (h : makeE op l = 0) : isN (makeT op l) = true := by
  have := isT_make h
  unfold makeT
  rw [if_pos h]
  unfold isT at this
  exact (Bool.and_eq_true _ _ ▸ this).2
theorem isN_appT {g : Sg} {l : List T} (h : appE g l = 0) : isN (appT g l) = true := by
  unfold appT
  rw [if_pos h]
  unfold appE at h
  by_cases c1 : sigOk g = false
  · rw [if_pos c1] at h; omega
  rw [if_neg c1] at h
  by_cases c2 : l.length ≠ g.args.length
  · rw [if_pos c2] at h; omega
  rw [if_neg c2] at h
  by_cases c3 : l.all isT = false
  · rw [if_pos c3] at h; omega
  rw [if_neg c3] at h
  by_cases c4 : l.map T.sort ≠ g.args
  · rw [if_pos c4] at h; omega
  have c4' : l.map T.sort = g.args := Decidable.not_not.mp c4
  have c1' : sigOk g = true := by simpa using c1
  have c3' : l.all isT = true := by simpa using c3
  have hns : isNs l = true := by
    rw [isNs_all, List.all_eq_true]
    intro t ht
    have := List.all_eq_true.mp c3' t ht
    unfold isT at this
    rw [Bool.and_eq_true] at this
    exact this.2
  rw [isN_eq]
  show (isNs l && nodeOk (.mk 4 ⟨false, []⟩ g.name g.ret l)) = true
  rw [hns]
  unfold nodeOk
  simp only [T.op, T.n, T.name, T.sort, T.kids, c4']
  simpa using c1'
theorem tames_take {l : List T} (h : T.tames l) (i : Nat) : T.tames (l.take i) := by
  induction l generalizing i with
  | nil => simp; exact h
  | cons a l ih => cases i with
    | zero => exact trivial
    | succ i => exact ⟨h.1, ih h.2 i⟩
theorem walk_ok {s : St} {b : Vm.Id} {ch : MV → T → T × MV} {G : Vm.Id} (hch : ChOk ch) (hG : ChCall s b ch G) : ∀ (n : Nat) (t : T), t.size ≤ n → t.size ≤ 400 → t.tame → ∀ (σ : St) (hv mv : AV) (hc mc : List AV) (X : MV) (cs : List AV), Mk0 s σ b hv mv hc mc X → RT6 s cs t → (X.fails = false → isN t = true) → Bud X t.size → σ.n.val + 4000 * t.size ≤ 1000000000 →
    ∃ cs' σ', CA F.lift_Maker_Walk [.ptr b 0, .agg cs, .fn G [.ptr b 0] []] σ = .ok (.agg cs') σ' ∧ RT6 s cs' (walkT ch t X).1 ∧ MkM (4000 * t.size) s σ hv mv σ' b (walkT ch t X).2 := by
  intro n
  induction n with
  | zero => intro t ht; have := T.size_pos t; omega
  | succ n ihn =>
    intro t ht h4 htm σ hv mv hc mc X cs h hc6 hN hB hn
    have hr := h.room
    have hb := h.bge.2
    have ob := h.ob
    have hov := rt6_ovσ h.ext hc6
    have hc7 := hc6
    have hsz := T.size_pos t
    have hsk := T.size_kids t
    have hkl := T.length_le t.kids
    have htk := (T.tame_kids htm).2
    have hsn := h.ext.n
    obtain ⟨ng, mg, kv, rfl, hz, hkv⟩ := hc6.ex
    have o1 := hz.one
    have o2 := hkv.one
    have key : ∃ r σ' X', CA F.lift_Maker_Walk [.ptr b 0, .agg [.int .i64 t.op, ng, mg, .str t.name, .int .i64 t.sort, kv], .fn G [.ptr b 0] []] σ = .ok r σ' ∧ (∃ cs', r = .agg cs' ∧ RT6 s cs' (walkT ch t X).1 ∧ X' = (walkT ch t X).2) ∧ MkM (4000 * t.size) s σ hv mv σ' b X' := by
      refine fn_mk h code_lift_Maker_Walk (by simp) ?_
      have hL0 := ((Loc.start h).sx (Nat.le_refl _) [.cells [.int .i64 t.op, ng, mg, .str t.name, .int .i64 t.sort, kv], .cells zeroC] [0, 1] (by simp) (by simp) (by decide)).le (K' := 2) (by simp)
      have early : t.kids = [] ∨ X.fails = true → ∃ ng1 mg1 kv1 τ1, CA G [.ptr b 0, .agg [.int .i64 t.op, ng, mg, .str t.name, .int .i64 t.sort, kv]] (Sx σ [.cells [.int .i64 t.op, ng, mg, .str t.name, .int .i64 t.sort, kv], .cells zeroC]) = .ok (.agg [.int .i64 (walkT ch t X).1.op, ng1, mg1, .str (walkT ch t X).1.name, .int .i64 (walkT ch t X).1.sort, kv1]) (Sx τ1 []) ∧ ng1.one = true ∧ mg1.one = true ∧ kv1.one = true ∧ RT6 s [.int .i64 (walkT ch t X).1.op, ng1, mg1, .str (walkT ch t X).1.name, .int .i64 (walkT ch t X).1.sort, kv1] (walkT ch t X).1 ∧ Loc s σ hv mv (2 + 2000) τ1 b (walkT ch t X).2 ([] ++ [0, 1].map (nm σ)) ([] ++ [0, 1].map fun k => (([.cells [.int .i64 t.op, ng, mg, .str t.name, .int .i64 t.sort, kv], .cells zeroC] : List AO)[k]?).getD .dead) := by
        intro c
        rw [walkT_eq, if_pos c]
        exact hL0.change hG hc7 htm hN (hB.le hsz) (by omega)
      by_cases c0 : t.kids = []
      · obtain ⟨ng1, mg1, kv1, τ1, f1, p1, p2, p3, r1, hL1⟩ := early (.inl c0)
        have hl0 : (t.kids.length : Int) = 0 := by rw [c0]; rfl
        have hr1 := hL1.room
        have w1 : τ1.obj (nm σ 1) = .cells zeroC := hL1.get 1 rfl rfl
        have l1 := hL1.lt 1 (i := nm σ 1) rfl
        simp only [go_sem, ↓reduceIte, Nat.reduceMod, Nat.reduceEqDiff, Nat.reduceAdd, Nat.reduceMul, Nat.reduceSub, Nat.reduceLeDiff, Nat.reduceLT, Int.reduceEq, Int.reduceLT, Int.reduceLE, Int.reduceAdd, Int.reduceSub, Int.reduceNeg, reduceCtorEq, Nat.reduceShiftRight, Nat.reduceAnd, Nat.reduceBNe, hr, hb, ob, o1, o2, hkv.vlen, hl0, vcallv_cap, f1, hr1, w1, l1, p1, p2, p3]
        refine ⟨ov_agg (rt6_ovσ h.ext r1), _, ⟨_, rfl, r1, rfl⟩, ?_⟩
        rw [Sx_nil]
        exact ((hL1.put hsn 1 (i := nm σ 1) rfl _).le (by omega)).done
      · have hl0 : ¬ (t.kids.length : Int) = 0 := by
          intro e
          exact c0 (List.eq_nil_of_length_eq_zero (by omega))
        cases hf : X.fails
        · rw [hf] at ob
          simp only [go_sem, ↓reduceIte, Nat.reduceMod, Nat.reduceEqDiff, Nat.reduceAdd, Nat.reduceMul, Nat.reduceSub, Nat.reduceLeDiff, Nat.reduceLT, Int.reduceEq, Int.reduceLT, Int.reduceLE, Int.reduceAdd, Int.reduceSub, Int.reduceNeg, reduceCtorEq, Nat.reduceShiftRight, Nat.reduceAnd, Nat.reduceBNe, hr, hb, ob, o1, o2, hkv.vlen, hl0, Bool.not_false]
          refine W_inv (fun k f τ' => ∃ (i : Nat) (τ : St) (lv : AV) (lc : List AV), Sx τ [] = τ' ∧ k = t.kids.length - i ∧ i ≤ t.kids.length ∧ ExK τ 6 lv lc ∧ Rows6 s lc (walkTs ch (t.kids.take i) X).1 ∧ lenOf lv = i ∧ Loc s σ hv mv (2 + 4000 * T.sizes (t.kids.take i) + 3 * i) τ b (walkTs ch (t.kids.take i) X).2 ([nm σ 0, nm σ 1] ++ ids lv) ([.cells [.int .i64 t.op, ng, mg, .str t.name, .int .i64 t.sort, kv], .cells zeroC] ++ (ids lv).map fun _ => .cells lc) ∧ (vv 0).get f = .ptr b 0 ∧ (vv 2).get f = .fn G [.ptr b 0] [] ∧ (vv 4).get f = .ptr (nm σ 0) 0 ∧ (vv 6).get f = .ptr (nm σ 1) 0 ∧ (vv 7).get f = lv ∧ (vv 26).get f = kv ∧ (vv 27).get f = .int .i64 (t.kids.length : Int) ∧ (vv 28).get f = .int .i64 (i : Int)) ?_ ⟨0, Sx σ [.cells [.int .i64 t.op, ng, mg, .str t.name, .int .i64 t.sort, kv], .cells zeroC], .nils, [], Sx_nil _, rfl, Nat.zero_le _, .nils, ⟨fun i hi => by simp [walkTs] at hi, by simp⟩, rfl, ?_, ?_⟩
          · rintro k f τ' ⟨i, τ, lv, lc, rfl, rfl, hi, hx, hR, hlen, hL, g0, g2, g4, g6, g7, g26, g27, g28⟩
            have hrt := hL.room
            have hbt := hL.blt
            by_cases c1 : i < t.kids.length
            · obtain ⟨ngk, mgk, kvk, rk, ok, pk, qk, ik, lk⟩ := kid_cells hkv hL.ext c1
              rw [kidT_at c1] at rk lk
              have hs1 := T.sizes_take t.kids i c1
              have hs2 := T.sizes_le t.kids (i + 1)
              have hs3 := T.size_at c1
              have hL1 := (hL.sx0 [.cells [.int .i64 (t.kids[i]).op, ngk, mgk, .str (t.kids[i]).name, .int .i64 (t.kids[i]).sort, kvk]] (by simp)).le (K' := 2 + 4000 * T.sizes (t.kids.take i) + 3 * i + 1) (by simp)
              obtain ⟨hv1, mv1, hc1, mc1, hB1⟩ := hL1.mk0
              have hbud := ((walk_plain hch _).2 (t.kids.take i) (Nat.le_refl _) (tames_take htk i) X t.kids[i].size (hB.le (by omega))).1
              have hn1 := hB1.n
              obtain ⟨cs', τ1, f1, r1, m1⟩ := ihn t.kids[i] (by omega) (by omega) (T.tame_at htk c1) (Sx τ [.cells [.int .i64 (t.kids[i]).op, ngk, mgk, .str (t.kids[i]).name, .int .i64 (t.kids[i]).sort, kvk]]) hv1 mv1 hc1 mc1 (walkTs ch (t.kids.take i) X).2 _ hB1.m0 rk (fun _ => isN_kid (hN hf) c1) hbud (by omega)
              have hL2 := Loc.call hB1 m1
              obtain ⟨ng1, mg1, kv1, rfl, hz1, hk1⟩ := r1.ex
              have p1 : ng1.one = true := by rw [hz1.neg]; rfl
              have p2 := hz1.one.2
              have p3 := hk1.one
              rw [← Sx_nil τ1] at f1
              have hr1 := hL2.room
              have hL3 := (hL2.sx0 [.cells [.int .i64 ((walkT ch t.kids[i] (walkTs ch (t.kids.take i) X).2).1).op, ng1, mg1, .str ((walkT ch t.kids[i] (walkTs ch (t.kids.take i) X).2).1).name, .int .i64 ((walkT ch t.kids[i] (walkTs ch (t.kids.take i) X).2).1).sort, kv1]] (by simp))
              obtain ⟨a', τ2, w1, hx2, hlen2, hL4⟩ := hL3.app rfl (exk_to hx (hL3.rows rfl)) hsn (i := nm τ1 0) (Sx_objD hr1 (by simp) (by simp)) r1 (by omega)
              rw [← Sx_nil τ2] at w1
              simp only [go_sem, ↓reduceIte, Nat.reduceMod, Nat.reduceEqDiff, Nat.reduceAdd, Nat.reduceMul, Nat.reduceSub, Nat.reduceLeDiff, Nat.reduceLT, Int.reduceEq, Int.reduceLT, Int.reduceLE, Int.reduceAdd, Int.reduceSub, Int.reduceNeg, reduceCtorEq, Nat.reduceShiftRight, Nat.reduceAnd, Nat.reduceBNe, g0, g2, g4, g6, g7, g26, g27, g28, Int.ofNat_lt, c1, hrt, ik, lk, ok, pk, qk, f1, hr1, p1, p2, p3, w1]
              refine ⟨t.kids.length - (i + 1), by omega, i + 1, τ2, a', _, Sx_nil _, rfl, by omega, hx2, ?_, by omega, ?_, ?_⟩
              · rw [walkTs_take ch t.kids X c1]
                exact hR.app (rows6_1 r1 (Ext.refl s)) (by rw [hx.len, hlen, walkTs_len, List.length_take]; congr 1; omega)
              · rw [walkTs_take ch t.kids X c1]
                exact hL4.le (by simp only [List.length_cons, List.length_nil]; omega)
              · rw [wrap_i64 (by omega) (by omega)]; exact ⟨rfl, rfl⟩
            · have e : i = t.kids.length := by omega
              subst e
              rw [List.take_length] at hR hL
              have hall := (walk_plain hch _).2 t.kids (Nat.le_refl _) htk X 1 (hB.le (by omega))
              have hwl := walkTs_len ch t.kids X
              have hXT : walkT ch t X = if t.op ≠ 4 then ch (mkX (walkTs ch t.kids X).2 t.op (walkTs ch t.kids X).1) (makeT t.op (walkTs ch t.kids X).1)
                else ch {(walkTs ch t.kids X).2 with fails := (walkTs ch t.kids X).2.fails || decide (appE ⟨t.name, t.kids.map T.sort, t.sort⟩ (walkTs ch t.kids X).1 ≠ 0)} (appT ⟨t.name, t.kids.map T.sort, t.sort⟩ (walkTs ch t.kids X).1) := by
                rw [walkT_eq, if_neg (by rintro (h | h); exact c0 h; rw [hf] at h; cases h)]
              generalize hWl : (walkTs ch t.kids X).1 = wl at *
              generalize hWX : (walkTs ch t.kids X).2 = XW at *
              have v0 : τ.obj (nm σ 0) = .cells [.int .i64 t.op, ng, mg, .str t.name, .int .i64 t.sort, kv] := hL.get 0 rfl rfl
              have v1 : τ.obj (nm σ 1) = .cells zeroC := hL.get 1 rfl rfl
              have b0 := hL.lt 0 (i := nm σ 0) rfl
              have b1 := hL.lt 1 (i := nm σ 1) rfl
              have hLn := hL.none rfl
              by_cases c4 : t.op = 4
              · rw [if_neg (by simpa using c4)] at hXT
                have hnt := hL.nle
                obtain ⟨hvf, mvf, obf⟩ := hLn.fails
                have fs := Sig_ok (Sx τ []) _ t (hrt.sx (by simp)) (by rw [Sx_nil]; omega) (by omega) (hc7.x (by rw [Sx_nil]; exact hL.ext))
                rw [c4] at fs
                obtain ⟨x1, x2⟩ := hx.isl hrt
                have x3 := hx.len
                rw [show lenOf lv = wl.length by omega] at x3
                obtain ⟨csA, fa, ra⟩ := App_ok2 (Sx τ []) lv (avI (t.kids.map T.sort)) wl ⟨t.name, t.kids.map T.sort, t.sort⟩ hall.2.1 (hrt.sx (by simp)) (by rw [Sx_nil]; omega) (by omega) (by rw [Sx_nil]; exact rows6_ts hL.ext x1 (by omega) (by rw [x2]; omega) (by rw [x2, ← x3, List.take_length]; exact hR)) (avI_ints _ _ (by simp; omega))
                rw [Sx_nil, x2, ← x3, List.take_length] at ra
                have ra := ra s hR
                obtain ⟨nga, mga, kva, rfl, hza, hka⟩ := ra.ex
                have oa1 := hza.one
                have oa2 := hka.one
                have hoa : (avI (t.kids.map T.sort)).one = true := (avI_ints τ _ (by simp; omega)).one
                have hL1 := ((hLn.setF (XW.fails || decide (appE ⟨t.name, t.kids.map T.sort, t.sort⟩ wl ≠ 0)) obf).sx0 [.cells [.int .i64 (appT ⟨t.name, t.kids.map T.sort, t.sort⟩ wl).op, nga, mga, .str (appT ⟨t.name, t.kids.map T.sort, t.sort⟩ wl).name, .int .i64 (appT ⟨t.name, t.kids.map T.sort, t.sort⟩ wl).sort, kva]] (by simp)).le (K' := 2 + 4000 * T.sizes t.kids + 3 * t.kids.length + 1) (by simp)
                obtain ⟨ng2, mg2, kv2, τ2, f2, q1, q2, q3, r2, hL2⟩ := hL1.change hG ra (appT_tame hall.2.1 (T.tame_name htm)) (fun hq => isN_appT (by simp only [Bool.or_eq_false_iff, decide_eq_false_iff_not, Decidable.not_not] at hq; exact hq.2)) (bud_fl hall.1 _) (by omega)
                rw [← hXT] at f2 r2 hL2
                have hr2 := hL2.room
                have w1 : τ2.obj (nm σ 1) = .cells zeroC := hL2.get 1 rfl rfl
                have l1 := hL2.lt 1 (i := nm σ 1) rfl
                cases hXf : XW.fails
                · rw [hXf] at obf f2
                  simp only [Bool.false_or, ne_eq] at f2
                  simp only [go_sem, ↓reduceIte, Nat.reduceMod, Nat.reduceEqDiff, Nat.reduceAdd, Nat.reduceMul, Nat.reduceSub, Nat.reduceLeDiff, Nat.reduceLT, Int.reduceEq, Int.reduceLT, Int.reduceLE, Int.reduceAdd, Int.reduceSub, Int.reduceNeg, reduceCtorEq, Nat.reduceShiftRight, Nat.reduceAnd, Nat.reduceBNe, g0, g2, g4, g6, g7, g26, g27, g28, Int.lt_irrefl, hrt, hbt, v0, v1, b0, b1, c4, obf, ne_eq, not_true_eq_false, fs, fa, hoa, oa1, oa2, SxP_obj, vcallv_cap, f2, hr2, w1, l1, q1, q2, q3]
                  refine ⟨ov_agg (rt6_ovσ h.ext r2), _, ⟨_, rfl, r2, rfl⟩, ?_⟩
                  rw [Sx_nil]
                  exact ((hL2.put hsn 1 (i := nm σ 1) rfl _).le (by omega)).done
                · rw [hXf] at obf f2
                  simp only [Bool.true_or, ne_eq] at f2
                  simp only [go_sem, ↓reduceIte, Nat.reduceMod, Nat.reduceEqDiff, Nat.reduceAdd, Nat.reduceMul, Nat.reduceSub, Nat.reduceLeDiff, Nat.reduceLT, Int.reduceEq, Int.reduceLT, Int.reduceLE, Int.reduceAdd, Int.reduceSub, Int.reduceNeg, reduceCtorEq, Nat.reduceShiftRight, Nat.reduceAnd, Nat.reduceBNe, g0, g2, g4, g6, g7, g26, g27, g28, Int.lt_irrefl, hrt, hbt, v0, v1, b0, b1, c4, obf, ne_eq, not_true_eq_false, fs, fa, hoa, oa1, oa2, SxP_obj, vcallv_cap, f2, hr2, w1, l1, q1, q2, q3]
                  refine ⟨ov_agg (rt6_ovσ h.ext r2), _, ⟨_, rfl, r2, rfl⟩, ?_⟩
                  rw [Sx_nil]
                  exact ((hL2.put hsn 1 (i := nm σ 1) rfl _).le (by omega)).done
              · rw [if_pos c4] at hXT
                obtain ⟨ng1, mg1, kv1, τ1, f1, p1, p2, p3, r1, hL1⟩ := hLn.makeR (by omega) t.op hx hR (by omega) (by omega) hall.2.1
                obtain ⟨ng2, mg2, kv2, τ2, f2, q1, q2, q3, r2, hL2⟩ := hL1.change hG r1 (makeT_tame hall.2.1) (fun hq => isN_makeT (by simp only [Bool.or_eq_false_iff, decide_eq_false_iff_not, Decidable.not_not] at hq; exact hq.2)) (bud_mk hall.1 _ _) (by omega)
                rw [← hXT] at f2 r2 hL2
                rw [← Sx_nil τ] at f1
                rw [← Sx_nil τ1] at f2
                have hr2 := hL2.room
                have w1 : τ2.obj (nm σ 1) = .cells zeroC := hL2.get 1 rfl rfl
                have l1 := hL2.lt 1 (i := nm σ 1) rfl
                simp only [go_sem, ↓reduceIte, Nat.reduceMod, Nat.reduceEqDiff, Nat.reduceAdd, Nat.reduceMul, Nat.reduceSub, Nat.reduceLeDiff, Nat.reduceLT, Int.reduceEq, Int.reduceLT, Int.reduceLE, Int.reduceAdd, Int.reduceSub, Int.reduceNeg, reduceCtorEq, Nat.reduceShiftRight, Nat.reduceAnd, Nat.reduceBNe, g0, g2, g4, g6, g7, g26, g27, g28, Int.lt_irrefl, hrt, v0, v1, b0, b1, c4, ne_eq, not_false_eq_true, f1, vcallv_cap, f2, hr2, w1, l1, p1, p2, p3, q1, q2, q3]
                refine ⟨ov_agg (rt6_ovσ h.ext r2), _, ⟨_, rfl, r2, rfl⟩, ?_⟩
                rw [Sx_nil]
                exact ((hL2.put hsn 1 (i := nm σ 1) rfl _).le (by omega)).done
          · simp only [List.take_zero, walkTs]
            exact hL0
          · simp only [go_sem, ↓reduceIte, Nat.reduceMod, Nat.reduceEqDiff, Nat.reduceAdd, Nat.reduceMul, Nat.reduceSub, Nat.reduceLeDiff, Nat.reduceLT, Int.reduceEq, Int.reduceLT, Int.reduceLE, Int.reduceAdd, Int.reduceSub, Int.reduceNeg, reduceCtorEq, Nat.reduceShiftRight, Nat.reduceAnd, Nat.reduceBNe]
            rfl
        · obtain ⟨ng1, mg1, kv1, τ1, f1, p1, p2, p3, r1, hL1⟩ := early (.inr hf)
          rw [hf] at ob
          have hr1 := hL1.room
          have w1 : τ1.obj (nm σ 1) = .cells zeroC := hL1.get 1 rfl rfl
          have l1 := hL1.lt 1 (i := nm σ 1) rfl
          simp only [go_sem, ↓reduceIte, Nat.reduceMod, Nat.reduceEqDiff, Nat.reduceAdd, Nat.reduceMul, Nat.reduceSub, Nat.reduceLeDiff, Nat.reduceLT, Int.reduceEq, Int.reduceLT, Int.reduceLE, Int.reduceAdd, Int.reduceSub, Int.reduceNeg, reduceCtorEq, Nat.reduceShiftRight, Nat.reduceAnd, Nat.reduceBNe, hr, hb, ob, o1, o2, hkv.vlen, hl0, Bool.not_true, Bool.not_false, vcallv_cap, f1, hr1, w1, l1, p1, p2, p3]
          refine ⟨ov_agg (rt6_ovσ h.ext r1), _, ⟨_, rfl, r1, rfl⟩, ?_⟩
          rw [Sx_nil]
          exact ((hL1.put hsn 1 (i := nm σ 1) rfl _).le (by omega)).done
    obtain ⟨r, σ', X', e1, ⟨cs', rfl, e2, rfl⟩, e3⟩ := key
    exact ⟨cs', σ', e1, e2, e3⟩
end Go.Proofs.YtfndnjmnakdglaaGreatDoor
