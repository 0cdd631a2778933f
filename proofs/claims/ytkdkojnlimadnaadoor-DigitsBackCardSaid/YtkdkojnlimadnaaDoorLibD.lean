/- Functions of the program: texts, numbers. No condition. -/
import Derived.Test.YtkdkojnlimadnaaDoorLibC
import Derived.Lib.ItoaNum
import Derived.Lib.Repeat
import Derived.Lib.Atoi
namespace Go.Proofs.YtkdkojnlimadnaaDoor
open Go Go.Vm
set_option linter.unusedVariables false
set_option linter.unusedSimpArgs false
theorem zh_len {z : Z} {k : Nat} (h : z.mag.length ≤ k) : (zh z).mag.length ≤ k := by unfold zh; split <;> simp [h]
theorem whole_Abs_ok [Tel] (s : St) (n m : AV) (z : Z) (hr : Room s) (hn : s.n.val ≤ 57000) (hl : z.mag.length ≤ 1000000) (hz : RZ s n m z) : ∃ r, CA F.whole_Abs [.agg [n, m]] s = .ok (.agg [.bool false, r]) s ∧ ∀ t, Nats t r (zh z).mag := by
  have hx := ext_Sx (s := s) (l := [.cells [n, m], .cells [.bool false, .nils]]) hr (by simp)
  have hcall := of_ok (Sx s [.cells [n, m], .cells [.bool false, .nils]]) n m z (hr.Sx (by simp; omega) (by simp)) (by rw [Sx_n hr (by simp)]; simp; omega) (hz.x hx)
  have hz1 := zh_rep hz
  have hl1 := zh_len hl
  rw [if_cells2] at hcall
  generalize zh z = y at hz1 hl1 ⊢
  generalize (if zIs z = true then n else AV.bool false) = n' at hcall hz1
  generalize (if zIs z = true then m else AV.nils) = m' at hcall hz1
  obtain ⟨yn, ym⟩ := y
  obtain ⟨rfl, hz2⟩ := hz1
  simp only at hz2 hl1
  obtain ⟨r, h1, h2⟩ := copied_ok (Sx s [.cells [n, m], .cells [.bool false, .nils]]) m' ym (hr.Sx (by simp; omega) (by simp)) (by rw [Sx_n hr (by simp)]; simp; omega) hl1 (hz2.x hx)
  have hwh := whole_ok (Sx s [.cells [n, m], .cells [.bool false, .nils]]) r ym false (hr.Sx (by simp; omega) (by simp)) (by rw [Sx_n hr (by simp)]; simp; omega) (h2 _)
  rw [Bool.false_and] at hwh
  refine ⟨r, ?_, h2⟩
  refine fn_of code_whole_Abs (by simp) ?_
  simp only [go_sem, ↓reduceIte, Nat.reduceMod, Nat.reduceEqDiff, Nat.reduceAdd, Nat.reduceMul, Nat.reduceSub, Nat.reduceLeDiff, Nat.reduceLT, Int.reduceEq, Int.reduceLT, Int.reduceLE, Int.reduceAdd, Int.reduceSub, Int.reduceNeg, reduceCtorEq, Nat.reduceShiftRight, Nat.reduceAnd, Nat.reduceBNe, hr, hcall, h1, hwh, (h2 s).one]
  exact settled_ov (ext_Sx hr (by simp)) (ov2 (ov_bool _ _) (h2 s).sl.ov)
theorem ref1_Abs_ok [Tel] (s : St) (n m : AV) (z : Z) (hr : Room s) (hn : s.n.val ≤ 57000) (hz : RZ s n m z) : CA F.ref1_Abs [.agg [n, m]] s = .ok (.agg [.bool false, if zIs z then m else .nils]) s := by
  have hx := ext_Sx (s := s) (l := [.cells [n, m], .cells [.bool false, .nils]]) hr (by simp)
  have hcall := may_ok (Sx s [.cells [n, m], .cells [.bool false, .nils]]) n m z (hr.Sx (by simp; omega) (by simp)) (by rw [Sx_n hr (by simp)]; simp; omega) (hz.x hx)
  have hz1 := zh_rep hz
  rw [if_cells2] at hcall
  generalize (if zIs z = true then n else AV.bool false) = n' at hcall hz1
  generalize (if zIs z = true then m else AV.nils) = m' at hcall hz1 ⊢
  obtain ⟨rfl, hz2⟩ := hz1
  refine fn_of code_ref1_Abs (by simp) ?_
  simp only [go_sem, ↓reduceIte, Nat.reduceMod, Nat.reduceEqDiff, Nat.reduceAdd, Nat.reduceMul, Nat.reduceSub, Nat.reduceLeDiff, Nat.reduceLT, Int.reduceEq, Int.reduceLT, Int.reduceLE, Int.reduceAdd, Int.reduceSub, Int.reduceNeg, reduceCtorEq, Nat.reduceShiftRight, Nat.reduceAnd, Nat.reduceBNe, hr, hcall, hz2.one]
  exact settled_ov (ext_Sx hr (by simp)) (ov2 (ov_bool _ _) hz2.sl.ov)
theorem ref1_nat_ok [Tel] (s : St) (v : AV) (l : List Nat) (hv : Nats s v l) : CA F.ref1_nat [v] s = .ok (if natIs l then v else .nils) s := by
  refine fn_of code_ref1_nat (by simp) ?_
  have hcall := isNat_ok (Sx s []) v l hv
  cases c : natIs l
  · simp only [go_sem, ↓reduceIte, Nat.reduceMod, Nat.reduceEqDiff, Nat.reduceAdd, Nat.reduceMul, Nat.reduceSub, Nat.reduceLeDiff, Nat.reduceLT, Int.reduceEq, Int.reduceLT, Int.reduceLE, Int.reduceAdd, Int.reduceSub, Int.reduceNeg, reduceCtorEq, Nat.reduceShiftRight, Nat.reduceAnd, Nat.reduceBNe, hcall, c, Bool.not_false]
    exact settled_ov (Ext.refl s) (ov_nils _)
  · simp only [go_sem, ↓reduceIte, Nat.reduceMod, Nat.reduceEqDiff, Nat.reduceAdd, Nat.reduceMul, Nat.reduceSub, Nat.reduceLeDiff, Nat.reduceLT, Int.reduceEq, Int.reduceLT, Int.reduceLE, Int.reduceAdd, Int.reduceSub, Int.reduceNeg, reduceCtorEq, Nat.reduceShiftRight, Nat.reduceAnd, Nat.reduceBNe, hcall, c, Bool.not_true]
    exact settled_ov (Ext.refl s) hv.sl.ov
theorem cmpNat_ok [Tel] (s : St) (v w : AV) (l m : List Nat) (hr : Room s) (hn : s.n.val + 18 * l.length + 20 ≤ 60000) (hv : Nats s v l) (hw : Nats s w m) : CA F.ref1_CmpNat [v, w] s = .ok (.int .i64 (cmpI (vh l) (vh m))) s := by
  have e1 := hd_is l
  have e2 := hd_is m
  have e3 := hd_len l
  refine fn_of code_ref1_CmpNat (by simp) ?_
  simp only [go_sem, ↓reduceIte, Nat.reduceMod, Nat.reduceEqDiff, Nat.reduceAdd, Nat.reduceMul, Nat.reduceSub, Nat.reduceLeDiff, Nat.reduceLT, Int.reduceEq, Int.reduceLT, Int.reduceLE, Int.reduceAdd, Int.reduceSub, Int.reduceNeg, reduceCtorEq, Nat.reduceShiftRight, Nat.reduceAnd, Nat.reduceBNe, ref1_nat_ok (Sx s []) v l hv, ref1_nat_ok (Sx s []) w m hw]
  have hv1 := held_rep hv
  have hw1 := held_rep hw
  unfold vh
  generalize hd l = L at *
  generalize hd m = M at *
  generalize (if natIs l = true then v else .nils) = v at hv1 ⊢
  generalize (if natIs m = true then w else .nils) = w at hw1 ⊢
  have hm := hv1.most
  by_cases c0 : (L.length : Int) = (M.length : Int)
  · have c0' : L.length = M.length := by omega
    simp only [go_sem, ↓reduceIte, Nat.reduceMod, Nat.reduceEqDiff, Nat.reduceAdd, Nat.reduceMul, Nat.reduceSub, Nat.reduceLeDiff, Nat.reduceLT, Int.reduceEq, Int.reduceLT, Int.reduceLE, Int.reduceAdd, Int.reduceSub, Int.reduceNeg, reduceCtorEq, Nat.reduceShiftRight, Nat.reduceAnd, Nat.reduceBNe, hv1.vlen, hw1.vlen, ne_eq, c0, not_true_eq_false]
    refine W_inv (fun k f τ => ∃ i : Nat, ∃ σ : St, Sx σ [] = τ ∧ Room σ ∧ Ext s σ ∧ σ.n.val + 18 * i ≤ s.n.val + 18 * L.length ∧ k = i ∧ i ≤ L.length ∧ L.drop i = M.drop i ∧ (vv 5).get f = v ∧ (vv 6).get f = w ∧ (vv 7).get f = .int .i64 ((i : Int) - 1)) ?_ ⟨L.length, s, rfl, hr, Ext.refl s, by omega, rfl, Nat.le_refl _, by simp [c0'], ?_, ?_, ?_⟩
    · rintro k f τ ⟨i, σ, rfl, hr1, hx, hn1, rfl, hi, ha, g0, g1, g5⟩
      have hv2 := hv1.x hx
      have hw2 := hw1.x hx
      cases k with
      | succ i =>
        have c1 : i < L.length := by omega
        have c1' : i < M.length := by omega
        have ei : ((i + 1 : Nat) : Int) - 1 = (i : Int) := by omega
        rw [ei] at g5
        have h0 : (0 : Int) ≤ (i : Int) := by omega
        simp only [go_sem, ↓reduceIte, Nat.reduceMod, Nat.reduceEqDiff, Nat.reduceAdd, Nat.reduceMul, Nat.reduceSub, Nat.reduceLeDiff, Nat.reduceLT, Int.reduceEq, Int.reduceLT, Int.reduceLE, Int.reduceAdd, Int.reduceSub, Int.reduceNeg, reduceCtorEq, Nat.reduceShiftRight, Nat.reduceAnd, Nat.reduceBNe, g0, g1, g5, h0]
        refine W_drawn hr1 _ (by simp) ?_
        by_cases c2 : (L[i] : Int) < (M[i] : Int)
        · simp only [go_sem, ↓reduceIte, Nat.reduceMod, Nat.reduceEqDiff, Nat.reduceAdd, Nat.reduceMul, Nat.reduceSub, Nat.reduceLeDiff, Nat.reduceLT, Int.reduceEq, Int.reduceLT, Int.reduceLE, Int.reduceAdd, Int.reduceSub, Int.reduceNeg, reduceCtorEq, Nat.reduceShiftRight, Nat.reduceAnd, Nat.reduceBNe, g0, g1, g5, hr1, hv2.ia c1, hw2.ia c1', hv2.u32 c1, hw2.u32 c1', c2]
          refine settled_int (hx.trans (ext_Sx hr1 (by simp))) ?_
          have := val_top (natIs_small e1) (natIs_small e2) c1 c1' ha (by omega)
          unfold cmpI
          rw [if_pos (by omega)]
        · simp only [go_sem, ↓reduceIte, Nat.reduceMod, Nat.reduceEqDiff, Nat.reduceAdd, Nat.reduceMul, Nat.reduceSub, Nat.reduceLeDiff, Nat.reduceLT, Int.reduceEq, Int.reduceLT, Int.reduceLE, Int.reduceAdd, Int.reduceSub, Int.reduceNeg, reduceCtorEq, Nat.reduceShiftRight, Nat.reduceAnd, Nat.reduceBNe, g0, g1, g5, hr1, hv2.ia c1, hw2.ia c1', hv2.u32 c1, hw2.u32 c1', c2]
          refine W_drawn hr1 _ (by simp) ?_
          by_cases c3 : (M[i] : Int) < (L[i] : Int)
          · simp only [go_sem, ↓reduceIte, Nat.reduceMod, Nat.reduceEqDiff, Nat.reduceAdd, Nat.reduceMul, Nat.reduceSub, Nat.reduceLeDiff, Nat.reduceLT, Int.reduceEq, Int.reduceLT, Int.reduceLE, Int.reduceAdd, Int.reduceSub, Int.reduceNeg, reduceCtorEq, Nat.reduceShiftRight, Nat.reduceAnd, Nat.reduceBNe, g0, g1, g5, hr1, hv2.ia c1, hw2.ia c1', hv2.u32 c1, hw2.u32 c1', c3]
            refine settled_int (hx.trans (ext_Sx hr1 (by simp))) ?_
            have := val_top (natIs_small e2) (natIs_small e1) c1' c1 ha.symm (by omega)
            unfold cmpI
            rw [if_neg (by omega), if_pos (by omega)]
          · simp only [go_sem, ↓reduceIte, Nat.reduceMod, Nat.reduceEqDiff, Nat.reduceAdd, Nat.reduceMul, Nat.reduceSub, Nat.reduceLeDiff, Nat.reduceLT, Int.reduceEq, Int.reduceLT, Int.reduceLE, Int.reduceAdd, Int.reduceSub, Int.reduceNeg, reduceCtorEq, Nat.reduceShiftRight, Nat.reduceAnd, Nat.reduceBNe, g0, g1, g5, hr1, hv2.ia c1, hw2.ia c1', hv2.u32 c1, hw2.u32 c1', c3]
            refine ⟨i, by omega, i, _, Sx_nil _, hr1.Sx (by simp; omega) (by simp), hx.trans (ext_Sx hr1 (by simp)), ?_, rfl, by omega, drop_eq c1 c1' ha (by omega), ?_⟩
            · rw [Sx_n hr1 (by simp)]; simp; omega
            · rw [wrap_i64 (by omega) (by omega)]
      | zero =>
        have h0 : ¬ ((0 : Int) ≤ ((0 : Nat) : Int) - 1) := by omega
        simp only [go_sem, ↓reduceIte, Nat.reduceMod, Nat.reduceEqDiff, Nat.reduceAdd, Nat.reduceMul, Nat.reduceSub, Nat.reduceLeDiff, Nat.reduceLT, Int.reduceEq, Int.reduceLT, Int.reduceLE, Int.reduceAdd, Int.reduceSub, Int.reduceNeg, reduceCtorEq, Nat.reduceShiftRight, Nat.reduceAnd, Nat.reduceBNe, g0, g1, g5, h0]
        simp only [List.drop_zero] at ha
        subst ha
        exact settled_int hx (by simp [cmpI])
    · simp only [go_sem, ↓reduceIte, Nat.reduceMod, Nat.reduceEqDiff, Nat.reduceAdd, Nat.reduceMul, Nat.reduceSub, Nat.reduceLeDiff, Nat.reduceLT, Int.reduceEq, Int.reduceLT, Int.reduceLE, Int.reduceAdd, Int.reduceSub, Int.reduceNeg, reduceCtorEq, Nat.reduceShiftRight, Nat.reduceAnd, Nat.reduceBNe]
    · simp only [go_sem, ↓reduceIte, Nat.reduceMod, Nat.reduceEqDiff, Nat.reduceAdd, Nat.reduceMul, Nat.reduceSub, Nat.reduceLeDiff, Nat.reduceLT, Int.reduceEq, Int.reduceLT, Int.reduceLE, Int.reduceAdd, Int.reduceSub, Int.reduceNeg, reduceCtorEq, Nat.reduceShiftRight, Nat.reduceAnd, Nat.reduceBNe]
    · simp only [go_sem, ↓reduceIte, Nat.reduceMod, Nat.reduceEqDiff, Nat.reduceAdd, Nat.reduceMul, Nat.reduceSub, Nat.reduceLeDiff, Nat.reduceLT, Int.reduceEq, Int.reduceLT, Int.reduceLE, Int.reduceAdd, Int.reduceSub, Int.reduceNeg, reduceCtorEq, Nat.reduceShiftRight, Nat.reduceAnd, Nat.reduceBNe]
      rw [wrap_i64 (by omega) (by omega), c0']
  · by_cases c1 : (L.length : Int) < (M.length : Int)
    · simp only [go_sem, ↓reduceIte, Nat.reduceMod, Nat.reduceEqDiff, Nat.reduceAdd, Nat.reduceMul, Nat.reduceSub, Nat.reduceLeDiff, Nat.reduceLT, Int.reduceEq, Int.reduceLT, Int.reduceLE, Int.reduceAdd, Int.reduceSub, Int.reduceNeg, reduceCtorEq, Nat.reduceShiftRight, Nat.reduceAnd, Nat.reduceBNe, hv1.vlen, hw1.vlen, ne_eq, c0, not_false_eq_true, c1]
      refine settled_int (Ext.refl s) ?_
      have := val_shorter e1 e2 (by omega : L.length < M.length)
      unfold cmpI
      rw [if_pos (by omega)]
    · simp only [go_sem, ↓reduceIte, Nat.reduceMod, Nat.reduceEqDiff, Nat.reduceAdd, Nat.reduceMul, Nat.reduceSub, Nat.reduceLeDiff, Nat.reduceLT, Int.reduceEq, Int.reduceLT, Int.reduceLE, Int.reduceAdd, Int.reduceSub, Int.reduceNeg, reduceCtorEq, Nat.reduceShiftRight, Nat.reduceAnd, Nat.reduceBNe, hv1.vlen, hw1.vlen, ne_eq, c0, not_false_eq_true, c1]
      refine settled_int (Ext.refl s) ?_
      have := val_shorter e2 e1 (by omega : M.length < L.length)
      unfold cmpI
      rw [if_neg (by omega), if_pos (by omega)]
end Go.Proofs.YtkdkojnlimadnaaDoor
namespace Go.Vm
set_option linter.unusedVariables false
noncomputable def vtobytes (a : AV) (s : St) : R := a.onStr .no fun l => .ok (.ts (byteCells l) (ln l) (ln l) false) s
theorem p_tobytes (call : CallT) (f : Fr AV) (s : St) (x : CO) : exop (.tobytes x) call f s = vtobytes (ev1 f x) s := nd rfl
def cellsB (l : List UInt8) : List AV := l.map fun c => .int .u8 (c.toNat : Int)
theorem vtobytes_str (l : List UInt8) (s : St) : vtobytes (.str l) s = .ok (.ts (cellsB l) l.length l.length false) s := by
  show R.ok (.ts (byteCells l) (ln l) (ln l) false) s = _
  rw [byteCells_eq, ln_eq]; rfl
def RB (r : List AV) (c : UInt8) : Prop := ∃ t, r = .int .u8 (c.toNat : Int) :: t
abbrev Byt (s : St) (v : AV) (l : List UInt8) : Prop := SlR s v 1 RB l
theorem SlR.u8 {s : St} {v : AV} {l : List UInt8} (h : Byt s v l) {i : Nat} (hi : i < l.length) {σ : St} (hx : Ext s σ) : vload false 1 (elp v i) σ = .ok (.int .u8 (l[i].toNat : Int)) σ := by
  obtain ⟨t, ht⟩ := h.el i hi
  rw [Nat.mul_one] at ht
  rw [vload_x h.sl (by rw [ht]; simp) false 1 hx, ht, wrap1_one]
theorem byt_ts {s : St} (l : List UInt8) (hl : l.length ≤ limit) : Byt s (.ts (cellsB l) l.length l.length false) l := by
  refine ⟨.ts _ _ _ _ hl (fun c hc => by unfold cellsB at hc; simp at hc; obtain ⟨a, _, rfl⟩ := hc; exact ov_int _ _ _), rfl, fun i hi => ?_⟩
  refine ⟨cellsB (l.drop (i + 1)), ?_⟩
  show (cellsB l).drop (i * 1) = _
  unfold cellsB
  rw [Nat.mul_one, ← List.map_drop, List.drop_eq_getElem_cons hi]; rfl
attribute [go_sem] p_tobytes vtobytes_str
end Go.Vm
namespace Go.Proofs.YtkdkojnlimadnaaDoor
open Go Go.Vm
set_option linter.unusedVariables false
set_option linter.unusedSimpArgs false
def isDig (c : UInt8) : Bool := decide (48 ≤ c.toNat) && decide (c.toNat ≤ 57)
/-- A numeral. -/
def isNum (l : List UInt8) : Bool := l.all isDig && (decide (l = [48]) || (decide (l ≠ []) && decide (l.head? ≠ some 48)))
theorem alld_take {l : List UInt8} {i : Nat} (h : i < l.length) : (l.take (i + 1)).all isDig = ((l.take i).all isDig && isDig l[i]) := by
  rw [← List.take_append_getElem h, List.all_append]; simp
theorem alld_false {l : List UInt8} {i : Nat} (h : i < l.length) (hp : isDig l[i] = false) : l.all isDig = false := by
  rw [Bool.eq_false_iff]; intro ha
  rw [List.all_eq_true] at ha
  rw [ha _ (List.getElem_mem h)] at hp; cases hp
theorem num_last {l : List UInt8} (ha : l.all isDig = true) (c2 : ¬ l = [48]) (c3 : ¬ l = []) (h0 : 0 < l.length) : decide (¬ ((l[0]).toNat : Int) = 48) = isNum l := by
  cases l with
  | nil => simp at h0
  | cons c r =>
    unfold isNum
    rw [ha]
    have : ((c.toNat : Int) = 48) = (c = 48) := propext ⟨fun h => UInt8.toNat_inj.1 (by show c.toNat = 48; omega), fun h => by rw [h]; rfl⟩
    simp [c2, this]
theorem numeral_ok [Tel] (s : St) (l : List UInt8) (hr : Room s) (hl : l.length ≤ 100000) : CA F.digits_Numeral [.str l] s = .ok (.bool (isNum l)) s := by
  have hb : Byt s (.ts (cellsB l) l.length l.length false) l := byt_ts l (by unfold limit; omega)
  have hrow : ∀ σ, Ext s σ → Byt σ (.ts (cellsB l) l.length l.length false) l := fun σ hx => byt_ts l (by unfold limit; omega)
  refine fn_of code_digits_Numeral (by simp) ?_
  simp only [go_sem, ↓reduceIte, Nat.reduceMod, Nat.reduceEqDiff, Nat.reduceAdd, Nat.reduceMul, Nat.reduceSub, Nat.reduceLeDiff, Nat.reduceLT, Int.reduceEq, Int.reduceLT, Int.reduceLE, Int.reduceAdd, Int.reduceSub, Int.reduceNeg, reduceCtorEq, Nat.reduceShiftRight, Nat.reduceAnd, Nat.reduceBNe, hb.vlen]
  generalize hv : AV.ts (cellsB l) l.length l.length false = v at *
  refine W_inv (fun k f τ => ∃ i : Nat, Sx s [] = τ ∧ k = l.length - i ∧ i ≤ l.length ∧ (l.take i).all isDig = true ∧ (vv 0).get f = .str l ∧ (vv 6).get f = v ∧ (vv 7).get f = .int .i64 (l.length : Int) ∧ (vv 8).get f = .int .i64 (i : Int)) ?_ ⟨0, rfl, rfl, Nat.zero_le _, by simp, ?_, ?_, ?_, ?_⟩
  · rintro k f τ ⟨i, rfl, rfl, hi, ha, g0, g6, g7, g8⟩
    by_cases c1 : i < l.length
    · have c1' : (i : Int) < (l.length : Int) := by omega
      by_cases c2 : (l[i].toNat : Int) < 48
      · have hd : isDig l[i] = false := by unfold isDig; simp; omega
        have hn : isNum l = false := by unfold isNum; rw [alld_false c1 hd]; rfl
        rw [hn]
        simp only [go_sem, ↓reduceIte, Nat.reduceMod, Nat.reduceEqDiff, Nat.reduceAdd, Nat.reduceMul, Nat.reduceSub, Nat.reduceLeDiff, Nat.reduceLT, Int.reduceEq, Int.reduceLT, Int.reduceLE, Int.reduceAdd, Int.reduceSub, Int.reduceNeg, reduceCtorEq, Nat.reduceShiftRight, Nat.reduceAnd, Nat.reduceBNe, g0, g6, g7, g8, Int.ofNat_lt, c1, hb.ia c1, hb.u8 c1, c2]
        exact settled_bool (Ext.refl s) rfl
      · by_cases c3 : (57 : Int) < (l[i].toNat : Int)
        · have hd : isDig l[i] = false := by unfold isDig; simp; omega
          have hn : isNum l = false := by unfold isNum; rw [alld_false c1 hd]; rfl
          rw [hn]
          simp only [go_sem, ↓reduceIte, Nat.reduceMod, Nat.reduceEqDiff, Nat.reduceAdd, Nat.reduceMul, Nat.reduceSub, Nat.reduceLeDiff, Nat.reduceLT, Int.reduceEq, Int.reduceLT, Int.reduceLE, Int.reduceAdd, Int.reduceSub, Int.reduceNeg, reduceCtorEq, Nat.reduceShiftRight, Nat.reduceAnd, Nat.reduceBNe, g0, g6, g7, g8, Int.ofNat_lt, c1, hb.ia c1, hb.u8 c1, c2, c3]
          exact settled_bool (Ext.refl s) rfl
        · have hd : isDig l[i] = true := by unfold isDig; simp; omega
          simp only [go_sem, ↓reduceIte, Nat.reduceMod, Nat.reduceEqDiff, Nat.reduceAdd, Nat.reduceMul, Nat.reduceSub, Nat.reduceLeDiff, Nat.reduceLT, Int.reduceEq, Int.reduceLT, Int.reduceLE, Int.reduceAdd, Int.reduceSub, Int.reduceNeg, reduceCtorEq, Nat.reduceShiftRight, Nat.reduceAnd, Nat.reduceBNe, g0, g6, g7, g8, Int.ofNat_lt, c1, hb.ia c1, hb.u8 c1, c2, c3]
          refine ⟨l.length - (i + 1), by omega, i + 1, rfl, by omega, ?_, ?_⟩
          · rw [alld_take c1, ha, hd]; rfl
          · rw [wrap_i64 (by omega) (by omega)]; congr 1
    · have e : i = l.length := by omega
      subst e
      rw [List.take_length] at ha
      by_cases c2 : l = [48]
      · have hn : isNum l = true := by rw [c2]; decide
        rw [hn]
        simp only [go_sem, ↓reduceIte, Nat.reduceMod, Nat.reduceEqDiff, Nat.reduceAdd, Nat.reduceMul, Nat.reduceSub, Nat.reduceLeDiff, Nat.reduceLT, Int.reduceEq, Int.reduceLT, Int.reduceLE, Int.reduceAdd, Int.reduceSub, Int.reduceNeg, reduceCtorEq, Nat.reduceShiftRight, Nat.reduceAnd, Nat.reduceBNe, g0, g6, g7, g8, Int.ofNat_lt, c1, decide_eq_true c2]
        exact settled_bool (Ext.refl s) rfl
      · by_cases c3 : l = []
        · have hn : isNum l = false := by rw [c3]; decide
          rw [hn]
          simp only [go_sem, ↓reduceIte, Nat.reduceMod, Nat.reduceEqDiff, Nat.reduceAdd, Nat.reduceMul, Nat.reduceSub, Nat.reduceLeDiff, Nat.reduceLT, Int.reduceEq, Int.reduceLT, Int.reduceLE, Int.reduceAdd, Int.reduceSub, Int.reduceNeg, reduceCtorEq, Nat.reduceShiftRight, Nat.reduceAnd, Nat.reduceBNe, g0, g6, g7, g8, Int.ofNat_lt, c1, decide_eq_false c2, ne_eq, c3, not_true_eq_false]
          exact settled_bool (Ext.refl s) rfl
        · have h0 : 0 < l.length := by cases l <;> simp_all
          simp only [go_sem, ↓reduceIte, Nat.reduceMod, Nat.reduceEqDiff, Nat.reduceAdd, Nat.reduceMul, Nat.reduceSub, Nat.reduceLeDiff, Nat.reduceLT, Int.reduceEq, Int.reduceLT, Int.reduceLE, Int.reduceAdd, Int.reduceSub, Int.reduceNeg, reduceCtorEq, Nat.reduceShiftRight, Nat.reduceAnd, Nat.reduceBNe, g0, g6, g7, g8, Int.ofNat_lt, c1, decide_eq_false c2, ne_eq, c3, not_false_eq_true, vsidx_0 h0]
          refine settled_bool (Ext.refl s) ?_
          exact num_last ha c2 c3 h0
  · simp only [go_sem, ↓reduceIte, Nat.reduceMod, Nat.reduceEqDiff, Nat.reduceAdd, Nat.reduceMul, Nat.reduceSub, Nat.reduceLeDiff, Nat.reduceLT, Int.reduceEq, Int.reduceLT, Int.reduceLE, Int.reduceAdd, Int.reduceSub, Int.reduceNeg, reduceCtorEq, Nat.reduceShiftRight, Nat.reduceAnd, Nat.reduceBNe]
  · simp only [go_sem, ↓reduceIte, Nat.reduceMod, Nat.reduceEqDiff, Nat.reduceAdd, Nat.reduceMul, Nat.reduceSub, Nat.reduceLeDiff, Nat.reduceLT, Int.reduceEq, Int.reduceLT, Int.reduceLE, Int.reduceAdd, Int.reduceSub, Int.reduceNeg, reduceCtorEq, Nat.reduceShiftRight, Nat.reduceAnd, Nat.reduceBNe]
  · simp only [go_sem, ↓reduceIte, Nat.reduceMod, Nat.reduceEqDiff, Nat.reduceAdd, Nat.reduceMul, Nat.reduceSub, Nat.reduceLeDiff, Nat.reduceLT, Int.reduceEq, Int.reduceLT, Int.reduceLE, Int.reduceAdd, Int.reduceSub, Int.reduceNeg, reduceCtorEq, Nat.reduceShiftRight, Nat.reduceAnd, Nat.reduceBNe]
  · simp only [go_sem, ↓reduceIte, Nat.reduceMod, Nat.reduceEqDiff, Nat.reduceAdd, Nat.reduceMul, Nat.reduceSub, Nat.reduceLeDiff, Nat.reduceLT, Int.reduceEq, Int.reduceLT, Int.reduceLE, Int.reduceAdd, Int.reduceSub, Int.reduceNeg, reduceCtorEq, Nat.reduceShiftRight, Nat.reduceAnd, Nat.reduceBNe]
    rfl
theorem ref_numeral_ok [Tel] (s : St) (l : List UInt8) (hl : l.length ≤ 100000) : CA F.ref1_Numeral [.str l] s = .ok (.bool (isNum l)) s := by
  refine fn_of code_ref1_Numeral (by simp) ?_
  simp only [go_sem, ↓reduceIte, Nat.reduceMod, Nat.reduceEqDiff, Nat.reduceAdd, Nat.reduceMul, Nat.reduceSub, Nat.reduceLeDiff, Nat.reduceLT, Int.reduceEq, Int.reduceLT, Int.reduceLE, Int.reduceAdd, Int.reduceSub, Int.reduceNeg, reduceCtorEq, Nat.reduceShiftRight, Nat.reduceAnd, Nat.reduceBNe]
  refine W_inv (fun k f τ => ∃ i : Nat, Sx s [] = τ ∧ k = l.length - i ∧ i ≤ l.length ∧ (l.take i).all isDig = true ∧ (vv 0).get f = .str l ∧ (vv 3).get f = .int .i64 (i : Int)) ?_ ⟨0, rfl, rfl, Nat.zero_le _, by simp, ?_, ?_⟩
  · rintro k f τ ⟨i, rfl, rfl, hi, ha, g0, g3⟩
    by_cases c1 : i < l.length
    · by_cases c2 : (l[i].toNat : Int) < 48
      · have hd : isDig l[i] = false := by unfold isDig; simp; omega
        have hn : isNum l = false := by unfold isNum; rw [alld_false c1 hd]; rfl
        rw [hn]
        simp only [go_sem, ↓reduceIte, Nat.reduceMod, Nat.reduceEqDiff, Nat.reduceAdd, Nat.reduceMul, Nat.reduceSub, Nat.reduceLeDiff, Nat.reduceLT, Int.reduceEq, Int.reduceLT, Int.reduceLE, Int.reduceAdd, Int.reduceSub, Int.reduceNeg, reduceCtorEq, Nat.reduceShiftRight, Nat.reduceAnd, Nat.reduceBNe, g0, g3, Int.ofNat_lt, c1, vsidx_n c1, c2]
        exact settled_bool (Ext.refl s) rfl
      · by_cases c3 : (57 : Int) < (l[i].toNat : Int)
        · have hd : isDig l[i] = false := by unfold isDig; simp; omega
          have hn : isNum l = false := by unfold isNum; rw [alld_false c1 hd]; rfl
          rw [hn]
          simp only [go_sem, ↓reduceIte, Nat.reduceMod, Nat.reduceEqDiff, Nat.reduceAdd, Nat.reduceMul, Nat.reduceSub, Nat.reduceLeDiff, Nat.reduceLT, Int.reduceEq, Int.reduceLT, Int.reduceLE, Int.reduceAdd, Int.reduceSub, Int.reduceNeg, reduceCtorEq, Nat.reduceShiftRight, Nat.reduceAnd, Nat.reduceBNe, g0, g3, Int.ofNat_lt, c1, vsidx_n c1, c2, c3]
          exact settled_bool (Ext.refl s) rfl
        · have hd : isDig l[i] = true := by unfold isDig; simp; omega
          simp only [go_sem, ↓reduceIte, Nat.reduceMod, Nat.reduceEqDiff, Nat.reduceAdd, Nat.reduceMul, Nat.reduceSub, Nat.reduceLeDiff, Nat.reduceLT, Int.reduceEq, Int.reduceLT, Int.reduceLE, Int.reduceAdd, Int.reduceSub, Int.reduceNeg, reduceCtorEq, Nat.reduceShiftRight, Nat.reduceAnd, Nat.reduceBNe, g0, g3, Int.ofNat_lt, c1, vsidx_n c1, c2, c3]
          refine ⟨l.length - (i + 1), by omega, i + 1, rfl, by omega, ?_, ?_⟩
          · rw [alld_take c1, ha, hd]; rfl
          · rw [wrap_i64 (by omega) (by omega)]; congr 1
    · have e : i = l.length := by omega
      subst e
      rw [List.take_length] at ha
      by_cases c3 : l = []
      · have hn : isNum l = false := by rw [c3]; decide
        rw [hn]
        have h0 : ¬ (0 : Int) < (l.length : Int) := by rw [c3]; simp
        simp only [go_sem, ↓reduceIte, Nat.reduceMod, Nat.reduceEqDiff, Nat.reduceAdd, Nat.reduceMul, Nat.reduceSub, Nat.reduceLeDiff, Nat.reduceLT, Int.reduceEq, Int.reduceLT, Int.reduceLE, Int.reduceAdd, Int.reduceSub, Int.reduceNeg, reduceCtorEq, Nat.reduceShiftRight, Nat.reduceAnd, Nat.reduceBNe, g0, g3, Int.ofNat_lt, c1, h0]
        exact settled_bool (Ext.refl s) rfl
      · have h0 : 0 < l.length := by cases l <;> simp_all
        have h0' : (0 : Int) < (l.length : Int) := by omega
        by_cases c2 : l = [48]
        · have hn : isNum l = true := by rw [c2]; decide
          rw [hn]
          simp only [go_sem, ↓reduceIte, Nat.reduceMod, Nat.reduceEqDiff, Nat.reduceAdd, Nat.reduceMul, Nat.reduceSub, Nat.reduceLeDiff, Nat.reduceLT, Int.reduceEq, Int.reduceLT, Int.reduceLE, Int.reduceAdd, Int.reduceSub, Int.reduceNeg, reduceCtorEq, Nat.reduceShiftRight, Nat.reduceAnd, Nat.reduceBNe, g0, g3, Int.ofNat_lt, c1, h0', decide_eq_true c2]
          exact settled_bool (Ext.refl s) rfl
        · simp only [go_sem, ↓reduceIte, Nat.reduceMod, Nat.reduceEqDiff, Nat.reduceAdd, Nat.reduceMul, Nat.reduceSub, Nat.reduceLeDiff, Nat.reduceLT, Int.reduceEq, Int.reduceLT, Int.reduceLE, Int.reduceAdd, Int.reduceSub, Int.reduceNeg, reduceCtorEq, Nat.reduceShiftRight, Nat.reduceAnd, Nat.reduceBNe, g0, g3, Int.ofNat_lt, c1, h0', decide_eq_false c2, ne_eq, vsidx_0 h0]
          exact settled_bool (Ext.refl s) (num_last ha c2 c3 h0)
  · simp only [go_sem, ↓reduceIte, Nat.reduceMod, Nat.reduceEqDiff, Nat.reduceAdd, Nat.reduceMul, Nat.reduceSub, Nat.reduceLeDiff, Nat.reduceLT, Int.reduceEq, Int.reduceLT, Int.reduceLE, Int.reduceAdd, Int.reduceSub, Int.reduceNeg, reduceCtorEq, Nat.reduceShiftRight, Nat.reduceAnd, Nat.reduceBNe]
  · simp only [go_sem, ↓reduceIte, Nat.reduceMod, Nat.reduceEqDiff, Nat.reduceAdd, Nat.reduceMul, Nat.reduceSub, Nat.reduceLeDiff, Nat.reduceLT, Int.reduceEq, Int.reduceLT, Int.reduceLE, Int.reduceAdd, Int.reduceSub, Int.reduceNeg, reduceCtorEq, Nat.reduceShiftRight, Nat.reduceAnd, Nat.reduceBNe]
    rfl
end Go.Proofs.YtkdkojnlimadnaaDoor
namespace Go.Proofs.YtkdkojnlimadnaaDoor
open Go Go.Vm Go.Lib
set_option linter.unusedVariables false
/-- k digits of a number, the first ahead. -/
def padk : Nat → Nat → List UInt8
  | 0, _ => []
  | k + 1, a => padk k (a / 10) ++ [UInt8.ofNat (48 + a % 10)]
theorem padk_len (k a : Nat) : (padk k a).length = k := by
  induction k generalizing a with
  | zero => rfl
  | succ k ih => simp [padk, ih]
theorem dec_small {a : Nat} (h : a < 10) : decDigits a = [UInt8.ofNat (48 + a)] := by rw [decDigits, dif_pos h]
theorem dec_big {a : Nat} (h : ¬ a < 10) : decDigits a = decDigits (a / 10) ++ [UInt8.ofNat (48 + a % 10)] := by rw [decDigits, dif_neg h]
theorem dec_pad (k : Nat) {m : Nat} (hm : 0 < m) (a : Nat) (h : a < 10 ^ k) : decDigits (a + 10 ^ k * m) = decDigits m ++ padk k a := by
  induction k generalizing a with
  | zero => simp [padk] at h ⊢; subst h; simp
  | succ k ih =>
    have hp : 1 ≤ 10 ^ k := Nat.one_le_pow _ _ (by decide)
    have h1 : 10 ≤ 10 ^ (k + 1) * m := by
      have : 10 * 1 ≤ 10 ^ (k + 1) * m := Nat.mul_le_mul (by rw [Nat.pow_succ]; omega) hm
      omega
    rw [dec_big (by omega)]
    have e : 10 ^ (k + 1) * m = 10 * (10 ^ k * m) := by rw [Nat.pow_succ, Nat.mul_comm (10 ^ k) 10, Nat.mul_assoc]
    have e1 : (a + 10 ^ (k + 1) * m) / 10 = a / 10 + 10 ^ k * m := by rw [e]; omega
    have e2 : (a + 10 ^ (k + 1) * m) % 10 = a % 10 := by rw [e]; omega
    rw [e1, e2, ih (a / 10) (by rw [Nat.pow_succ] at h; omega), padk, List.append_assoc]
theorem pad_zero (k : Nat) : padk k 0 = List.replicate k 48 := by
  induction k with
  | zero => rfl
  | succ k ih => rw [padk, Nat.zero_div, ih, List.replicate_succ']; rfl
theorem pad_eq (k : Nat) {a : Nat} (hk : 1 ≤ k) (h : a < 10 ^ k) : repeatL [48] (k - (decDigits a).length) ++ decDigits a = padk k a := by
  have hr : ∀ n, repeatL [48] n = List.replicate n (48 : UInt8) := fun n => by
    induction n with
    | zero => rfl
    | succ n ih => rw [repeatL, ih, List.replicate_succ]; rfl
  rw [hr]
  induction k generalizing a with
  | zero => omega
  | succ k ih =>
    by_cases ha : a < 10
    · rw [dec_small ha, padk, Nat.div_eq_of_lt ha, Nat.mod_eq_of_lt ha, pad_zero]; simp
    · have hk1 : 1 ≤ k := by
        rcases k with _ | k
        · simp at h; omega
        · omega
      rw [dec_big ha, padk, ← ih hk1 (by rw [Nat.pow_succ] at h; omega), List.length_append]
      simp [List.append_assoc]
theorem dec_len_pos (n : Nat) : 0 < (decDigits n).length := by rw [decDigits_length]; exact nDigits_pos n
theorem dec_len_le {n k : Nat} (hk : 1 ≤ k) (h : n < 10 ^ k) : (decDigits n).length ≤ k := by
  have := congrArg List.length (pad_eq k hk h)
  rw [padk_len, List.length_append] at this
  omega
theorem dec_len_val {l : List Nat} (h : small l) (h0 : l ≠ []) : (decDigits (val l)).length ≤ 9 * l.length := by
  have h1 := val_lt h
  have h2 : 1 ≤ l.length := by cases l <;> simp_all
  rw [show (1000000000 : Nat) = 10 ^ 9 by rfl, ← Nat.pow_mul] at h1
  exact dec_len_le (by omega) h1
/-- The limbs from a place on, then one more. -/
theorem dec_step {l : List Nat} {i : Nat} (hi : i < l.length) (h : l[i] < 1000000000) (hv : 0 < val (l.drop (i + 1))) : decDigits (val (l.drop i)) = decDigits (val (l.drop (i + 1))) ++ (repeatL [48] (9 - (decDigits l[i]).length) ++ decDigits l[i]) := by
  rw [List.drop_eq_getElem_cons hi]
  have e : val (l[i] :: l.drop (i + 1)) = l[i] + 10 ^ 9 * val (l.drop (i + 1)) := by simp [val]
  rw [e, dec_pad 9 hv _ (by omega), pad_eq 9 (by omega) (by omega)]
end Go.Proofs.YtkdkojnlimadnaaDoor
namespace Go.Vm
set_option linter.unusedVariables false
noncomputable def vsslo (a l : AV) (s : St) : R := a.onStr .no fun t => l.idx (t.length + 1) fun l => .ok (.str (t.drop l)) s
theorem p_sslo (call : CallT) (f : Fr AV) (s : St) (x h : CO) : exop (.sslice x (some h) none) call f s = vsslo (ev1 f x) (ev1 f h) s := by
  show (ev1 f x).onStr R.no (fun l => bnd none (ln l) (ln l) fun h1 => bnd (some (ev1 f h)) h1 0 fun lo => .ok (.str (dr lo (tk h1 l))) s) = _
  simp only [ln_eq, dr_eq, tk_eq]
  show (ev1 f x).onStr R.no (fun l => (ev1 f h).idx (l.length + 1) fun lo => .ok (.str ((l.take l.length).drop lo)) s) = _
  simp only [List.take_length]; rfl
theorem vsslo_eq {j : IntKind} {l : List UInt8} {i : Int} (h0 : 0 ≤ i) (h1 : i ≤ l.length) (s : St) : vsslo (.str l) (.int j i) s = .ok (.str (l.drop i.toNat)) s := idx_eq (j := j) h0 (by omega) fun h => .ok (.str (l.drop h)) s
attribute [go_sem] p_sslo
end Go.Vm
namespace Go.Proofs.YtkdkojnlimadnaaDoor
open Go Go.Vm
set_option linter.unusedVariables false
set_option linter.unusedSimpArgs false
/-- A row of limbs of one's own. -/
def OwnN (n : Nat) (σ : St) (av : AV) (l : List Nat) : Prop := (av = .nils ∧ l = []) ∨ ∃ b : Vm.Id, av = .sl b 0 l.length l.length 1 ∧ l ≠ [] ∧ σ.obj b = .cells (cellsN l) ∧ b.val < σ.n.val ∧ n ≤ b.val
theorem own_app {n : Nat} {σ : St} {av : AV} {l : List Nat} (hr : Room σ) (hn : n ≤ σ.n.val) (own : OwnN n σ av l) (x : Nat) {L : List AO} (hL0 : L.length ≤ 100) (hroom : σ.n.val + L.length + 1 ≤ 60000) (hl : l.length ≤ 10000) {i : Nat} (hL : L[i]? = some (.cells [.int .u32 (x : Int)])) :
    ∃ σ' av', vapp 1 4 av (.sl (nm σ i) 0 1 1 0) (Sx σ L) = .ok av' (Sx σ' []) ∧ Room σ' ∧ σ'.n.val = σ.n.val + L.length + 1 ∧ OwnN n σ' av' (l ++ [x]) ∧ ∀ c : Vm.Id, c.val < n → σ'.obj c = σ.obj c := by
  rcases own with ⟨rfl, rfl⟩ | ⟨b, rfl, hne, ho, hb, hbn⟩
  · refine ⟨Sx σ (L ++ [.cells [.int .u32 (x : Int)]]), _, vapp_one0 hr (by omega) hL (by unfold limit; omega), hr.Sx (by simp; omega) (by simp; omega), by rw [Sx_n hr (by simp; omega)]; simp; omega, .inr ⟨nm σ L.length, rfl, by simp, ?_, ?_, ?_⟩, fun c hc => Sx_old hr (by simp; omega) (by omega)⟩
    · have h := Sx_obj? hr (l := L ++ [.cells [.int .u32 (x : Int)]]) (by simp; omega) (i := L.length) (o := .cells [.int .u32 (x : Int)]) (by simp)
      rw [h]; rfl
    · rw [nm_val hr (by omega), Sx_n hr (by simp; omega)]; simp
    · rw [nm_val hr (by omega)]; omega
  · have hrb := hr.put hb .dead
    refine ⟨Sx (σ.put b .dead) (L ++ [.cells (cellsN l ++ [.int .u32 (x : Int)])]), _, vapp_one hr (by omega) hb ho (by simp [cellsN]) hL (by unfold limit; omega) (by unfold limit; omega), hrb.Sx (by rw [put_n]; simp; omega) (by simp; omega), by rw [Sx_n hrb (by simp; omega), put_n]; simp; omega, .inr ⟨nm σ L.length, by simp, by simp, ?_, ?_, ?_⟩, fun c hc => ?_⟩
    · have h := Sx_obj? hrb (l := L ++ [.cells (cellsN l ++ [.int .u32 (x : Int)])]) (by simp; omega) (i := L.length) (by simp; rfl)
      rw [nm_put] at h
      rw [h]; simp [cellsN]
    · rw [nm_val hr (by omega), Sx_n hrb (by simp; omega), put_n]; simp
    · rw [nm_val hr (by omega)]; omega
    · rw [Sx_old hrb (by simp; omega) (by rw [put_n]; omega), put_ne (by omega)]
/-- Given away. -/
noncomputable def avN (l : List Nat) : AV := if l = [] then .nils else .ts (cellsN l) l.length l.length false
theorem avN_nats (t : St) (l : List Nat) (hl : l.length ≤ 140737488355328) : Nats t (avN l) l := by
  unfold avN
  by_cases h : l = []
  · subst h; exact nats_nil t
  · rw [if_neg h]; exact nats_ts l hl _ _
theorem OwnN.one {n : Nat} {σ : St} {av : AV} {l : List Nat} (h : OwnN n σ av l) : av.one = true := by
  rcases h with ⟨rfl, _⟩ | ⟨b, rfl, _⟩ <;> rfl
theorem OwnN.fz {n : Nat} {σ : St} {av : AV} {l : List Nat} (h : OwnN n σ av l) : Fz n σ av (avN l) := by
  unfold avN
  rcases h with ⟨rfl, rfl⟩ | ⟨b, rfl, hne, h1, h2, h3⟩
  · exact .nils
  · rw [if_neg hne]
    refine .slN b 0 l.length l.length 1 (cellsN l) (cellsN l) h3 h1 rfl (fun j c d hc hd => ?_)
    have hc' : (cellsN l)[j]? = some c := hc
    rw [hd] at hc'; cases hc'
    obtain ⟨m, _, rfl⟩ := List.mem_map.mp (List.mem_of_getElem? hd)
    exact .int _ _
theorem OwnN.nats {n : Nat} {σ : St} {av : AV} {l : List Nat} (h : OwnN n σ av l) (hl : l.length ≤ 140737488355328) : Nats σ av l := by
  rcases h with ⟨rfl, rfl⟩ | ⟨b, rfl, hne, h1, h2, h3⟩
  · exact nats_nil _
  · refine ⟨.sl b 0 _ _ 1 (cellsN l) hl h1 h2 (Nat.zero_le _), rfl, fun i hi => ?_⟩
    have hrow : rowOf σ (.sl b 0 l.length l.length 1) = cellsN l := by show (σ.obj b).row.drop 0 = _; rw [h1]; rfl
    rw [hrow, Nat.mul_one]
    obtain ⟨hh1, hh2⟩ := List.getElem?_eq_some_iff.mp (show (cellsN l)[i]? = some (.int .u32 (l[i] : Int)) by unfold cellsN; rw [List.getElem?_map, List.getElem?_eq_getElem hi]; rfl)
    rw [List.drop_eq_getElem_cons hh1, hh2]
    exact ⟨_, rfl⟩
theorem own_fn {s σ : St} {av : AV} {l : List Nat} (own : OwnN s.n.val σ av l) (hx : Ext s σ) : Settled s av σ (avN l) s := settled_fz hx own.fz
/-- A text's worth. -/
def dvf (a : Nat) (l : List UInt8) : Nat := l.foldl (fun a c => 10 * a + (c.toNat - 48)) a
def dv (l : List UInt8) : Nat := dvf 0 l
theorem dvf_lt {l : List UInt8} (h : l.all isDig = true) (a : Nat) : dvf a l < (a + 1) * 10 ^ l.length := by
  induction l generalizing a with
  | nil => simp [dvf]
  | cons c l ih =>
    simp only [List.all_cons, Bool.and_eq_true] at h
    have hd := h.1
    unfold isDig at hd
    simp only [Bool.and_eq_true, decide_eq_true_eq] at hd
    have := ih h.2 (10 * a + (c.toNat - 48))
    show dvf (10 * a + (c.toNat - 48)) l < _
    refine Nat.lt_of_lt_of_le this ?_
    rw [List.length_cons, Nat.pow_succ, Nat.mul_comm (10 ^ l.length) 10, ← Nat.mul_assoc]
    exact Nat.mul_le_mul_right _ (by omega)
theorem dv_lt {l : List UInt8} (h : l.all isDig = true) : dv l < 10 ^ l.length := by have := dvf_lt h 0; simpa [dv] using this
theorem dvf_app (a : Nat) (l m : List UInt8) : dvf a (l ++ m) = dvf (dvf a l) m := by unfold dvf; rw [List.foldl_append]
theorem dvf_lin (a : Nat) (l : List UInt8) : dvf a l = a * 10 ^ l.length + dv l := by
  induction l generalizing a with
  | nil => simp [dvf, dv]
  | cons c l ih =>
    show dvf (10 * a + (c.toNat - 48)) l = a * 10 ^ (l.length + 1) + dvf (10 * 0 + (c.toNat - 48)) l
    rw [ih, ih (10 * 0 + (c.toNat - 48)), Nat.add_mul, Nat.add_mul, Nat.pow_succ]
    have : 10 * a * 10 ^ l.length = a * (10 ^ l.length * 10) := by rw [Nat.mul_comm 10 a, Nat.mul_assoc, Nat.mul_comm 10]
    omega
theorem dv_app (l m : List UInt8) : dv (l ++ m) = dv l * 10 ^ m.length + dv m := by rw [show dv (l ++ m) = dvf (dv l) m from dvf_app 0 l m, dvf_lin]
theorem atoi_dv {l : List UInt8} (h : l.all isDig = true) (h0 : l ≠ []) : Lib.atoi l = some (dv l : Int) := by
  have key : ∀ (m : List UInt8) (a : Nat), m.all isDig = true → Lib.decFrom a m = some (dvf a m) := by
    intro m
    induction m with
    | nil => intro a _; rfl
    | cons c m ih =>
      intro a hm
      simp only [List.all_cons, Bool.and_eq_true] at hm
      have hd := hm.1
      unfold isDig at hd
      simp only [Bool.and_eq_true, decide_eq_true_eq] at hd
      have e : Lib.digitVal c = some (c.toNat - 48) := by unfold Lib.digitVal; rw [if_pos hd]
      unfold Lib.decFrom
      rw [e]
      show Lib.decFrom (a * 10 + (c.toNat - 48)) m = _
      rw [ih _ hm.2, Nat.mul_comm a 10]; rfl
  cases l with
  | nil => exact absurd rfl h0
  | cons c r =>
    have hd : isDig c = true := by simp only [List.all_cons, Bool.and_eq_true] at h; exact h.1
    unfold isDig at hd
    simp only [Bool.and_eq_true, decide_eq_true_eq] at hd
    have n1 : (c == 45) = false := by rw [beq_eq_false_iff_ne]; intro e; rw [e] at hd; exact absurd hd.1 (by decide)
    have n2 : (c == 43) = false := by rw [beq_eq_false_iff_ne]; intro e; rw [e] at hd; exact absurd hd.1 (by decide)
    unfold Lib.atoi
    simp only [n1, n2]
    unfold Lib.decNat
    simp only [List.isEmpty_cons, Bool.false_eq_true, if_false]
    rw [key _ _ h]; rfl
/-- A text's limbs, the lowest first. -/
def chunk (l : List UInt8) : List Nat := if h : l = [] then [] else dv (l.drop (l.length - 9)) :: chunk (l.take (l.length - 9))
termination_by l.length
decreasing_by
  have : 0 < l.length := by cases l <;> simp_all
  rw [List.length_take]; omega
theorem chunk_nil : chunk [] = [] := by rw [chunk]; simp
theorem chunk_pos {l : List UInt8} (h : l ≠ []) : chunk l = dv (l.drop (l.length - 9)) :: chunk (l.take (l.length - 9)) := by rw [chunk, dif_neg h]
theorem all_take_d {l : List UInt8} (h : l.all isDig = true) (k : Nat) : (l.take k).all isDig = true := by rw [List.all_eq_true] at h ⊢; exact fun x hx => h x (List.mem_of_mem_take hx)
theorem all_drop_d {l : List UInt8} (h : l.all isDig = true) (k : Nat) : (l.drop k).all isDig = true := by rw [List.all_eq_true] at h ⊢; exact fun x hx => h x (List.mem_of_mem_drop hx)
theorem dv_chunk_lt {l : List UInt8} (h : l.all isDig = true) : dv (l.drop (l.length - 9)) < 1000000000 := by
  have h1 := dv_lt (all_drop_d h (l.length - 9))
  have h2 : (l.drop (l.length - 9)).length ≤ 9 := by rw [List.length_drop]; omega
  have h3 : 10 ^ (l.drop (l.length - 9)).length ≤ 10 ^ 9 := Nat.pow_le_pow_right (by omega) h2
  omega
theorem chunk_small : ∀ (n : Nat) (l : List UInt8), l.length ≤ n → l.all isDig = true → small (chunk l) := by
  intro n
  induction n with
  | zero => intro l hl _; rw [List.eq_nil_of_length_eq_zero (by omega : l.length = 0), chunk_nil]; intro a ha; cases ha
  | succ n ih =>
    intro l hl h
    by_cases h0 : l = []
    · rw [h0, chunk_nil]; intro a ha; cases ha
    · have hp : 0 < l.length := by cases l <;> simp_all
      rw [chunk_pos h0]
      intro a ha
      rcases List.mem_cons.1 ha with rfl | ha
      · exact dv_chunk_lt h
      · exact ih _ (by rw [List.length_take]; omega) (all_take_d h _) a ha
theorem chunk_val : ∀ (n : Nat) (l : List UInt8), l.length ≤ n → val (chunk l) = dv l := by
  intro n
  induction n with
  | zero => intro l hl; rw [List.eq_nil_of_length_eq_zero (by omega : l.length = 0), chunk_nil]; rfl
  | succ n ih =>
    intro l hl
    by_cases h0 : l = []
    · rw [h0, chunk_nil]; rfl
    · have hp : 0 < l.length := by cases l <;> simp_all
      rw [chunk_pos h0]
      show dv (l.drop (l.length - 9)) + 1000000000 * val (chunk (l.take (l.length - 9))) = dv l
      rw [ih _ (by rw [List.length_take]; omega)]
      have e := dv_app (l.take (l.length - 9)) (l.drop (l.length - 9))
      rw [List.take_append_drop] at e
      rw [e]
      by_cases h9 : l.length ≤ 9
      · rw [show l.length - 9 = 0 by omega, List.take_zero]
        show _ + 1000000000 * 0 = 0 * _ + _
        omega
      · rw [List.length_drop, show l.length - (l.length - 9) = 9 by omega]
        have : (10 : Nat) ^ 9 = 1000000000 := rfl
        rw [this, Nat.mul_comm 1000000000]; omega
theorem chunk_len : ∀ (n : Nat) (l : List UInt8), l.length ≤ n → 9 * (chunk l).length ≤ l.length + 8 := by
  intro n
  induction n with
  | zero => intro l hl; rw [List.eq_nil_of_length_eq_zero (by omega : l.length = 0), chunk_nil]; simp
  | succ n ih =>
    intro l hl
    by_cases h0 : l = []
    · rw [h0, chunk_nil]; simp
    · have hp : 0 < l.length := by cases l <;> simp_all
      rw [chunk_pos h0, List.length_cons]
      have := ih (l.take (l.length - 9)) (by rw [List.length_take]; omega)
      rw [List.length_take] at this
      by_cases h9 : l.length ≤ 9
      · rw [show l.length - 9 = 0 by omega, List.take_zero, chunk_nil]; simp; omega
      · omega
theorem limbs_eq {l : List UInt8} (h : l.all isDig = true) : trim0 (chunk l) = lims (dv l) := by rw [trim0_eq (chunk_small _ l (Nat.le_refl _) h), chunk_val _ l (Nat.le_refl _)]
end Go.Proofs.YtkdkojnlimadnaaDoor
namespace Go.Proofs.YtkdkojnlimadnaaDoor
open Go Go.Vm
set_option linter.unusedVariables false
set_option linter.unusedSimpArgs false
theorem told_ok [Tel] {g : Vm.Id} {b : List AV → St → R} {a : List AV} {s s' : St} {r : AV} (h : g.get BT = b) (hb : b a s = .ok r s') : CA g a s = .ok r s' := cc_ok.mpr (.base _ _ _ _ _ (by rw [h]; exact hb))
theorem atoi_call [Tel] (s : St) {l : List UInt8} (h : l.all isDig = true) (h0 : l ≠ []) (hl : l.length ≤ 18) : CA F.strconv_Atoi [.str l] s = .ok (.tup [.int .i64 (dv l : Int), .nili]) s := by
  refine told_ok told_strconv_Atoi ?_
  unfold Atoi_B
  simp only [if_pos hl, atoi_dv h h0]
theorem dv_pos {c : UInt8} {r : List UInt8} (h : 49 ≤ c.toNat) : 0 < dv (c :: r) := by
  show 0 < dvf (10 * 0 + (c.toNat - 48)) r
  rw [dvf_lin]
  have : 0 < (10 * 0 + (c.toNat - 48)) * 10 ^ r.length := Nat.mul_pos (by omega) (Nat.pow_pos (by omega))
  omega
theorem chunk_last {c : UInt8} (hc : 49 ≤ c.toNat) : ∀ (n : Nat) (l : List UInt8), l.length ≤ n → l.head? = some c → (chunk l).getLast? ≠ some 0 := by
  intro n
  induction n with
  | zero => intro l hl hh; rw [List.eq_nil_of_length_eq_zero (by omega : l.length = 0)] at hh; cases hh
  | succ n ih =>
    intro l hl hh
    have h0 : l ≠ [] := by intro e; rw [e] at hh; cases hh
    rw [chunk_pos h0]
    by_cases h9 : l.length ≤ 9
    · rw [show l.length - 9 = 0 by omega, List.take_zero, chunk_nil, List.drop_zero]
      cases l with
      | nil => cases hh
      | cons d r =>
        cases hh
        have := dv_pos (r := r) hc
        simp; omega
    · have h1 : l.take (l.length - 9) ≠ [] := by intro e; have := congrArg List.length e; rw [List.length_take] at this; simp at this; omega
      have := ih (l.take (l.length - 9)) (by rw [List.length_take]; omega) (by rw [List.head?_take, if_neg (by omega)]; exact hh)
      rw [List.getLast?_cons]
      have h2 : chunk (l.take (l.length - 9)) ≠ [] := by rw [chunk_pos h1]; simp
      cases hq : (chunk (l.take (l.length - 9))).getLast? with
      | none => rw [List.getLast?_eq_none_iff] at hq; exact absurd hq h2
      | some x => rw [hq] at this; simpa using this
theorem num_limbs {l : List UInt8} (h : isNum l = true) : (chunk l = [0] ∧ lims (dv l) = []) ∨ (chunk l ≠ [0] ∧ lims (dv l) = chunk l) := by
  unfold isNum at h
  simp only [Bool.and_eq_true, Bool.or_eq_true, decide_eq_true_eq] at h
  obtain ⟨ha, h1⟩ := h
  rcases h1 with rfl | ⟨h0, hh⟩
  · left
    have e : chunk [48] = [0] := by rw [chunk_pos (by simp)]; simp [chunk_nil, dv, dvf]
    refine ⟨e, ?_⟩
    rw [← limbs_eq ha, e]; rfl
  · right
    cases l with
    | nil => exact absurd rfl h0
    | cons c r =>
      have hd : isDig c = true := by simp only [List.all_cons, Bool.and_eq_true] at ha; exact ha.1
      unfold isDig at hd
      simp only [Bool.and_eq_true, decide_eq_true_eq] at hd
      have hc : 49 ≤ c.toNat := by
        have : c.toNat ≠ 48 := fun e => hh (by rw [List.head?_cons]; congr 1; exact UInt8.toNat_inj.1 e)
        omega
      have hl := chunk_last hc _ (c :: r) (Nat.le_refl _) rfl
      have hs := chunk_small _ (c :: r) (Nat.le_refl _) ha
      have hn : natIs (chunk (c :: r)) = true := by
        unfold natIs
        simp only [Bool.and_eq_true, decide_eq_true_eq, List.all_eq_true]
        exact ⟨hs, hl⟩
      refine ⟨fun e => by rw [e] at hl; exact hl rfl, ?_⟩
      have hv := chunk_val _ (c :: r) (Nat.le_refl _)
      rw [← hv]
      exact lims_val hn
theorem limbs_ok [Tel] (s : St) (l : List UInt8) (hr : Room s) (hn : s.n.val ≤ 50000) (hl : l.length ≤ 5000) (h : isNum l = true) : CA F.digits_Limbs [.str l] s = .ok (avN (lims (dv l))) s := by
  have ha : l.all isDig = true := by unfold isNum at h; simp only [Bool.and_eq_true] at h; exact h.1
  have hcl := chunk_len _ l (Nat.le_refl _)
  refine fn_of code_digits_Limbs (by simp) ?_
  simp only [go_sem, ↓reduceIte, Nat.reduceMod, Nat.reduceEqDiff, Nat.reduceAdd, Nat.reduceMul, Nat.reduceSub, Nat.reduceLeDiff, Nat.reduceLT, Int.reduceEq, Int.reduceLT, Int.reduceLE, Int.reduceAdd, Int.reduceSub, Int.reduceNeg, reduceCtorEq, Nat.reduceShiftRight, Nat.reduceAnd, Nat.reduceBNe]
  refine W_inv (fun k f τ => ∃ (rest : List UInt8) (out : List Nat) (σ : St) (av : AV), Sx σ [] = τ ∧ Room σ ∧ Ext s σ ∧ σ.n.val ≤ s.n.val + 2 * out.length ∧ k = rest.length ∧ rest.length ≤ l.length ∧ rest.all isDig = true ∧ out ++ chunk rest = chunk l ∧ OwnN s.n.val σ av out ∧ (vv 0).get f = .str rest ∧ (vv 3).get f = av) ?_ ⟨l, [], s, .nils, rfl, hr, Ext.refl s, by simp, rfl, Nat.le_refl _, ha, rfl, .inl ⟨rfl, rfl⟩, ?_, ?_⟩
  · rintro k f τ ⟨rest, out, σ, av, rfl, hr1, hx, hn1, rfl, hrl, hra, hch, own, g0, g3⟩
    have hol : out.length ≤ (chunk l).length := by rw [← hch, List.length_append]; omega
    by_cases c1 : rest = []
    · have c1' : ¬ (0 : Int) < (rest.length : Int) := by rw [c1]; simp
      rw [c1, chunk_nil, List.append_nil] at hch
      have hown := own.nats (by omega)
      rcases num_limbs h with ⟨h1, h2⟩ | ⟨h1, h2⟩
      · have e1 : out = [0] := hch.trans h1
        have hi0 : 0 < out.length := by rw [e1]; simp
        have e2 : (out.length : Int) = 1 := by rw [e1]; rfl
        have e3 : (out[0] : Int) = 0 := by simp [e1]
        simp only [go_sem, ↓reduceIte, Nat.reduceMod, Nat.reduceEqDiff, Nat.reduceAdd, Nat.reduceMul, Nat.reduceSub, Nat.reduceLeDiff, Nat.reduceLT, Int.reduceEq, Int.reduceLT, Int.reduceLE, Int.reduceAdd, Int.reduceSub, Int.reduceNeg, reduceCtorEq, Nat.reduceShiftRight, Nat.reduceAnd, Nat.reduceBNe, g0, g3, c1', hown.vlen, e2, hown.ia0 hi0, hown.u32 hi0, e3, own.one]
        rw [h2, show avN [] = .nils from if_pos rfl]
        exact settled_ov hx (ov_nils _)
      · rw [h2, ← hch]
        by_cases e1 : out.length = 1
        · have hi0 : 0 < out.length := by omega
          have e2 : (out.length : Int) = 1 := by omega
          have e3 : ¬ (out[0] : Int) = 0 := by
            intro e
            apply h1
            rw [← hch]
            match out, e1 with
            | [x], _ => simp at e; rw [e]
          simp only [go_sem, ↓reduceIte, Nat.reduceMod, Nat.reduceEqDiff, Nat.reduceAdd, Nat.reduceMul, Nat.reduceSub, Nat.reduceLeDiff, Nat.reduceLT, Int.reduceEq, Int.reduceLT, Int.reduceLE, Int.reduceAdd, Int.reduceSub, Int.reduceNeg, reduceCtorEq, Nat.reduceShiftRight, Nat.reduceAnd, Nat.reduceBNe, g0, g3, c1', hown.vlen, e2, hown.ia0 hi0, hown.u32 hi0, e3, own.one]
          exact own_fn own hx
        · have e2 : ¬ (out.length : Int) = 1 := by omega
          simp only [go_sem, ↓reduceIte, Nat.reduceMod, Nat.reduceEqDiff, Nat.reduceAdd, Nat.reduceMul, Nat.reduceSub, Nat.reduceLeDiff, Nat.reduceLT, Int.reduceEq, Int.reduceLT, Int.reduceLE, Int.reduceAdd, Int.reduceSub, Int.reduceNeg, reduceCtorEq, Nat.reduceShiftRight, Nat.reduceAnd, Nat.reduceBNe, g0, g3, c1', hown.vlen, e2, own.one]
          exact own_fn own hx
    · have hp : 0 < rest.length := by cases rest <;> simp_all
      have c1' : (0 : Int) < (rest.length : Int) := by omega
      rw [chunk_pos c1] at hch
      have hdl := dv_chunk_lt hra
      have em : max (IntKind.wrap .i64 ((rest.length : Int) - 9)) 0 = ((rest.length - 9 : Nat) : Int) := by rw [wrap_i64 (by omega) (by omega)]; omega
      have h9 : (rest.drop (rest.length - 9)) ≠ [] := by intro e; have := congrArg List.length e; rw [List.length_drop] at this; simp at this; omega
      have hat := atoi_call (Sx σ []) (all_drop_d hra (rest.length - 9)) h9 (by rw [List.length_drop]; omega)
      have hs1 := vsslo_eq (l := rest) (j := .i64) (i := ((rest.length - 9 : Nat) : Int)) (by omega) (by omega)
      have hs2 := vsshi_eq (l := rest) (j := .i64) (i := ((rest.length - 9 : Nat) : Int)) (by omega) (by omega)
      rw [Int.toNat_natCast] at hs1 hs2
      generalize hd : dv (rest.drop (rest.length - 9)) = d at *
      have hwu : IntKind.wrap .u32 (d : Int) = (d : Int) := wrap_u32 (by omega) (by omega)
      obtain ⟨σ', av', hap, hr2, hn2, own2, hold⟩ := own_app hr1 hx.n own d (L := [.cells [.int .u32 (d : Int)]]) (by simp) (by simp; omega) (by omega) (i := 0) rfl
      simp only [go_sem, ↓reduceIte, Nat.reduceMod, Nat.reduceEqDiff, Nat.reduceAdd, Nat.reduceMul, Nat.reduceSub, Nat.reduceLeDiff, Nat.reduceLT, Int.reduceEq, Int.reduceLT, Int.reduceLE, Int.reduceAdd, Int.reduceSub, Int.reduceNeg, reduceCtorEq, Nat.reduceShiftRight, Nat.reduceAnd, Nat.reduceBNe, g0, g3, c1', vmm_max, em, hs1, hs2, hat, hwu, hr1, hap]
      refine ⟨(rest.take (rest.length - 9)).length, by rw [List.length_take]; omega, rest.take (rest.length - 9), out ++ [d], σ', av', Sx_nil _, hr2, ⟨by have := hx.n; omega, fun c hc => (hold c hc).trans (hx.old c hc)⟩, ?_, rfl, by rw [List.length_take]; omega, all_take_d hra _, ?_, own2, rfl, rfl⟩
      · rw [hn2]; simp; omega
      · rw [List.append_assoc]; exact hch
  all_goals simp only [go_sem, ↓reduceIte, Nat.reduceMod, Nat.reduceEqDiff, Nat.reduceAdd, Nat.reduceMul, Nat.reduceSub, Nat.reduceLeDiff, Nat.reduceLT, Int.reduceEq, Int.reduceLT, Int.reduceLE, Int.reduceAdd, Int.reduceSub, Int.reduceNeg, reduceCtorEq, Nat.reduceShiftRight, Nat.reduceAnd, Nat.reduceBNe]
end Go.Proofs.YtkdkojnlimadnaaDoor
namespace Go.Proofs.YtkdkojnlimadnaaDoor
open Go Go.Vm
set_option linter.unusedVariables false
set_option linter.unusedSimpArgs false
/-- What a sign and digits say, what is wrong. -/
def parseR (neg : Bool) (d : List UInt8) : Z × Int := if isNum d = false ∨ (neg = true ∧ d = [48]) then (⟨false, []⟩, 10) else if 360 < d.length then (⟨false, []⟩, 11) else (⟨neg, lims (dv d)⟩, 0)
def parseZ (l : List UInt8) : Z × Int := if Lib.hasPrefix l [40, 45, 32] = true then (if Lib.hasSuffix (l.drop 3) [41] = true then parseR true ((l.drop 3).take ((l.drop 3).length - 1)) else (⟨false, []⟩, 10)) else parseR false l
theorem avN_one (l : List Nat) : (avN l).one = true := by unfold avN; split <;> rfl
theorem parse_ov (s : St) (b : Bool) (l : List Nat) (n : Int) (hl : l.length ≤ 140737488355328) : Ov s.n.val (.tup [.agg [.bool b, avN l], .int .i64 n]) := ov_tup (by intro c hc; simp at hc; rcases hc with rfl | rfl; exact ov2 (ov_bool _ _) (avN_nats s l hl).sl.ov; exact ov_int _ _ _)
theorem num_len {l : List UInt8} (h : isNum l = true) (hl : l.length ≤ 5000) : (lims (dv l)).length ≤ 140737488355328 := by
  have := chunk_len _ l (Nat.le_refl _)
  rcases num_limbs h with ⟨_, h2⟩ | ⟨_, h2⟩ <;> rw [h2]
  · simp
  · omega
theorem cutp_call [Tel] (s : St) (l p : List UInt8) : CA F.strings_CutPrefix [.str l, .str p] s = .ok (.tup [.str (Lib.trimPrefix l p), .bool (Lib.hasPrefix l p)]) s := told_ok told_strings_CutPrefix rfl
theorem cuts_call [Tel] (s : St) (l p : List UInt8) (hl : l.length ≤ 9223372036854775807) : CA F.strings_CutSuffix [.str l, .str p] s = .ok (.tup [.str (Lib.trimSuffix l p), .bool (Lib.hasSuffix l p)]) s := told_ok told_strings_CutSuffix (by unfold CutSuffix_B; simp only [if_pos hl])
theorem parse_ok [Tel] (s : St) (l : List UInt8) (hr : Room s) (hn : s.n.val ≤ 40000) (hl : l.length ≤ 5000) : CA F.digits_Parse [.str l] s = .ok (.tup [.agg [.bool (parseZ l).1.neg, avN (parseZ l).1.mag], .int .i64 (parseZ l).2]) s := by
  have hr1 : Room (Sx s [.cells [.bool false, .nils]]) := hr.Sx (by simp; omega) (by simp)
  have hcp := cutp_call (Sx s [.cells [.bool false, .nils]]) l [40, 45, 32]
  have hav : avN [] = .nils := if_pos rfl
  refine fn_of code_digits_Parse (by simp) ?_
  unfold parseZ
  by_cases p1 : Lib.hasPrefix l [40, 45, 32] = true
  · have ep : Lib.trimPrefix l [40, 45, 32] = l.drop 3 := by unfold Lib.trimPrefix; rw [if_pos p1]; rfl
    rw [p1, ep] at hcp
    rw [if_pos p1]
    have hcs := cuts_call (Sx s [.cells [.bool false, .nils]]) (l.drop 3) [41] (by rw [List.length_drop]; omega)
    by_cases p2 : Lib.hasSuffix (l.drop 3) [41] = true
    · have es : Lib.trimSuffix (l.drop 3) [41] = (l.drop 3).take ((l.drop 3).length - 1) := by unfold Lib.trimSuffix; rw [if_pos p2]; rfl
      rw [p2, es] at hcs
      rw [if_pos p2]
      have hdl : ((l.drop 3).take ((l.drop 3).length - 1)).length ≤ 5000 := by rw [List.length_take, List.length_drop]; omega
      generalize (l.drop 3).take ((l.drop 3).length - 1) = d at *
      have hnum := numeral_ok (Sx s [.cells [.bool false, .nils]]) d hr1 (by omega)
      by_cases c1 : isNum d = true
      · rw [c1] at hnum
        by_cases c2 : true = true ∧ d = [48]
        · have e : parseR true d = (⟨false, []⟩, 10) := if_pos (.inr c2)
          rw [e]
          simp only [go_sem, ↓reduceIte, Nat.reduceMod, Nat.reduceEqDiff, Nat.reduceAdd, Nat.reduceMul, Nat.reduceSub, Nat.reduceLeDiff, Nat.reduceLT, Int.reduceEq, Int.reduceLT, Int.reduceLE, Int.reduceAdd, Int.reduceSub, Int.reduceNeg, reduceCtorEq, Nat.reduceShiftRight, Nat.reduceAnd, Nat.reduceBNe, Bool.not_true, Bool.not_false, hr, hcp, hcs, hav, hnum, decide_eq_true c2.2]
          exact settled_ov (ext_Sx hr (by simp)) (parse_ov s _ [] _ (by simp))
        · have e0 : ¬ (isNum d = false ∨ (true = true ∧ d = [48])) := by rw [c1]; simp at c2 ⊢; try exact c2
          by_cases c3 : (360 : Int) < (d.length : Int)
          · have e : parseR true d = (⟨false, []⟩, 11) := by unfold parseR; rw [if_neg e0, if_pos (by omega)]
            rw [e]
            simp only [go_sem, ↓reduceIte, Nat.reduceMod, Nat.reduceEqDiff, Nat.reduceAdd, Nat.reduceMul, Nat.reduceSub, Nat.reduceLeDiff, Nat.reduceLT, Int.reduceEq, Int.reduceLT, Int.reduceLE, Int.reduceAdd, Int.reduceSub, Int.reduceNeg, reduceCtorEq, Nat.reduceShiftRight, Nat.reduceAnd, Nat.reduceBNe, Bool.not_true, Bool.not_false, hr, hcp, hcs, hav, hnum, decide_eq_false (fun e => c2 ⟨rfl, e⟩), c3]
            exact settled_ov (ext_Sx hr (by simp)) (parse_ov s _ [] _ (by simp))
          · have e : parseR true d = (⟨true, lims (dv d)⟩, 0) := by unfold parseR; rw [if_neg e0, if_neg (by omega)]
            rw [e]
            have hlim := limbs_ok (Sx s [.cells [.bool false, .nils]]) d hr1 (by rw [Sx_n hr (by simp)]; simp; omega) (by omega) c1
            have hov := parse_ov s true (lims (dv d)) 0 (num_len c1 (by omega))
            have hone : (avN (lims (dv d))).one = true := avN_one _
            simp only [go_sem, ↓reduceIte, Nat.reduceMod, Nat.reduceEqDiff, Nat.reduceAdd, Nat.reduceMul, Nat.reduceSub, Nat.reduceLeDiff, Nat.reduceLT, Int.reduceEq, Int.reduceLT, Int.reduceLE, Int.reduceAdd, Int.reduceSub, Int.reduceNeg, reduceCtorEq, Nat.reduceShiftRight, Nat.reduceAnd, Nat.reduceBNe, Bool.not_true, Bool.not_false, hr, hcp, hcs, hav, hnum, decide_eq_false (fun e => c2 ⟨rfl, e⟩), c3, hlim, hone]
            exact settled_ov (ext_Sx hr (by simp)) hov
      · rw [Bool.not_eq_true] at c1
        rw [c1] at hnum
        have e : parseR true d = (⟨false, []⟩, 10) := if_pos (.inl c1)
        rw [e]
        simp only [go_sem, ↓reduceIte, Nat.reduceMod, Nat.reduceEqDiff, Nat.reduceAdd, Nat.reduceMul, Nat.reduceSub, Nat.reduceLeDiff, Nat.reduceLT, Int.reduceEq, Int.reduceLT, Int.reduceLE, Int.reduceAdd, Int.reduceSub, Int.reduceNeg, reduceCtorEq, Nat.reduceShiftRight, Nat.reduceAnd, Nat.reduceBNe, Bool.not_true, Bool.not_false, hr, hcp, hcs, hav, hnum]
        exact settled_ov (ext_Sx hr (by simp)) (parse_ov s _ [] _ (by simp))
    · rw [if_neg p2]
      rw [Bool.not_eq_true] at p2
      rw [p2] at hcs
      simp only [go_sem, ↓reduceIte, Nat.reduceMod, Nat.reduceEqDiff, Nat.reduceAdd, Nat.reduceMul, Nat.reduceSub, Nat.reduceLeDiff, Nat.reduceLT, Int.reduceEq, Int.reduceLT, Int.reduceLE, Int.reduceAdd, Int.reduceSub, Int.reduceNeg, reduceCtorEq, Nat.reduceShiftRight, Nat.reduceAnd, Nat.reduceBNe, Bool.not_true, Bool.not_false, hr, hcp, hcs, hav]
      exact settled_ov (ext_Sx hr (by simp)) (parse_ov s _ [] _ (by simp))
  · rw [if_neg p1]
    rw [Bool.not_eq_true] at p1
    have ep : Lib.trimPrefix l [40, 45, 32] = l := by unfold Lib.trimPrefix; rw [p1]; rfl
    rw [p1, ep] at hcp
    have hnum := numeral_ok (Sx s [.cells [.bool false, .nils]]) l hr1 (by omega)
    by_cases c1 : isNum l = true
    · rw [c1] at hnum
      by_cases c2 : false = true ∧ l = [48]
      · exact absurd c2.1 (by decide)
      · have e0 : ¬ (isNum l = false ∨ (false = true ∧ l = [48])) := by rw [c1]; simp at c2 ⊢; try exact c2
        by_cases c3 : (360 : Int) < (l.length : Int)
        · have e : parseR false l = (⟨false, []⟩, 11) := by unfold parseR; rw [if_neg e0, if_pos (by omega)]
          rw [e]
          simp only [go_sem, ↓reduceIte, Nat.reduceMod, Nat.reduceEqDiff, Nat.reduceAdd, Nat.reduceMul, Nat.reduceSub, Nat.reduceLeDiff, Nat.reduceLT, Int.reduceEq, Int.reduceLT, Int.reduceLE, Int.reduceAdd, Int.reduceSub, Int.reduceNeg, reduceCtorEq, Nat.reduceShiftRight, Nat.reduceAnd, Nat.reduceBNe, Bool.not_true, Bool.not_false, hr, hcp, hav, hnum, c3]
          exact settled_ov (ext_Sx hr (by simp)) (parse_ov s _ [] _ (by simp))
        · have e : parseR false l = (⟨false, lims (dv l)⟩, 0) := by unfold parseR; rw [if_neg e0, if_neg (by omega)]
          rw [e]
          have hlim := limbs_ok (Sx s [.cells [.bool false, .nils]]) l hr1 (by rw [Sx_n hr (by simp)]; simp; omega) (by omega) c1
          have hov := parse_ov s false (lims (dv l)) 0 (num_len c1 (by omega))
          have hone : (avN (lims (dv l))).one = true := avN_one _
          simp only [go_sem, ↓reduceIte, Nat.reduceMod, Nat.reduceEqDiff, Nat.reduceAdd, Nat.reduceMul, Nat.reduceSub, Nat.reduceLeDiff, Nat.reduceLT, Int.reduceEq, Int.reduceLT, Int.reduceLE, Int.reduceAdd, Int.reduceSub, Int.reduceNeg, reduceCtorEq, Nat.reduceShiftRight, Nat.reduceAnd, Nat.reduceBNe, Bool.not_true, Bool.not_false, hr, hcp, hav, hnum, c3, hlim, hone]
          exact settled_ov (ext_Sx hr (by simp)) hov
    · rw [Bool.not_eq_true] at c1
      rw [c1] at hnum
      have e : parseR false l = (⟨false, []⟩, 10) := if_pos (.inl c1)
      rw [e]
      simp only [go_sem, ↓reduceIte, Nat.reduceMod, Nat.reduceEqDiff, Nat.reduceAdd, Nat.reduceMul, Nat.reduceSub, Nat.reduceLeDiff, Nat.reduceLT, Int.reduceEq, Int.reduceLT, Int.reduceLE, Int.reduceAdd, Int.reduceSub, Int.reduceNeg, reduceCtorEq, Nat.reduceShiftRight, Nat.reduceAnd, Nat.reduceBNe, Bool.not_true, Bool.not_false, hr, hcp, hav, hnum]
      exact settled_ov (ext_Sx hr (by simp)) (parse_ov s _ [] _ (by simp))
end Go.Proofs.YtkdkojnlimadnaaDoor
namespace Go.Proofs.YtkdkojnlimadnaaDoor
open Go Go.Vm
set_option linter.unusedVariables false
set_option linter.unusedSimpArgs false
theorem rem_u64 (a : Nat) (s : St) : vbin .rem (.int .u64 (a : Int)) (.int .u64 1000000000) s = .ok (.int .u64 ((a % 1000000000 : Nat) : Int)) s := by
  exact (vbin_rem s .u64 (a : Int) 1000000000 (by decide)).trans rfl
theorem quo_u64 {a : Nat} (h : a ≤ 18446744073709551615) (s : St) : vbin .quo (.int .u64 (a : Int)) (.int .u64 1000000000) s = .ok (.int .u64 ((a / 1000000000 : Nat) : Int)) s := by
  rw [vbin_quo s .u64 (a : Int) 1000000000 (by decide)]
  have e : Int.tdiv (a : Int) 1000000000 = ((a / 1000000000 : Nat) : Int) := rfl
  rw [e, wrap_u64 (by omega) (by omega)]
theorem lims_len {n k : Nat} (h : n < 1000000000 ^ k) : (lims n).length ≤ k := by
  by_cases h0 : lims n = []
  · rw [h0]; simp
  · apply Decidable.byContradiction
    intro hk
    have h1 := val_ge (lims_is n) h0
    rw [val_lims] at h1
    have : 1000000000 ^ k ≤ 1000000000 ^ ((lims n).length - 1) := Nat.pow_le_pow_right (by omega) (by omega)
    omega
theorem natOf_ok [Tel] (s : St) (n : Nat) (hr : Room s) (hs : s.n.val ≤ 59900) (hn : n ≤ 18446744073709551615) : CA F.ref1_NatOf [.int .u64 (n : Int)] s = .ok (avN (lims n)) s := by
  have hll : (lims n).length ≤ 3 := lims_len (by omega)
  refine fn_of code_ref1_NatOf (by simp) ?_
  simp only [go_sem, ↓reduceIte, Nat.reduceMod, Nat.reduceEqDiff, Nat.reduceAdd, Nat.reduceMul, Nat.reduceSub, Nat.reduceLeDiff, Nat.reduceLT, Int.reduceEq, Int.reduceLT, Int.reduceLE, Int.reduceAdd, Int.reduceSub, Int.reduceNeg, reduceCtorEq, Nat.reduceShiftRight, Nat.reduceAnd, Nat.reduceBNe]
  refine W_inv (fun k f τ => ∃ (m : Nat) (out : List Nat) (σ : St) (av : AV), Sx σ [] = τ ∧ Room σ ∧ Ext s σ ∧ σ.n.val ≤ s.n.val + 2 * out.length ∧ k = m ∧ m ≤ n ∧ out ++ lims m = lims n ∧ OwnN s.n.val σ av out ∧ (vv 0).get f = .int .u64 (m : Int) ∧ (vv 3).get f = av) ?_ ⟨n, [], s, .nils, rfl, hr, Ext.refl s, by simp, rfl, Nat.le_refl _, rfl, .inl ⟨rfl, rfl⟩, ?_, ?_⟩
  · rintro k f τ ⟨m, out, σ, av, rfl, hr1, hx, hn1, rfl, hm, hch, own, g0, g3⟩
    have hol : out.length ≤ 3 := by have := congrArg List.length hch; rw [List.length_append] at this; omega
    by_cases c0 : k = 0
    · have c1 : ¬ (0 : Int) < (k : Int) := by omega
      rw [c0, lims_0, List.append_nil] at hch
      simp only [go_sem, ↓reduceIte, Nat.reduceMod, Nat.reduceEqDiff, Nat.reduceAdd, Nat.reduceMul, Nat.reduceSub, Nat.reduceLeDiff, Nat.reduceLT, Int.reduceEq, Int.reduceLT, Int.reduceLE, Int.reduceAdd, Int.reduceSub, Int.reduceNeg, reduceCtorEq, Nat.reduceShiftRight, Nat.reduceAnd, Nat.reduceBNe, g0, g3, c1, own.one]
      rw [← hch]
      exact own_fn own hx
    · have c1 : (0 : Int) < (k : Int) := by omega
      rw [lims_pos c0] at hch
      have hol2 : out.length ≤ 2 := by have := congrArg List.length hch; rw [List.length_append, List.length_cons] at this; omega
      have hw : IntKind.wrap .u32 ((k % 1000000000 : Nat) : Int) = ((k % 1000000000 : Nat) : Int) := wrap_u32 (by omega) (by omega)
      obtain ⟨σ', av', hap, hr2, hn2, own2, hold⟩ := own_app hr1 hx.n own (k % 1000000000) (L := [.cells [.int .u32 ((k % 1000000000 : Nat) : Int)]]) (by simp) (by simp; omega) (by omega) (i := 0) rfl
      simp only [go_sem, ↓reduceIte, Nat.reduceMod, Nat.reduceEqDiff, Nat.reduceAdd, Nat.reduceMul, Nat.reduceSub, Nat.reduceLeDiff, Nat.reduceLT, Int.reduceEq, Int.reduceLT, Int.reduceLE, Int.reduceAdd, Int.reduceSub, Int.reduceNeg, reduceCtorEq, Nat.reduceShiftRight, Nat.reduceAnd, Nat.reduceBNe, g0, g3, c1, rem_u64, hw, hr1, hap, quo_u64 (show k ≤ 18446744073709551615 by omega)]
      refine ⟨k / 1000000000, by omega, k / 1000000000, out ++ [k % 1000000000], σ', av', Sx_nil _, hr2, ⟨by have := hx.n; omega, fun c hc => (hold c hc).trans (hx.old c hc)⟩, ?_, rfl, by omega, ?_, own2, rfl, rfl⟩
      · rw [hn2]; simp; omega
      · rw [List.append_assoc]; exact hch
  all_goals simp only [go_sem, ↓reduceIte, Nat.reduceMod, Nat.reduceEqDiff, Nat.reduceAdd, Nat.reduceMul, Nat.reduceSub, Nat.reduceLeDiff, Nat.reduceLT, Int.reduceEq, Int.reduceLT, Int.reduceLE, Int.reduceAdd, Int.reduceSub, Int.reduceNeg, reduceCtorEq, Nat.reduceShiftRight, Nat.reduceAnd, Nat.reduceBNe]
/-- A number as an integer. -/
def zOf (n : Int) : Z := ⟨decide (n < 0), lims n.natAbs⟩
theorem lims_ne {n : Nat} (h : n ≠ 0) : lims n ≠ [] := by
  intro e; have := val_lims n; rw [e] at this; exact h this.symm
theorem zOf_is (n : Int) : zIs (zOf n) = true := by
  unfold zIs zOf
  simp only [lims_is, Bool.true_and, Bool.or_eq_true, Bool.not_eq_true', decide_eq_false_iff_not, decide_eq_true_eq]
  by_cases h : n < 0
  · right; exact lims_ne (by omega)
  · left; exact h
theorem Of_ok [Tel] (s : St) (n : Int) (hr : Room s) (hs : s.n.val ≤ 59000) (hn : -9223372036854775807 ≤ n ∧ n ≤ 9223372036854775807) : CA F.ref1_Of [.int .i64 n] s = .ok (.agg [.bool (zOf n).neg, avN (zOf n).mag]) s := by
  have hll : (lims n.natAbs).length ≤ 3 := lims_len (by omega)
  have h1 := natOf_ok (Sx s [.cells [.bool false, .nils]]) n.natAbs (hr.Sx (by simp; omega) (by simp)) (by rw [Sx_n hr (by simp)]; simp; omega) (by omega)
  have h2 := fun t => avN_nats t (lims n.natAbs) (by omega)
  unfold zOf
  by_cases c : n < 0
  · have e1 : IntKind.wrap .u64 (-(IntKind.wrap .u64 n)) = ((n.natAbs : Nat) : Int) := by
      simp only [IntKind.wrap, IntKind.bits, IntKind.signed]
      simp
      omega
    have h3 := ref1_sign_ok (Sx s [.cells [.bool false, .nils]]) true (avN (lims n.natAbs)) _ (hr.Sx (by simp; omega) (by simp)) (h2 _)
    have e2 : (true && decide (lims n.natAbs ≠ [])) = true := by simp; exact lims_ne (by omega)
    rw [e2] at h3
    refine fn_of code_ref1_Of (by simp) ?_
    simp only [go_sem, ↓reduceIte, Nat.reduceMod, Nat.reduceEqDiff, Nat.reduceAdd, Nat.reduceMul, Nat.reduceSub, Nat.reduceLeDiff, Nat.reduceLT, Int.reduceEq, Int.reduceLT, Int.reduceLE, Int.reduceAdd, Int.reduceSub, Int.reduceNeg, reduceCtorEq, Nat.reduceShiftRight, Nat.reduceAnd, Nat.reduceBNe, hr, c, e1, h1, h3]
    exact settled_ov (ext_Sx hr (by simp)) (ov2 (ov_bool _ _) (h2 s).sl.ov)
  · have e1 : IntKind.wrap .u64 n = ((n.natAbs : Nat) : Int) := by rw [wrap_u64 (by omega) (by omega)]; omega
    refine fn_of code_ref1_Of (by simp) ?_
    simp only [go_sem, ↓reduceIte, Nat.reduceMod, Nat.reduceEqDiff, Nat.reduceAdd, Nat.reduceMul, Nat.reduceSub, Nat.reduceLeDiff, Nat.reduceLT, Int.reduceEq, Int.reduceLT, Int.reduceLE, Int.reduceAdd, Int.reduceSub, Int.reduceNeg, reduceCtorEq, Nat.reduceShiftRight, Nat.reduceAnd, Nat.reduceBNe, hr, c, e1, h1, (h2 s).one]
    exact settled_ov (ext_Sx hr (by simp)) (ov2 (ov_bool _ _) (h2 s).sl.ov)
theorem dec_padk {k n : Nat} (h1 : 10 ^ k ≤ n) (h2 : n < 10 ^ (k + 1)) : Lib.decDigits n = padk (k + 1) n := by
  have h := pad_eq (k + 1) (by omega) h2
  rw [Lib.decDigits_length, Lib.nDigits_unique k n h1 h2, Nat.sub_self] at h
  exact h
end Go.Proofs.YtkdkojnlimadnaaDoor
