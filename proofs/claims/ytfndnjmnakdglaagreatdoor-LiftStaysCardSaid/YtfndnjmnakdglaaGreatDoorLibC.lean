/- Functions of the program: terms, names. No condition. -/
import Derived.Test.YtfndnjmnakdglaaGreatDoorLibB
namespace Go.Proofs.YtfndnjmnakdglaaGreatDoor
open Go Go.Vm
variable [Tel]
set_option linter.unusedSectionVars false
set_option linter.unusedVariables false
set_option linter.unusedSimpArgs false
theorem counted_ok : ∀ (n : Nat) (l : List T), T.sizes l ≤ n → ∀ (s : St) (v : AV) (most : Int), Room s → 0 ≤ most → most ≤ 1000 → (s.n.val : Int) + most + 2 ≤ 1000060000 → Ts s v l → CA F.term_counted [.int .i64 most, v] s = .ok (.int .i64 (min most (T.sizes l : Int))) s := by
  intro n
  induction n with
  | zero =>
    intro l hl s v most hr h0 h1 hn hv
    have hlen := T.length_le l
    have e : l = [] := List.eq_nil_of_length_eq_zero (by omega)
    subst e
    refine fn_of code_term_counted (by simp) ?_
    simp only [go_sem, ↓reduceIte, Nat.reduceMod, Nat.reduceEqDiff, Nat.reduceAdd, Nat.reduceMul, Nat.reduceSub, Nat.reduceLeDiff, Nat.reduceLT, Int.reduceEq, Int.reduceLT, Int.reduceLE, Int.reduceAdd, Int.reduceSub, Int.reduceNeg, reduceCtorEq, Nat.reduceShiftRight, Nat.reduceAnd, Nat.reduceBNe, hv.vlen, List.length_nil]
    rw [W_loop]
    simp only [go_sem, ↓reduceIte, Nat.reduceMod, Nat.reduceEqDiff, Nat.reduceAdd, Nat.reduceMul, Nat.reduceSub, Nat.reduceLeDiff, Nat.reduceLT, Int.reduceEq, Int.reduceLT, Int.reduceLE, Int.reduceAdd, Int.reduceSub, Int.reduceNeg, reduceCtorEq, Nat.reduceShiftRight, Nat.reduceAnd, Nat.reduceBNe, Int.lt_irrefl]
    exact settled_int (Ext.refl s) (by simp [T.sizes]; omega)
  | succ n ihn =>
    intro l hl s v most hr h0 h1 hn hv
    have hm := hv.most
    refine fn_of code_term_counted (by simp) ?_
    simp only [go_sem, ↓reduceIte, Nat.reduceMod, Nat.reduceEqDiff, Nat.reduceAdd, Nat.reduceMul, Nat.reduceSub, Nat.reduceLeDiff, Nat.reduceLT, Int.reduceEq, Int.reduceLT, Int.reduceLE, Int.reduceAdd, Int.reduceSub, Int.reduceNeg, reduceCtorEq, Nat.reduceShiftRight, Nat.reduceAnd, Nat.reduceBNe, hv.vlen]
    refine W_inv (fun k f τ => ∃ (i : Nat) (σ : St), Sx σ [] = τ ∧ Room σ ∧ Ext s σ ∧ σ.n.val ≤ s.n.val + i ∧ k = l.length - i ∧ i ≤ l.length ∧ (i : Int) ≤ min most (T.sizes (l.take i) : Int) ∧ (vv 0).get f = .int .i64 most ∧ (vv 5).get f = .int .i64 (min most (T.sizes (l.take i) : Int)) ∧ (vv 8).get f = v ∧ (vv 9).get f = .int .i64 (l.length : Int) ∧ (vv 10).get f = .int .i64 (i : Int)) ?_ ⟨0, s, rfl, hr, Ext.refl s, by omega, rfl, by omega, by simp [T.sizes]; omega, ?_⟩
    · rintro k f τ ⟨i, σ, rfl, hr1, hx, hn1, rfl, hi, hi2, g0, g5, g8, g9, g10⟩
      have hv1 := hv.x hx
      by_cases c1 : i < l.length
      · obtain ⟨cs, hat⟩ := hv1.at c1
        obtain ⟨ng, mg, kv, rfl, hz, hkv⟩ := hat.t6.ex
        have hs := T.sizes_take l i c1
        have hs2 := T.size_at c1
        have hs3 := T.size_kids l[i]
        have hsl := T.sizes_le l i
        have hx2 := ext_Sx (s := σ) (l := [.cells [.int .i64 l[i].op, ng, mg, .str l[i].name, .int .i64 l[i].sort, kv]]) hr1 (by simp)
        by_cases c2 : most ≤ min most (T.sizes (l.take i) : Int)
        · simp only [go_sem, ↓reduceIte, Nat.reduceMod, Nat.reduceEqDiff, Nat.reduceAdd, Nat.reduceMul, Nat.reduceSub, Nat.reduceLeDiff, Nat.reduceLT, Int.reduceEq, Int.reduceLT, Int.reduceLE, Int.reduceAdd, Int.reduceSub, Int.reduceNeg, reduceCtorEq, Nat.reduceShiftRight, Nat.reduceAnd, Nat.reduceBNe, g0, g5, g8, g9, g10, Int.ofNat_lt, c1, hr1, hv1.ia c1, hat.ld, c2]
          have := T.sizes_le l i
          exact settled_int (hx.trans (ext_Sx hr1 (by simp))) (by omega)
        · have hcall := ihn l[i].kids (by omega) (Sx σ [.cells [.int .i64 l[i].op, ng, mg, .str l[i].name, .int .i64 l[i].sort, kv]]) kv (most - min most (T.sizes (l.take i) : Int) - 1) (hr1.Sx (by simp; omega) (by simp)) (by omega) (by omega) (by rw [Sx_n hr1 (by simp)]; simp; omega) (hkv.x hx2)
          simp only [go_sem, ↓reduceIte, Nat.reduceMod, Nat.reduceEqDiff, Nat.reduceAdd, Nat.reduceMul, Nat.reduceSub, Nat.reduceLeDiff, Nat.reduceLT, Int.reduceEq, Int.reduceLT, Int.reduceLE, Int.reduceAdd, Int.reduceSub, Int.reduceNeg, reduceCtorEq, Nat.reduceShiftRight, Nat.reduceAnd, Nat.reduceBNe, g0, g5, g8, g9, g10, Int.ofNat_lt, c1, hr1, hv1.ia c1, hat.ld, c2]
          rw [wrap_i64 (x := most - min most (T.sizes (l.take i) : Int)) (by omega) (by omega), wrap_i64 (x := most - min most (T.sizes (l.take i) : Int) - 1) (by omega) (by omega), hcall]
          simp only [go_sem, ↓reduceIte, Nat.reduceMod, Nat.reduceEqDiff, Nat.reduceAdd, Nat.reduceMul, Nat.reduceSub, Nat.reduceLeDiff, Nat.reduceLT, Int.reduceEq, Int.reduceLT, Int.reduceLE, Int.reduceAdd, Int.reduceSub, Int.reduceNeg, reduceCtorEq, Nat.reduceShiftRight, Nat.reduceAnd, Nat.reduceBNe, g0, g5, g8, g9, g10]
          refine ⟨l.length - (i + 1), by omega, i + 1, _, Sx_nil _, hr1.Sx (by simp; omega) (by simp), hx.trans hx2, ?_, rfl, by omega, by omega, ?_, ?_⟩
          · rw [Sx_n hr1 (by simp)]; simp; omega
          · rw [wrap_i64 (x := min most (T.sizes (l.take i) : Int) + 1) (by omega) (by omega), wrap_i64 (by omega) (by omega)]; congr 1; omega
          · rw [wrap_i64 (by omega) (by omega)]; congr 1
      · have e : i = l.length := by omega
        subst e
        simp only [go_sem, ↓reduceIte, Nat.reduceMod, Nat.reduceEqDiff, Nat.reduceAdd, Nat.reduceMul, Nat.reduceSub, Nat.reduceLeDiff, Nat.reduceLT, Int.reduceEq, Int.reduceLT, Int.reduceLE, Int.reduceAdd, Int.reduceSub, Int.reduceNeg, reduceCtorEq, Nat.reduceShiftRight, Nat.reduceAnd, Nat.reduceBNe, g0, g5, g8, g9, g10, Int.ofNat_lt, c1]
        exact settled_int hx (by rw [List.take_length])
    · simp only [go_sem, ↓reduceIte, Nat.reduceMod, Nat.reduceEqDiff, Nat.reduceAdd, Nat.reduceMul, Nat.reduceSub, Nat.reduceLeDiff, Nat.reduceLT, Int.reduceEq, Int.reduceLT, Int.reduceLE, Int.reduceAdd, Int.reduceSub, Int.reduceNeg, reduceCtorEq, Nat.reduceShiftRight, Nat.reduceAnd, Nat.reduceBNe]
      simp [T.sizes]; omega
theorem of6 {s : St} {cs : List AV} {t : T} (h : RT6 s cs t) (cap : Nat) {b : Vm.Id} (hb : s.obj b = .cells cs) (hv : b.val < s.n.val) (ex : Nat) : Ts s (.sl b 0 1 cap ex) [t] := by
  refine ⟨.sl b 0 1 cap ex cs (by unfold limit; omega) hb hv (by omega), rfl, fun i hi => ?_⟩
  have e : i = 0 := by simpa using hi
  subst e
  show RT s (((s.obj b).row.drop 0).drop 0) t
  rw [hb]
  have := h.rt []
  simpa [AO.row] using this
theorem Count_ok (s : St) (cs : List AV) (t : T) (hr : Room s) (hn : s.n.val ≤ 1000059000) (h : RT6 s cs t) : CA F.term_Count [.agg cs] s = .ok (.int .i64 (min 401 (t.size : Int))) s := by
  obtain ⟨ng, mg, kv, rfl, hz, hk⟩ := h.ex
  have hx := ext_Sx (s := s) (l := [.cells [.int .i64 t.op, ng, mg, .str t.name, .int .i64 t.sort, kv], .cells [.int .i64 t.op, ng, mg, .str t.name, .int .i64 t.sort, kv]]) hr (by simp)
  have hcall := counted_ok _ [t] (Nat.le_refl _) (Sx s [.cells [.int .i64 t.op, ng, mg, .str t.name, .int .i64 t.sort, kv], .cells [.int .i64 t.op, ng, mg, .str t.name, .int .i64 t.sort, kv]]) (.sl (nm s 1) 0 1 1 0) 401 (hr.Sx (by simp; omega) (by simp)) (by omega) (by omega) (by rw [Sx_n hr (by simp)]; simp; omega)
    (of6 (h.x hx) 1 (by rw [Sx_obj? hr (by simp) (i := 1) rfl]) (by rw [nm_val hr (by omega), Sx_n hr (by simp)]; simp) 0)
  refine fn_of code_term_Count (by simp) ?_
  simp only [go_sem, ↓reduceIte, Nat.reduceMod, Nat.reduceEqDiff, Nat.reduceAdd, Nat.reduceMul, Nat.reduceSub, Nat.reduceLeDiff, Nat.reduceLT, Int.reduceEq, Int.reduceLT, Int.reduceLE, Int.reduceAdd, Int.reduceSub, Int.reduceNeg, reduceCtorEq, Nat.reduceShiftRight, Nat.reduceAnd, Nat.reduceBNe, hr, hcall]
  exact settled_int (ext_Sx hr (by simp)) (by simp [T.sizes])
theorem count_ok : ∀ (n : Nat) (t : T), t.size ≤ n → ∀ (s : St) (cs : List AV) (most : Int), Room s → 1 ≤ most → most ≤ 1000 → (s.n.val : Int) + most + 2 ≤ 1000060000 → RT6 s cs t → CA F.ref10_count [.agg cs, .int .i64 most] s = .ok (.int .i64 (min (t.size : Int) most)) s := by
  intro n
  induction n with
  | zero => intro t ht; rw [T.size_kids] at ht; omega
  | succ n ihn =>
    intro t ht s cs most hr h1 h2 hn h
    obtain ⟨ng, mg, kv, rfl, hz, hk⟩ := h.ex
    rw [T.size_kids] at ht ⊢
    generalize t.kids = l at hk ht ⊢
    have hm := hk.most
    have hx := ext_Sx (s := s) (l := [.cells [.int .i64 t.op, ng, mg, .str t.name, .int .i64 t.sort, kv]]) hr (by simp)
    have hk1 := hk.x hx
    have hr1 : Room (Sx s [.cells [.int .i64 t.op, ng, mg, .str t.name, .int .i64 t.sort, kv]]) := hr.Sx (by simp; omega) (by simp)
    have hn1 := Sx_n (s := s) (l := [.cells [.int .i64 t.op, ng, mg, .str t.name, .int .i64 t.sort, kv]]) hr (by simp)
    refine fn_of code_ref10_count (by simp) ?_
    simp only [go_sem, ↓reduceIte, Nat.reduceMod, Nat.reduceEqDiff, Nat.reduceAdd, Nat.reduceMul, Nat.reduceSub, Nat.reduceLeDiff, Nat.reduceLT, Int.reduceEq, Int.reduceLT, Int.reduceLE, Int.reduceAdd, Int.reduceSub, Int.reduceNeg, reduceCtorEq, Nat.reduceShiftRight, Nat.reduceAnd, Nat.reduceBNe, hr]
    refine W_inv (fun k f τ => ∃ i : Nat, Sx s [.cells [.int .i64 t.op, ng, mg, .str t.name, .int .i64 t.sort, kv]] = τ ∧ k = l.length - i ∧ i ≤ l.length ∧ (vv 1).get f = .int .i64 most ∧ (vv 2).get f = .ptr (nm s 0) 0 ∧ (vv 5).get f = .int .i64 (min ((1 + T.sizes (l.take i) : Nat) : Int) most) ∧ (vv 6).get f = .int .i64 (i : Int)) ?_ ⟨0, rfl, rfl, by omega, ?_⟩
    · rintro k f τ ⟨i, rfl, rfl, hi, g1, g2, g5, g6⟩
      by_cases c1 : i < l.length
      · have hsl := T.sizes_le l i
        have hs := T.sizes_take l i c1
        have hs2 := T.size_at c1
        by_cases c2 : min ((1 + T.sizes (l.take i) : Nat) : Int) most < most
        · obtain ⟨cs, hat⟩ := hk1.at c1
          have hm2 : min ((1 + T.sizes (l.take i) : Nat) : Int) most = (1 + T.sizes (l.take i) : Nat) := by omega
          rw [hm2] at g5 c2
          have hcall := ihn l[i] (by omega) _ cs (most - (1 + T.sizes (l.take i) : Nat)) hr1 (by omega) (by omega) (by rw [hn1]; simp; omega) hat.t6
          simp only [go_sem, ↓reduceIte, Nat.reduceMod, Nat.reduceEqDiff, Nat.reduceAdd, Nat.reduceMul, Nat.reduceSub, Nat.reduceLeDiff, Nat.reduceLT, Int.reduceEq, Int.reduceLT, Int.reduceLE, Int.reduceAdd, Int.reduceSub, Int.reduceNeg, reduceCtorEq, Nat.reduceShiftRight, Nat.reduceAnd, Nat.reduceBNe, g1, g2, g5, g6, Int.ofNat_lt, c1, c2, hr, hk.vlen, hk.ia c1, hat.ld]
          rw [wrap_i64 (x := most - (1 + T.sizes (l.take i) : Nat)) (by omega) (by omega), hcall]
          simp only [go_sem, ↓reduceIte, Nat.reduceMod, Nat.reduceEqDiff, Nat.reduceAdd, Nat.reduceMul, Nat.reduceSub, Nat.reduceLeDiff, Nat.reduceLT, Int.reduceEq, Int.reduceLT, Int.reduceLE, Int.reduceAdd, Int.reduceSub, Int.reduceNeg, reduceCtorEq, Nat.reduceShiftRight, Nat.reduceAnd, Nat.reduceBNe, g1, g2, g5, g6]
          refine ⟨l.length - (i + 1), by omega, i + 1, rfl, by omega, ?_, ?_⟩
          · rw [hs, wrap_i64 (by omega) (by omega)]; congr 1; omega
          · rw [wrap_i64 (by omega) (by omega)]; congr 1
        · simp only [go_sem, ↓reduceIte, Nat.reduceMod, Nat.reduceEqDiff, Nat.reduceAdd, Nat.reduceMul, Nat.reduceSub, Nat.reduceLeDiff, Nat.reduceLT, Int.reduceEq, Int.reduceLT, Int.reduceLE, Int.reduceAdd, Int.reduceSub, Int.reduceNeg, reduceCtorEq, Nat.reduceShiftRight, Nat.reduceAnd, Nat.reduceBNe, g1, g2, g5, g6, Int.ofNat_lt, c1, c2, hr, hk.vlen]
          exact settled_int hx (by omega)
      · have e : i = l.length := by omega
        subst e
        simp only [go_sem, ↓reduceIte, Nat.reduceMod, Nat.reduceEqDiff, Nat.reduceAdd, Nat.reduceMul, Nat.reduceSub, Nat.reduceLeDiff, Nat.reduceLT, Int.reduceEq, Int.reduceLT, Int.reduceLE, Int.reduceAdd, Int.reduceSub, Int.reduceNeg, reduceCtorEq, Nat.reduceShiftRight, Nat.reduceAnd, Nat.reduceBNe, g1, g2, g5, g6, Int.ofNat_lt, c1, hr, hk.vlen]
        rw [List.take_length]
        exact settled_int hx (by omega)
    · simp only [go_sem, ↓reduceIte, Nat.reduceMod, Nat.reduceEqDiff, Nat.reduceAdd, Nat.reduceMul, Nat.reduceSub, Nat.reduceLeDiff, Nat.reduceLT, Int.reduceEq, Int.reduceLT, Int.reduceLE, Int.reduceAdd, Int.reduceSub, Int.reduceNeg, reduceCtorEq, Nat.reduceShiftRight, Nat.reduceAnd, Nat.reduceBNe]
      simp [T.sizes]; omega
theorem ref_Count_ok (s : St) (cs : List AV) (t : T) (hr : Room s) (hn : s.n.val ≤ 1000059000) (h : RT6 s cs t) : CA F.ref10_Count [.agg cs] s = .ok (.int .i64 (min (t.size : Int) 401)) s := by
  have hx := ext_Sx (s := s) (l := [.cells cs]) hr (by simp)
  have hcall := count_ok _ t (Nat.le_refl _) (Sx s [.cells cs]) cs 401 (hr.Sx (by simp; omega) (by simp)) (by omega) (by omega) (by rw [Sx_n hr (by simp)]; simp; omega) (h.x hx)
  obtain ⟨ng, mg, kv, rfl, hz, hk⟩ := h.ex
  refine fn_of code_ref10_Count (by simp) ?_
  simp only [go_sem, ↓reduceIte, Nat.reduceMod, Nat.reduceEqDiff, Nat.reduceAdd, Nat.reduceMul, Nat.reduceSub, Nat.reduceLeDiff, Nat.reduceLT, Int.reduceEq, Int.reduceLT, Int.reduceLE, Int.reduceAdd, Int.reduceSub, Int.reduceNeg, reduceCtorEq, Nat.reduceShiftRight, Nat.reduceAnd, Nat.reduceBNe, hr, hcall]
  exact settled_int (ext_Sx hr (by simp)) rfl
def allS (k : Int) (l : List T) : Bool := l.all fun t => decide (t.sort = k)
theorem allT_take {l : List T} {p : T → Bool} {i : Nat} (h : i < l.length) : (l.take (i + 1)).all p = ((l.take i).all p && p l[i]) := by
  rw [← List.take_append_getElem h, List.all_append]; simp
theorem allT_false {l : List T} {p : T → Bool} {i : Nat} (h : i < l.length) (hp : p l[i] = false) : l.all p = false := by
  rw [Bool.eq_false_iff]; intro ha
  have := List.all_eq_true.mp ha l[i] (List.getElem_mem h)
  rw [hp] at this; cases this
theorem of_sort_ok (s : St) (v : AV) (l : List T) (q : Int) (hr : Room s) (hn : s.n.val + l.length ≤ 1000059000) (hv : Ts s v l) : CA F.term_of [.int .i64 q, v] s = .ok (.bool (allS q l)) s := by
  have hm := hv.most
  refine fn_of code_term_of (by simp) ?_
  simp only [go_sem, ↓reduceIte, Nat.reduceMod, Nat.reduceEqDiff, Nat.reduceAdd, Nat.reduceMul, Nat.reduceSub, Nat.reduceLeDiff, Nat.reduceLT, Int.reduceEq, Int.reduceLT, Int.reduceLE, Int.reduceAdd, Int.reduceSub, Int.reduceNeg, reduceCtorEq, Nat.reduceShiftRight, Nat.reduceAnd, Nat.reduceBNe, hv.vlen]
  refine W_inv (fun k f τ => ∃ (i : Nat) (σ : St), Sx σ [] = τ ∧ Room σ ∧ Ext s σ ∧ σ.n.val ≤ s.n.val + i ∧ k = l.length - i ∧ i ≤ l.length ∧ (l.take i).all (fun t => decide (t.sort = q)) = true ∧ (vv 0).get f = .int .i64 q ∧ (vv 7).get f = v ∧ (vv 8).get f = .int .i64 (l.length : Int) ∧ (vv 9).get f = .int .i64 (i : Int)) ?_ ⟨0, s, rfl, hr, Ext.refl s, by omega, rfl, by omega, by simp, ?_⟩
  · rintro k f τ ⟨i, σ, rfl, hr1, hx, hn1, rfl, hi, ha, g0, g7, g8, g9⟩
    have hv1 := hv.x hx
    by_cases c1 : i < l.length
    · obtain ⟨cs, hat⟩ := hv1.at c1
      obtain ⟨ng, mg, kv, rfl, hz, hkv⟩ := hat.t6.ex
      have hx2 := ext_Sx (s := σ) (l := [.cells [.int .i64 l[i].op, ng, mg, .str l[i].name, .int .i64 l[i].sort, kv]]) hr1 (by simp)
      by_cases c2 : l[i].sort = q
      · simp only [go_sem, ↓reduceIte, Nat.reduceMod, Nat.reduceEqDiff, Nat.reduceAdd, Nat.reduceMul, Nat.reduceSub, Nat.reduceLeDiff, Nat.reduceLT, Int.reduceEq, Int.reduceLT, Int.reduceLE, Int.reduceAdd, Int.reduceSub, Int.reduceNeg, reduceCtorEq, Nat.reduceShiftRight, Nat.reduceAnd, Nat.reduceBNe, g0, g7, g8, g9, Int.ofNat_lt, c1, hr1, hv1.ia c1, hat.ld, c2, ne_eq, not_true_eq_false]
        refine ⟨l.length - (i + 1), by omega, i + 1, _, Sx_nil _, hr1.Sx (by simp; omega) (by simp), hx.trans (ext_Sx hr1 (by simp)), ?_, rfl, by omega, ?_, ?_⟩
        · rw [Sx_n hr1 (by simp)]; simp; omega
        · rw [allT_take c1, ha]; simp [c2]
        · rw [wrap_i64 (by omega) (by omega)]; congr 1
      · simp only [go_sem, ↓reduceIte, Nat.reduceMod, Nat.reduceEqDiff, Nat.reduceAdd, Nat.reduceMul, Nat.reduceSub, Nat.reduceLeDiff, Nat.reduceLT, Int.reduceEq, Int.reduceLT, Int.reduceLE, Int.reduceAdd, Int.reduceSub, Int.reduceNeg, reduceCtorEq, Nat.reduceShiftRight, Nat.reduceAnd, Nat.reduceBNe, g0, g7, g8, g9, Int.ofNat_lt, c1, hr1, hv1.ia c1, hat.ld, c2, ne_eq, not_false_eq_true]
        refine settled_bool (hx.trans (ext_Sx hr1 (by simp))) ?_
        unfold allS
        rw [allT_false c1 (by simp [c2])]
    · have e : i = l.length := by omega
      subst e
      rw [List.take_length] at ha
      simp only [go_sem, ↓reduceIte, Nat.reduceMod, Nat.reduceEqDiff, Nat.reduceAdd, Nat.reduceMul, Nat.reduceSub, Nat.reduceLeDiff, Nat.reduceLT, Int.reduceEq, Int.reduceLT, Int.reduceLE, Int.reduceAdd, Int.reduceSub, Int.reduceNeg, reduceCtorEq, Nat.reduceShiftRight, Nat.reduceAnd, Nat.reduceBNe, g0, g7, g8, g9, Int.ofNat_lt, c1]
      exact settled_bool hx ha.symm
  · simp only [go_sem, ↓reduceIte, Nat.reduceMod, Nat.reduceEqDiff, Nat.reduceAdd, Nat.reduceMul, Nat.reduceSub, Nat.reduceLeDiff, Nat.reduceLT, Int.reduceEq, Int.reduceLT, Int.reduceLE, Int.reduceAdd, Int.reduceSub, Int.reduceNeg, reduceCtorEq, Nat.reduceShiftRight, Nat.reduceAnd, Nat.reduceBNe]
    rfl
theorem ref_all_ok (s : St) (v : AV) (l : List T) (q : Int) (hv : Ts s v l) : CA F.ref10_all [v, .int .i64 q] s = .ok (.bool (allS q l)) s := by
  have hm := hv.most
  refine fn_of code_ref10_all (by simp) ?_
  simp only [go_sem, ↓reduceIte, Nat.reduceMod, Nat.reduceEqDiff, Nat.reduceAdd, Nat.reduceMul, Nat.reduceSub, Nat.reduceLeDiff, Nat.reduceLT, Int.reduceEq, Int.reduceLT, Int.reduceLE, Int.reduceAdd, Int.reduceSub, Int.reduceNeg, reduceCtorEq, Nat.reduceShiftRight, Nat.reduceAnd, Nat.reduceBNe]
  refine W_inv (fun k f τ => ∃ (i : Nat), Sx s [] = τ ∧ k = l.length - i ∧ i ≤ l.length ∧ (l.take i).all (fun t => decide (t.sort = q)) = true ∧ (vv 0).get f = v ∧ (vv 1).get f = .int .i64 q ∧ (vv 5).get f = .int .i64 (i : Int)) ?_ ⟨0, rfl, rfl, by omega, by simp, ?_⟩
  · rintro k f τ ⟨i, rfl, rfl, hi, ha, g0, g1, g5⟩
    by_cases c1 : i < l.length
    · obtain ⟨cs, hat⟩ := hv.at c1
      obtain ⟨ng, mg, kv, rfl, hz, hkv⟩ := hat.t6.ex
      by_cases c2 : l[i].sort = q
      · simp only [go_sem, ↓reduceIte, Nat.reduceMod, Nat.reduceEqDiff, Nat.reduceAdd, Nat.reduceMul, Nat.reduceSub, Nat.reduceLeDiff, Nat.reduceLT, Int.reduceEq, Int.reduceLT, Int.reduceLE, Int.reduceAdd, Int.reduceSub, Int.reduceNeg, reduceCtorEq, Nat.reduceShiftRight, Nat.reduceAnd, Nat.reduceBNe, g0, g1, g5, Int.ofNat_lt, c1, hv.vlen, hv.ia c1, hat.fa, hat.fl, c2, ne_eq, not_true_eq_false]
        refine ⟨l.length - (i + 1), by omega, i + 1, rfl, by omega, ?_, ?_⟩
        · rw [allT_take c1, ha]; simp [c2]
        · rw [wrap_i64 (by omega) (by omega)]; congr 1
      · simp only [go_sem, ↓reduceIte, Nat.reduceMod, Nat.reduceEqDiff, Nat.reduceAdd, Nat.reduceMul, Nat.reduceSub, Nat.reduceLeDiff, Nat.reduceLT, Int.reduceEq, Int.reduceLT, Int.reduceLE, Int.reduceAdd, Int.reduceSub, Int.reduceNeg, reduceCtorEq, Nat.reduceShiftRight, Nat.reduceAnd, Nat.reduceBNe, g0, g1, g5, Int.ofNat_lt, c1, hv.vlen, hv.ia c1, hat.fa, hat.fl, c2, ne_eq, not_false_eq_true]
        refine settled_bool (Ext.refl s) ?_
        unfold allS
        rw [allT_false c1 (by simp [c2])]
    · have e : i = l.length := by omega
      subst e
      rw [List.take_length] at ha
      simp only [go_sem, ↓reduceIte, Nat.reduceMod, Nat.reduceEqDiff, Nat.reduceAdd, Nat.reduceMul, Nat.reduceSub, Nat.reduceLeDiff, Nat.reduceLT, Int.reduceEq, Int.reduceLT, Int.reduceLE, Int.reduceAdd, Int.reduceSub, Int.reduceNeg, reduceCtorEq, Nat.reduceShiftRight, Nat.reduceAnd, Nat.reduceBNe, g0, g1, g5, Int.ofNat_lt, c1, hv.vlen]
      exact settled_bool (Ext.refl s) ha.symm
  · simp only [go_sem, ↓reduceIte, Nat.reduceMod, Nat.reduceEqDiff, Nat.reduceAdd, Nat.reduceMul, Nat.reduceSub, Nat.reduceLeDiff, Nat.reduceLT, Int.reduceEq, Int.reduceLT, Int.reduceLE, Int.reduceAdd, Int.reduceSub, Int.reduceNeg, reduceCtorEq, Nat.reduceShiftRight, Nat.reduceAnd, Nat.reduceBNe]
    rfl
end Go.Proofs.YtfndnjmnakdglaaGreatDoor
namespace Go.Proofs.YtfndnjmnakdglaaGreatDoor
open Go Go.Vm
variable [Tel]
set_option linter.unusedSectionVars false
set_option linter.unusedVariables false
set_option linter.unusedSimpArgs false
theorem plain_ok (s : St) (cs : List AV) (t : T) (hr : Room s) (h : RT6 s cs t) : CA F.term_plain [.agg cs] s = .ok (.bool (!t.n.neg && decide (t.n.mag = []) && decide (t.name = []))) s := by
  obtain ⟨ng, mg, kv, rfl, ⟨hz, hz2⟩, hk⟩ := h.ex
  refine fn_of code_term_plain (by simp) ?_
  subst hz
  by_cases c1 : t.n.mag = []
  · cases t.n.neg
    · simp only [go_sem, ↓reduceIte, Nat.reduceMod, Nat.reduceEqDiff, Nat.reduceAdd, Nat.reduceMul, Nat.reduceSub, Nat.reduceLeDiff, Nat.reduceLT, Int.reduceEq, Int.reduceLT, Int.reduceLE, Int.reduceAdd, Int.reduceSub, Int.reduceNeg, reduceCtorEq, Nat.reduceShiftRight, Nat.reduceAnd, Nat.reduceBNe, hr, hz2.vlen, c1, Bool.not_false, List.length_nil, Int.ofNat_eq_zero]
      exact settled_bool (ext_Sx hr (by simp)) (by simp)
    · simp only [go_sem, ↓reduceIte, Nat.reduceMod, Nat.reduceEqDiff, Nat.reduceAdd, Nat.reduceMul, Nat.reduceSub, Nat.reduceLeDiff, Nat.reduceLT, Int.reduceEq, Int.reduceLT, Int.reduceLE, Int.reduceAdd, Int.reduceSub, Int.reduceNeg, reduceCtorEq, Nat.reduceShiftRight, Nat.reduceAnd, Nat.reduceBNe, hr, hz2.vlen, c1, Bool.not_true, List.length_nil, Int.ofNat_eq_zero]
      exact settled_bool (ext_Sx hr (by simp)) (by simp)
  · have c1' : ¬ ((t.n.mag.length : Int) = 0) := by cases h : t.n.mag <;> simp_all; omega
    cases t.n.neg
    · simp only [go_sem, ↓reduceIte, Nat.reduceMod, Nat.reduceEqDiff, Nat.reduceAdd, Nat.reduceMul, Nat.reduceSub, Nat.reduceLeDiff, Nat.reduceLT, Int.reduceEq, Int.reduceLT, Int.reduceLE, Int.reduceAdd, Int.reduceSub, Int.reduceNeg, reduceCtorEq, Nat.reduceShiftRight, Nat.reduceAnd, Nat.reduceBNe, hr, hz2.vlen, c1', Bool.not_false]
      exact settled_bool (ext_Sx hr (by simp)) (by simp [c1])
    · simp only [go_sem, ↓reduceIte, Nat.reduceMod, Nat.reduceEqDiff, Nat.reduceAdd, Nat.reduceMul, Nat.reduceSub, Nat.reduceLeDiff, Nat.reduceLT, Int.reduceEq, Int.reduceLT, Int.reduceLE, Int.reduceAdd, Int.reduceSub, Int.reduceNeg, reduceCtorEq, Nat.reduceShiftRight, Nat.reduceAnd, Nat.reduceBNe, hr, hz2.vlen, c1', Bool.not_true]
      exact settled_bool (ext_Sx hr (by simp)) (by simp)
def resSort (op : Int) (l : List T) : Int := if op = 13 ∨ op = 14 ∨ op = 15 ∨ op = 16 ∨ op = 17 ∨ op = 18 then 2 else if op = 12 then ((l[1]?).map T.sort).getD 0 else 1
theorem sort_ok (s : St) (v : AV) (l : List T) (op : Int) (h12 : op = 12 → 1 < l.length) (hv : Ts s v l) : CA F.term_sort [.int .i64 op, v] s = .ok (.int .i64 (resSort op l)) s := by
  refine fn_of code_term_sort (by simp) ?_
  have hc : op = 13 ∨ op = 14 ∨ op = 15 ∨ op = 16 ∨ op = 17 ∨ op = 18 ∨ op = 12 ∨ (op ≠ 13 ∧ op ≠ 14 ∧ op ≠ 15 ∧ op ≠ 16 ∧ op ≠ 17 ∧ op ≠ 18 ∧ op ≠ 12) := by omega
  rcases hc with rfl | rfl | rfl | rfl | rfl | rfl | rfl | ⟨h1, h2, h3, h4, h5, h6, h7⟩
  case inr.inr.inr.inr.inr.inr.inl =>
    have hi := h12 rfl
    obtain ⟨cs, hat⟩ := hv.atk hi 6 rfl
    obtain ⟨ng, mg, kv, rfl, hz, hkv⟩ := hat.t6.ex
    simp only [go_sem, ↓reduceIte, Nat.reduceMod, Nat.reduceEqDiff, Nat.reduceAdd, Nat.reduceMul, Nat.reduceSub, Nat.reduceLeDiff, Nat.reduceLT, Int.reduceEq, Int.reduceLT, Int.reduceLE, Int.reduceAdd, Int.reduceSub, Int.reduceNeg, reduceCtorEq, Nat.reduceShiftRight, Nat.reduceAnd, Nat.reduceBNe, hv.ia1 hi, hat.fa, hat.fld (m := 10) (j := 4) rfl (by omega)]
    exact settled_int (Ext.refl s) (by simp [resSort, List.getElem?_eq_getElem hi])
  all_goals simp only [go_sem, ↓reduceIte, Nat.reduceMod, Nat.reduceEqDiff, Nat.reduceAdd, Nat.reduceMul, Nat.reduceSub, Nat.reduceLeDiff, Nat.reduceLT, Int.reduceEq, Int.reduceLT, Int.reduceLE, Int.reduceAdd, Int.reduceSub, Int.reduceNeg, reduceCtorEq, Nat.reduceShiftRight, Nat.reduceAnd, Nat.reduceBNe, *]
  all_goals exact settled_int (Ext.refl s) (by simp [resSort, *])
theorem result_ok (s : St) (v : AV) (l : List T) (op : Int) (h12 : op = 12 → 1 < l.length) (hv : Ts s v l) : CA F.ref10_result [.int .i64 op, v] s = .ok (.int .i64 (resSort op l)) s := by
  refine fn_of code_ref10_result (by simp) ?_
  have hc : op = 13 ∨ op = 14 ∨ op = 15 ∨ op = 16 ∨ op = 17 ∨ op = 18 ∨ op = 12 ∨ (op ≠ 13 ∧ op ≠ 14 ∧ op ≠ 15 ∧ op ≠ 16 ∧ op ≠ 17 ∧ op ≠ 18 ∧ op ≠ 12) := by omega
  rcases hc with rfl | rfl | rfl | rfl | rfl | rfl | rfl | ⟨h1, h2, h3, h4, h5, h6, h7⟩
  case inr.inr.inr.inr.inr.inr.inl =>
    have hi := h12 rfl
    obtain ⟨cs, hat⟩ := hv.atk hi 6 rfl
    obtain ⟨ng, mg, kv, rfl, hz, hkv⟩ := hat.t6.ex
    simp only [go_sem, ↓reduceIte, Nat.reduceMod, Nat.reduceEqDiff, Nat.reduceAdd, Nat.reduceMul, Nat.reduceSub, Nat.reduceLeDiff, Nat.reduceLT, Int.reduceEq, Int.reduceLT, Int.reduceLE, Int.reduceAdd, Int.reduceSub, Int.reduceNeg, reduceCtorEq, Nat.reduceShiftRight, Nat.reduceAnd, Nat.reduceBNe, hv.ia1 hi, hat.fa, hat.fld (m := 10) (j := 4) rfl (by omega)]
    exact settled_int (Ext.refl s) (by simp [resSort, List.getElem?_eq_getElem hi])
  all_goals simp only [go_sem, ↓reduceIte, Nat.reduceMod, Nat.reduceEqDiff, Nat.reduceAdd, Nat.reduceMul, Nat.reduceSub, Nat.reduceLeDiff, Nat.reduceLT, Int.reduceEq, Int.reduceLT, Int.reduceLE, Int.reduceAdd, Int.reduceSub, Int.reduceNeg, reduceCtorEq, Nat.reduceShiftRight, Nat.reduceAnd, Nat.reduceBNe, *]
  all_goals exact settled_int (Ext.refl s) (by simp [resSort, *])
def isNum (t : T) : Bool := decide (t.op = 1) || (decide (t.op = 14) && (decide (t.kids.length = 1) && decide (((t.kids[0]?).map T.op).getD 0 = 1)))
def numZ (t : T) : Z := if t.op = 1 then t.n else if isNum t = true then zneg (((t.kids[0]?).map T.n).getD ⟨false, []⟩) else ⟨false, []⟩
theorem ov_num {n : Nat} {a b : AV} (h1 : Ov n a) (h2 : Ov n b) (q : Bool) : Ov n (.tup [.agg [a, b], .bool q]) := ov_tup (by intro c hc; simp at hc; rcases hc with rfl | rfl; exact ov2 h1 h2; exact ov_bool _ _)
theorem num_cases (t : T) : (t.op = 1 ∧ isNum t = true ∧ numZ t = t.n) ∨ (t.op ≠ 1 ∧ t.op = 14 ∧ (∃ h : t.kids.length = 1, t.kids[0].op = 1 ∧ isNum t = true ∧ numZ t = zneg t.kids[0].n)) ∨
    (t.op ≠ 1 ∧ t.op = 14 ∧ (∃ h : t.kids.length = 1, t.kids[0].op ≠ 1 ∧ isNum t = false ∧ numZ t = ⟨false, []⟩)) ∨ (t.op ≠ 1 ∧ t.op = 14 ∧ t.kids.length ≠ 1 ∧ isNum t = false ∧ numZ t = ⟨false, []⟩) ∨ (t.op ≠ 1 ∧ t.op ≠ 14 ∧ isNum t = false ∧ numZ t = ⟨false, []⟩) := by
  by_cases c1 : t.op = 1
  · exact .inl ⟨c1, by simp [isNum, c1], by simp [numZ, c1]⟩
  by_cases c2 : t.op = 14
  · by_cases c3 : t.kids.length = 1
    · have hi : 0 < t.kids.length := by omega
      by_cases c4 : t.kids[0].op = 1
      · have e : isNum t = true := by simp [isNum, c2, c3, List.getElem?_eq_getElem hi, c4]
        exact .inr (.inl ⟨c1, c2, c3, c4, e, by simp [numZ, c1, e, List.getElem?_eq_getElem hi]⟩)
      · have e : isNum t = false := by simp [isNum, c1, c2, c3, List.getElem?_eq_getElem hi, c4]
        exact .inr (.inr (.inl ⟨c1, c2, c3, c4, e, by simp [numZ, c1, e]⟩))
    · have e : isNum t = false := by simp [isNum, c1, c2, c3]
      exact .inr (.inr (.inr (.inl ⟨c1, c2, c3, e, by simp [numZ, c1, e]⟩)))
  · have e : isNum t = false := by simp [isNum, c1, c2]
    exact .inr (.inr (.inr (.inr ⟨c1, c2, e, by simp [numZ, c1, e]⟩)))
theorem Number_ok (s : St) (cs : List AV) (t : T) (hr : Room s) (hn : s.n.val ≤ 1000056000) (h : RT6 s cs t) : ∃ a b, CA F.ref10_Number [.agg cs] s = .ok (.tup [.agg [a, b], .bool (isNum t)]) s ∧ RZ s a b (numZ t) := by
  obtain ⟨ng, mg, kv, rfl, hz, hk⟩ := h.ex
  have zero : RZ s (.bool false) .nils ⟨false, []⟩ := ⟨rfl, nats_nil s⟩
  rcases num_cases t with ⟨c1, e, e2⟩ | ⟨c1, c2, c3, c4, e, e2⟩ | ⟨c1, c2, c3, c4, e, e2⟩ | ⟨c1, c2, c3, e, e2⟩ | ⟨c1, c2, e, e2⟩
  · refine ⟨ng, mg, ?_, by rw [e2]; exact hz⟩
    rw [e]
    refine fn_of code_ref10_Number (by simp) ?_
    simp only [go_sem, ↓reduceIte, Nat.reduceMod, Nat.reduceEqDiff, Nat.reduceAdd, Nat.reduceMul, Nat.reduceSub, Nat.reduceLeDiff, Nat.reduceLT, Int.reduceEq, Int.reduceLT, Int.reduceLE, Int.reduceAdd, Int.reduceSub, Int.reduceNeg, reduceCtorEq, Nat.reduceShiftRight, Nat.reduceAnd, Nat.reduceBNe, hr, c1, hz.one.1, hz.one.2]
    exact settled_ov (ext_Sx hr (by simp)) (ov_num hz.ov.1 hz.ov.2 _)
  · have hi : 0 < t.kids.length := by omega
    have c3' : ((t.kids.length : Int) = 1) := by omega
    obtain ⟨cs, hat⟩ := hk.atk hi 0 rfl
    obtain ⟨ng', mg', kv', rfl, hz', hkv'⟩ := hat.t6.ex
    have hx := ext_Sx (s := s) (l := [.cells [.int .i64 t.op, ng, mg, .str t.name, .int .i64 t.sort, kv], .cells [.bool false, .nils]]) hr (by simp)
    have hcall := ref1_Neg_ok (Sx s [.cells [.int .i64 t.op, ng, mg, .str t.name, .int .i64 t.sort, kv], .cells [.bool false, .nils]]) ng' mg' t.kids[0].n (hr.Sx (by simp; omega) (by simp)) (by rw [Sx_n hr (by simp)]; simp; omega) (hz'.x hx)
    rw [c2] at hcall
    have hz2 := zneg_rep hz'
    refine ⟨_, _, ?_, by rw [e2]; exact hz2⟩
    rw [e]
    refine fn_of code_ref10_Number (by simp) ?_
    simp only [go_sem, ↓reduceIte, Nat.reduceMod, Nat.reduceEqDiff, Nat.reduceAdd, Nat.reduceMul, Nat.reduceSub, Nat.reduceLeDiff, Nat.reduceLT, Int.reduceEq, Int.reduceLT, Int.reduceLE, Int.reduceAdd, Int.reduceSub, Int.reduceNeg, reduceCtorEq, Nat.reduceShiftRight, Nat.reduceAnd, Nat.reduceBNe, hr, c1, c2, c3', hk.vlen, hk.ia0 hi, hat.fad (m := 0) (j := 0) rfl, hat.fld (m := 0) (j := 0) rfl (by omega), c4, hat.fad (m := 1) (j := 1) rfl, hat.num (m := 1) rfl, hcall, hz2.one.2]
    exact settled_ov (ext_Sx hr (by simp)) (ov_num hz2.ov.1 hz2.ov.2 _)
  · have hi : 0 < t.kids.length := by omega
    have c3' : ((t.kids.length : Int) = 1) := by omega
    obtain ⟨cs, hat⟩ := hk.atk hi 0 rfl
    obtain ⟨ng', mg', kv', rfl, hz', hkv'⟩ := hat.t6.ex
    refine ⟨.bool false, .nils, ?_, by rw [e2]; exact zero⟩
    rw [e]
    refine fn_of code_ref10_Number (by simp) ?_
    simp only [go_sem, ↓reduceIte, Nat.reduceMod, Nat.reduceEqDiff, Nat.reduceAdd, Nat.reduceMul, Nat.reduceSub, Nat.reduceLeDiff, Nat.reduceLT, Int.reduceEq, Int.reduceLT, Int.reduceLE, Int.reduceAdd, Int.reduceSub, Int.reduceNeg, reduceCtorEq, Nat.reduceShiftRight, Nat.reduceAnd, Nat.reduceBNe, hr, c1, c2, c3', hk.vlen, hk.ia0 hi, hat.fad (m := 0) (j := 0) rfl, hat.fld (m := 0) (j := 0) rfl (by omega), c4]
    exact settled_ov (ext_Sx hr (by simp)) (ov_num (ov_bool _ _) (ov_nils _) _)
  · have c3' : ¬ ((t.kids.length : Int) = 1) := by omega
    refine ⟨.bool false, .nils, ?_, by rw [e2]; exact zero⟩
    rw [e]
    refine fn_of code_ref10_Number (by simp) ?_
    simp only [go_sem, ↓reduceIte, Nat.reduceMod, Nat.reduceEqDiff, Nat.reduceAdd, Nat.reduceMul, Nat.reduceSub, Nat.reduceLeDiff, Nat.reduceLT, Int.reduceEq, Int.reduceLT, Int.reduceLE, Int.reduceAdd, Int.reduceSub, Int.reduceNeg, reduceCtorEq, Nat.reduceShiftRight, Nat.reduceAnd, Nat.reduceBNe, hr, c1, c2, c3', hk.vlen]
    exact settled_ov (ext_Sx hr (by simp)) (ov_num (ov_bool _ _) (ov_nils _) _)
  · refine ⟨.bool false, .nils, ?_, by rw [e2]; exact zero⟩
    rw [e]
    refine fn_of code_ref10_Number (by simp) ?_
    simp only [go_sem, ↓reduceIte, Nat.reduceMod, Nat.reduceEqDiff, Nat.reduceAdd, Nat.reduceMul, Nat.reduceSub, Nat.reduceLeDiff, Nat.reduceLT, Int.reduceEq, Int.reduceLT, Int.reduceLE, Int.reduceAdd, Int.reduceSub, Int.reduceNeg, reduceCtorEq, Nat.reduceShiftRight, Nat.reduceAnd, Nat.reduceBNe, hr, c1, c2]
    exact settled_ov (ext_Sx hr (by simp)) (ov_num (ov_bool _ _) (ov_nils _) _)
theorem Numeral_ok (s : St) (cs : List AV) (t : T) (hr : Room s) (hn : s.n.val ≤ 1000056000) (hb : ∀ h : 0 < t.kids.length, t.kids[0].n.mag.length ≤ 1000000) (h : RT6 s cs t) : ∃ a b, CA F.term_Numeral [.agg cs] s = .ok (.tup [.agg [a, b], .bool (isNum t)]) s ∧ RZ s a b (numZ t) := by
  obtain ⟨ng, mg, kv, rfl, hz, hk⟩ := h.ex
  have zero : RZ s (.bool false) .nils ⟨false, []⟩ := ⟨rfl, nats_nil s⟩
  rcases num_cases t with ⟨c1, e, e2⟩ | ⟨c1, c2, c3, c4, e, e2⟩ | ⟨c1, c2, c3, c4, e, e2⟩ | ⟨c1, c2, c3, e, e2⟩ | ⟨c1, c2, e, e2⟩
  · refine ⟨ng, mg, ?_, by rw [e2]; exact hz⟩
    rw [e]
    refine fn_of code_term_Numeral (by simp) ?_
    simp only [go_sem, ↓reduceIte, Nat.reduceMod, Nat.reduceEqDiff, Nat.reduceAdd, Nat.reduceMul, Nat.reduceSub, Nat.reduceLeDiff, Nat.reduceLT, Int.reduceEq, Int.reduceLT, Int.reduceLE, Int.reduceAdd, Int.reduceSub, Int.reduceNeg, reduceCtorEq, Nat.reduceShiftRight, Nat.reduceAnd, Nat.reduceBNe, hr, c1, hz.one.1, hz.one.2]
    exact settled_ov (ext_Sx hr (by simp)) (ov_num hz.ov.1 hz.ov.2 _)
  · have hi : 0 < t.kids.length := by omega
    have c3' : ((t.kids.length : Int) = 1) := by omega
    obtain ⟨cs, hat⟩ := hk.atk hi 0 rfl
    obtain ⟨ng', mg', kv', rfl, hz', hkv'⟩ := hat.t6.ex
    have hx := ext_Sx (s := s) (l := [.cells [.int .i64 t.op, ng, mg, .str t.name, .int .i64 t.sort, kv], .cells [.bool false, .nils]]) hr (by simp)
    obtain ⟨r, hcall, hrr⟩ := whole_Neg_ok (Sx s [.cells [.int .i64 t.op, ng, mg, .str t.name, .int .i64 t.sort, kv], .cells [.bool false, .nils]]) ng' mg' t.kids[0].n (hr.Sx (by simp; omega) (by simp)) (by rw [Sx_n hr (by simp)]; simp; omega) (hb hi) (hz'.x hx)
    rw [c2] at hcall
    have hz2 : RZ s (.bool (zneg t.kids[0].n).neg) r (zneg t.kids[0].n) := ⟨rfl, hrr s⟩
    refine ⟨_, _, ?_, by rw [e2]; exact hz2⟩
    rw [e]
    refine fn_of code_term_Numeral (by simp) ?_
    simp only [go_sem, ↓reduceIte, Nat.reduceMod, Nat.reduceEqDiff, Nat.reduceAdd, Nat.reduceMul, Nat.reduceSub, Nat.reduceLeDiff, Nat.reduceLT, Int.reduceEq, Int.reduceLT, Int.reduceLE, Int.reduceAdd, Int.reduceSub, Int.reduceNeg, reduceCtorEq, Nat.reduceShiftRight, Nat.reduceAnd, Nat.reduceBNe, hr, c1, c2, c3', hk.vlen, hk.ia0 hi, hat.fad (m := 0) (j := 0) rfl, hat.fld (m := 0) (j := 0) rfl (by omega), c4, hat.fad (m := 1) (j := 1) rfl, hat.num (m := 1) rfl, hcall, hz2.one.2]
    exact settled_ov (ext_Sx hr (by simp)) (ov_num hz2.ov.1 hz2.ov.2 _)
  · have hi : 0 < t.kids.length := by omega
    have c3' : ((t.kids.length : Int) = 1) := by omega
    obtain ⟨cs, hat⟩ := hk.atk hi 0 rfl
    obtain ⟨ng', mg', kv', rfl, hz', hkv'⟩ := hat.t6.ex
    refine ⟨.bool false, .nils, ?_, by rw [e2]; exact zero⟩
    rw [e]
    refine fn_of code_term_Numeral (by simp) ?_
    simp only [go_sem, ↓reduceIte, Nat.reduceMod, Nat.reduceEqDiff, Nat.reduceAdd, Nat.reduceMul, Nat.reduceSub, Nat.reduceLeDiff, Nat.reduceLT, Int.reduceEq, Int.reduceLT, Int.reduceLE, Int.reduceAdd, Int.reduceSub, Int.reduceNeg, reduceCtorEq, Nat.reduceShiftRight, Nat.reduceAnd, Nat.reduceBNe, hr, c1, c2, c3', hk.vlen, hk.ia0 hi, hat.fad (m := 0) (j := 0) rfl, hat.fld (m := 0) (j := 0) rfl (by omega), c4]
    exact settled_ov (ext_Sx hr (by simp)) (ov_num (ov_bool _ _) (ov_nils _) _)
  · have c3' : ¬ ((t.kids.length : Int) = 1) := by omega
    refine ⟨.bool false, .nils, ?_, by rw [e2]; exact zero⟩
    rw [e]
    refine fn_of code_term_Numeral (by simp) ?_
    simp only [go_sem, ↓reduceIte, Nat.reduceMod, Nat.reduceEqDiff, Nat.reduceAdd, Nat.reduceMul, Nat.reduceSub, Nat.reduceLeDiff, Nat.reduceLT, Int.reduceEq, Int.reduceLT, Int.reduceLE, Int.reduceAdd, Int.reduceSub, Int.reduceNeg, reduceCtorEq, Nat.reduceShiftRight, Nat.reduceAnd, Nat.reduceBNe, hr, c1, c2, c3', hk.vlen]
    exact settled_ov (ext_Sx hr (by simp)) (ov_num (ov_bool _ _) (ov_nils _) _)
  · refine ⟨.bool false, .nils, ?_, by rw [e2]; exact zero⟩
    rw [e]
    refine fn_of code_term_Numeral (by simp) ?_
    simp only [go_sem, ↓reduceIte, Nat.reduceMod, Nat.reduceEqDiff, Nat.reduceAdd, Nat.reduceMul, Nat.reduceSub, Nat.reduceLeDiff, Nat.reduceLT, Int.reduceEq, Int.reduceLT, Int.reduceLE, Int.reduceAdd, Int.reduceSub, Int.reduceNeg, reduceCtorEq, Nat.reduceShiftRight, Nat.reduceAnd, Nat.reduceBNe, hr, c1, c2]
    exact settled_ov (ext_Sx hr (by simp)) (ov_num (ov_bool _ _) (ov_nils _) _)
end Go.Proofs.YtfndnjmnakdglaaGreatDoor
namespace Go.Proofs.YtfndnjmnakdglaaGreatDoor
open Go Go.Vm
variable [Tel]
set_option linter.unusedSectionVars false
set_option linter.unusedVariables false
set_option linter.unusedSimpArgs false
def linE (op : Int) (l : List T) : Int :=
  if op = 15 then (if ((l[0]?).map isNum).getD false = false ∧ ((l[1]?).map isNum).getD false = false then 19 else 0)
  else if op = 16 ∨ op = 17 then (if ((l[1]?).map isNum).getD false = false then 19 else if zsign (((l[1]?).map numZ).getD ⟨false, []⟩) = 0 then 12 else 0) else 0
def NumB (t : T) : Prop := ∀ h : 0 < t.kids.length, t.kids[0].n.mag.length ≤ 1000000
theorem linear_ok (s : St) (v : AV) (l : List T) (op : Int) (hr : Room s) (hn : s.n.val ≤ 1000055000) (hlen : op = 15 ∨ op = 16 ∨ op = 17 → l.length = 2) (hb : ∀ i (h : i < l.length), NumB l[i]) (hv : Ts s v l) : CA F.term_linear [.int .i64 op, v] s = .ok (.int .i64 (linE op l)) s := by
  by_cases h15 : op = 15
  · have h2 := hlen (by omega)
    have i0 : 0 < l.length := by omega
    have i1 : 1 < l.length := by omega
    obtain ⟨cs0, hat0⟩ := hv.atk i0 0 rfl
    obtain ⟨cs1, hat1⟩ := hv.atk i1 6 rfl
    obtain ⟨a0, b0, hc0, hz0⟩ := Numeral_ok (Sx s []) cs0 l[0] hr (by show s.n.val ≤ _; omega) (hb 0 i0) hat0.t6
    obtain ⟨a1, b1, hc1, hz1⟩ := Numeral_ok (Sx s [.cells [a0, b0]]) cs1 l[1] (hr.Sx (by simp; omega) (by simp)) (by rw [Sx_n hr (by simp)]; simp; omega) (hb 1 i1) (hat1.t6.x (ext_Sx hr (by simp)))
    have e : linE op l = if isNum l[0] = false ∧ isNum l[1] = false then 19 else 0 := by simp [linE, h15, List.getElem?_eq_getElem i0, List.getElem?_eq_getElem i1]
    rw [e]
    subst h15
    refine fn_of code_term_linear (by simp) ?_
    cases q0 : isNum l[0]
    · cases q1 : isNum l[1]
      · simp only [go_sem, ↓reduceIte, Nat.reduceMod, Nat.reduceEqDiff, Nat.reduceAdd, Nat.reduceMul, Nat.reduceSub, Nat.reduceLeDiff, Nat.reduceLT, Int.reduceEq, Int.reduceLT, Int.reduceLE, Int.reduceAdd, Int.reduceSub, Int.reduceNeg, reduceCtorEq, Nat.reduceShiftRight, Nat.reduceAnd, Nat.reduceBNe, hr, hv.ia0 i0, hv.ia1 i1, hat0.ld, hat1.ld, hc0, hc1, hz0.one.1, hz0.one.2, hz1.one.1, hz1.one.2, q0, q1, Bool.not_false, Bool.not_true]
        exact settled_int (ext_Sx hr (by simp)) (by simp)
      · simp only [go_sem, ↓reduceIte, Nat.reduceMod, Nat.reduceEqDiff, Nat.reduceAdd, Nat.reduceMul, Nat.reduceSub, Nat.reduceLeDiff, Nat.reduceLT, Int.reduceEq, Int.reduceLT, Int.reduceLE, Int.reduceAdd, Int.reduceSub, Int.reduceNeg, reduceCtorEq, Nat.reduceShiftRight, Nat.reduceAnd, Nat.reduceBNe, hr, hv.ia0 i0, hv.ia1 i1, hat0.ld, hat1.ld, hc0, hc1, hz0.one.1, hz0.one.2, hz1.one.1, hz1.one.2, q0, q1, Bool.not_false, Bool.not_true]
        exact settled_int (ext_Sx hr (by simp)) (by simp)
    · simp only [go_sem, ↓reduceIte, Nat.reduceMod, Nat.reduceEqDiff, Nat.reduceAdd, Nat.reduceMul, Nat.reduceSub, Nat.reduceLeDiff, Nat.reduceLT, Int.reduceEq, Int.reduceLT, Int.reduceLE, Int.reduceAdd, Int.reduceSub, Int.reduceNeg, reduceCtorEq, Nat.reduceShiftRight, Nat.reduceAnd, Nat.reduceBNe, hr, hv.ia0 i0, hv.ia1 i1, hat0.ld, hat1.ld, hc0, hc1, hz0.one.1, hz0.one.2, hz1.one.1, hz1.one.2, q0, Bool.not_false, Bool.not_true]
      exact settled_int (ext_Sx hr (by simp)) (by simp)
  · by_cases h16 : op = 16 ∨ op = 17
    · have h2 := hlen (by omega)
      have i1 : 1 < l.length := by omega
      obtain ⟨cs1, hat1⟩ := hv.atk i1 6 rfl
      obtain ⟨a1, b1, hc1, hz1⟩ := Numeral_ok (Sx s []) cs1 l[1] hr (by show s.n.val ≤ _; omega) (hb 1 i1) hat1.t6
      have hsg := whole_Sign_ok (Sx s [.cells [a1, b1]]) a1 b1 (numZ l[1]) (hr.Sx (by simp; omega) (by simp)) (by rw [Sx_n hr (by simp)]; simp; omega) (hz1.x (ext_Sx hr (by simp)))
      have e : linE op l = if isNum l[1] = false then 19 else if zsign (numZ l[1]) = 0 then 12 else 0 := by simp [linE, h15, h16, List.getElem?_eq_getElem i1]
      rw [e]
      refine fn_of code_term_linear (by simp) ?_
      have hx1 := ext_Sx (s := s) (l := [.cells [a1, b1]]) hr (by simp)
      rcases h16 with rfl | rfl
      all_goals
        cases q1 : isNum l[1]
        · simp only [go_sem, ↓reduceIte, Nat.reduceMod, Nat.reduceEqDiff, Nat.reduceAdd, Nat.reduceMul, Nat.reduceSub, Nat.reduceLeDiff, Nat.reduceLT, Int.reduceEq, Int.reduceLT, Int.reduceLE, Int.reduceAdd, Int.reduceSub, Int.reduceNeg, reduceCtorEq, Nat.reduceShiftRight, Nat.reduceAnd, Nat.reduceBNe, hr, hv.ia1 i1, hat1.ld, hc1, hz1.one.1, hz1.one.2, q1, Bool.not_false, Bool.not_true]
          exact settled_int (ext_Sx hr (by simp)) (by simp)
        · by_cases q2 : zsign (numZ l[1]) = 0
          · simp only [go_sem, ↓reduceIte, Nat.reduceMod, Nat.reduceEqDiff, Nat.reduceAdd, Nat.reduceMul, Nat.reduceSub, Nat.reduceLeDiff, Nat.reduceLT, Int.reduceEq, Int.reduceLT, Int.reduceLE, Int.reduceAdd, Int.reduceSub, Int.reduceNeg, reduceCtorEq, Nat.reduceShiftRight, Nat.reduceAnd, Nat.reduceBNe, hr, hv.ia1 i1, hat1.ld, hc1, hz1.one.1, hz1.one.2, q1, hsg, q2, Bool.not_false, Bool.not_true]
            exact settled_int (ext_Sx hr (by simp)) (by simp)
          · simp only [go_sem, ↓reduceIte, Nat.reduceMod, Nat.reduceEqDiff, Nat.reduceAdd, Nat.reduceMul, Nat.reduceSub, Nat.reduceLeDiff, Nat.reduceLT, Int.reduceEq, Int.reduceLT, Int.reduceLE, Int.reduceAdd, Int.reduceSub, Int.reduceNeg, reduceCtorEq, Nat.reduceShiftRight, Nat.reduceAnd, Nat.reduceBNe, hr, hv.ia1 i1, hat1.ld, hc1, hz1.one.1, hz1.one.2, q1, hsg, q2, Bool.not_false, Bool.not_true]
            exact settled_int (ext_Sx hr (by simp)) (by simp)
    · have h16a : ¬ op = 16 := by omega
      have h16b : ¬ op = 17 := by omega
      have e : linE op l = 0 := by simp [linE, h15, h16]
      rw [e]
      refine fn_of code_term_linear (by simp) ?_
      simp only [go_sem, ↓reduceIte, Nat.reduceMod, Nat.reduceEqDiff, Nat.reduceAdd, Nat.reduceMul, Nat.reduceSub, Nat.reduceLeDiff, Nat.reduceLT, Int.reduceEq, Int.reduceLT, Int.reduceLE, Int.reduceAdd, Int.reduceSub, Int.reduceNeg, reduceCtorEq, Nat.reduceShiftRight, Nat.reduceAnd, Nat.reduceBNe, h15, h16a, h16b]
      exact settled_int (Ext.refl s) rfl
theorem ref_linear_ok (s : St) (v : AV) (l : List T) (op : Int) (hr : Room s) (hn : s.n.val ≤ 1000055000) (hlen : op = 15 ∨ op = 16 ∨ op = 17 → l.length = 2) (hb : ∀ i (h : i < l.length), NumB l[i]) (hv : Ts s v l) : CA F.ref10_linear [.int .i64 op, v] s = .ok (.int .i64 (linE op l)) s := by
  by_cases h15 : op = 15
  · have h2 := hlen (by omega)
    have i0 : 0 < l.length := by omega
    have i1 : 1 < l.length := by omega
    obtain ⟨cs0, hat0⟩ := hv.atk i0 0 rfl
    obtain ⟨cs1, hat1⟩ := hv.atk i1 6 rfl
    obtain ⟨a0, b0, hc0, hz0⟩ := Number_ok (Sx s []) cs0 l[0] hr (by show s.n.val ≤ _; omega)  hat0.t6
    obtain ⟨a1, b1, hc1, hz1⟩ := Number_ok (Sx s [.cells [a0, b0]]) cs1 l[1] (hr.Sx (by simp; omega) (by simp)) (by rw [Sx_n hr (by simp)]; simp; omega)  (hat1.t6.x (ext_Sx hr (by simp)))
    have e : linE op l = if isNum l[0] = false ∧ isNum l[1] = false then 19 else 0 := by simp [linE, h15, List.getElem?_eq_getElem i0, List.getElem?_eq_getElem i1]
    rw [e]
    subst h15
    refine fn_of code_ref10_linear (by simp) ?_
    cases q0 : isNum l[0]
    · cases q1 : isNum l[1]
      · simp only [go_sem, ↓reduceIte, Nat.reduceMod, Nat.reduceEqDiff, Nat.reduceAdd, Nat.reduceMul, Nat.reduceSub, Nat.reduceLeDiff, Nat.reduceLT, Int.reduceEq, Int.reduceLT, Int.reduceLE, Int.reduceAdd, Int.reduceSub, Int.reduceNeg, reduceCtorEq, Nat.reduceShiftRight, Nat.reduceAnd, Nat.reduceBNe, hr, hv.ia0 i0, hv.ia1 i1, hat0.ld, hat1.ld, hc0, hc1, hz0.one.1, hz0.one.2, hz1.one.1, hz1.one.2, q0, q1, Bool.not_false, Bool.not_true]
        exact settled_int (ext_Sx hr (by simp)) (by simp)
      · simp only [go_sem, ↓reduceIte, Nat.reduceMod, Nat.reduceEqDiff, Nat.reduceAdd, Nat.reduceMul, Nat.reduceSub, Nat.reduceLeDiff, Nat.reduceLT, Int.reduceEq, Int.reduceLT, Int.reduceLE, Int.reduceAdd, Int.reduceSub, Int.reduceNeg, reduceCtorEq, Nat.reduceShiftRight, Nat.reduceAnd, Nat.reduceBNe, hr, hv.ia0 i0, hv.ia1 i1, hat0.ld, hat1.ld, hc0, hc1, hz0.one.1, hz0.one.2, hz1.one.1, hz1.one.2, q0, q1, Bool.not_false, Bool.not_true]
        exact settled_int (ext_Sx hr (by simp)) (by simp)
    · simp only [go_sem, ↓reduceIte, Nat.reduceMod, Nat.reduceEqDiff, Nat.reduceAdd, Nat.reduceMul, Nat.reduceSub, Nat.reduceLeDiff, Nat.reduceLT, Int.reduceEq, Int.reduceLT, Int.reduceLE, Int.reduceAdd, Int.reduceSub, Int.reduceNeg, reduceCtorEq, Nat.reduceShiftRight, Nat.reduceAnd, Nat.reduceBNe, hr, hv.ia0 i0, hv.ia1 i1, hat0.ld, hat1.ld, hc0, hc1, hz0.one.1, hz0.one.2, hz1.one.1, hz1.one.2, q0, Bool.not_false, Bool.not_true]
      exact settled_int (ext_Sx hr (by simp)) (by simp)
  · by_cases h16 : op = 16 ∨ op = 17
    · have h2 := hlen (by omega)
      have i1 : 1 < l.length := by omega
      obtain ⟨cs1, hat1⟩ := hv.atk i1 6 rfl
      obtain ⟨a1, b1, hc1, hz1⟩ := Number_ok (Sx s []) cs1 l[1] hr (by show s.n.val ≤ _; omega)  hat1.t6
      have hsg := ref1_Sign_ok (Sx s [.cells [a1, b1]]) a1 b1 (numZ l[1]) (hr.Sx (by simp; omega) (by simp)) (by rw [Sx_n hr (by simp)]; simp; omega) (hz1.x (ext_Sx hr (by simp)))
      have e : linE op l = if isNum l[1] = false then 19 else if zsign (numZ l[1]) = 0 then 12 else 0 := by simp [linE, h15, h16, List.getElem?_eq_getElem i1]
      rw [e]
      refine fn_of code_ref10_linear (by simp) ?_
      have hx1 := ext_Sx (s := s) (l := [.cells [a1, b1]]) hr (by simp)
      rcases h16 with rfl | rfl
      all_goals
        cases q1 : isNum l[1]
        · simp only [go_sem, ↓reduceIte, Nat.reduceMod, Nat.reduceEqDiff, Nat.reduceAdd, Nat.reduceMul, Nat.reduceSub, Nat.reduceLeDiff, Nat.reduceLT, Int.reduceEq, Int.reduceLT, Int.reduceLE, Int.reduceAdd, Int.reduceSub, Int.reduceNeg, reduceCtorEq, Nat.reduceShiftRight, Nat.reduceAnd, Nat.reduceBNe, hr, hv.ia1 i1, hat1.ld, hc1, hz1.one.1, hz1.one.2, q1, Bool.not_false, Bool.not_true]
          exact settled_int (ext_Sx hr (by simp)) (by simp)
        · by_cases q2 : zsign (numZ l[1]) = 0
          · simp only [go_sem, ↓reduceIte, Nat.reduceMod, Nat.reduceEqDiff, Nat.reduceAdd, Nat.reduceMul, Nat.reduceSub, Nat.reduceLeDiff, Nat.reduceLT, Int.reduceEq, Int.reduceLT, Int.reduceLE, Int.reduceAdd, Int.reduceSub, Int.reduceNeg, reduceCtorEq, Nat.reduceShiftRight, Nat.reduceAnd, Nat.reduceBNe, hr, hv.ia1 i1, hat1.ld, hc1, hz1.one.1, hz1.one.2, q1, hsg, q2, Bool.not_false, Bool.not_true]
            exact settled_int (ext_Sx hr (by simp)) (by simp)
          · simp only [go_sem, ↓reduceIte, Nat.reduceMod, Nat.reduceEqDiff, Nat.reduceAdd, Nat.reduceMul, Nat.reduceSub, Nat.reduceLeDiff, Nat.reduceLT, Int.reduceEq, Int.reduceLT, Int.reduceLE, Int.reduceAdd, Int.reduceSub, Int.reduceNeg, reduceCtorEq, Nat.reduceShiftRight, Nat.reduceAnd, Nat.reduceBNe, hr, hv.ia1 i1, hat1.ld, hc1, hz1.one.1, hz1.one.2, q1, hsg, q2, Bool.not_false, Bool.not_true]
            exact settled_int (ext_Sx hr (by simp)) (by simp)
    · have h16a : ¬ op = 16 := by omega
      have h16b : ¬ op = 17 := by omega
      have e : linE op l = 0 := by simp [linE, h15, h16]
      rw [e]
      refine fn_of code_ref10_linear (by simp) ?_
      simp only [go_sem, ↓reduceIte, Nat.reduceMod, Nat.reduceEqDiff, Nat.reduceAdd, Nat.reduceMul, Nat.reduceSub, Nat.reduceLeDiff, Nat.reduceLT, Int.reduceEq, Int.reduceLT, Int.reduceLE, Int.reduceAdd, Int.reduceSub, Int.reduceNeg, reduceCtorEq, Nat.reduceShiftRight, Nat.reduceAnd, Nat.reduceBNe, h15, h16a, h16b]
      exact settled_int (Ext.refl s) rfl
end Go.Proofs.YtfndnjmnakdglaaGreatDoor
namespace Go.Proofs.YtfndnjmnakdglaaGreatDoor
open Go Go.Vm
variable [Tel]
set_option linter.unusedSectionVars false
set_option linter.unusedVariables false
set_option linter.unusedSimpArgs false
def sortsOk (op : Int) (l : List T) : Bool :=
  if op = 5 ∨ op = 6 ∨ op = 7 ∨ op = 8 ∨ op = 9 then allS 1 l
  else if op = 12 then decide (((l[0]?).map T.sort).getD 0 = 1) && decide (((l[1]?).map T.sort).getD 0 = ((l[2]?).map T.sort).getD 0)
  else if op = 10 ∨ op = 11 then allS (((l[0]?).map T.sort).getD 0) l else allS 2 l
theorem sort_cases (op : Int) : (op = 5 ∨ op = 6 ∨ op = 7 ∨ op = 8 ∨ op = 9) ∨ op = 12 ∨ (op = 10 ∨ op = 11) ∨ (op ≠ 5 ∧ op ≠ 6 ∧ op ≠ 7 ∧ op ≠ 8 ∧ op ≠ 9 ∧ op ≠ 12 ∧ op ≠ 10 ∧ op ≠ 11) := by omega
theorem ref_sorted_ok (s : St) (v : AV) (l : List T) (op : Int) (hr : Room s) (h12 : op = 12 → 2 < l.length) (h10 : op = 10 ∨ op = 11 → 0 < l.length) (hv : Ts s v l) : CA F.ref10_sorted [.int .i64 op, v] s = .ok (.bool (sortsOk op l)) s := by
  rcases sort_cases op with h | rfl | h | ⟨n1, n2, n3, n4, n5, n6, n7, n8⟩
  · have hc := ref_all_ok (Sx s []) v l 1 hv
    have e : sortsOk op l = allS 1 l := by simp [sortsOk, h]
    rw [e]
    refine fn_of code_ref10_sorted (by simp) ?_
    rcases h with rfl | rfl | rfl | rfl | rfl
    all_goals
      simp only [go_sem, ↓reduceIte, Nat.reduceMod, Nat.reduceEqDiff, Nat.reduceAdd, Nat.reduceMul, Nat.reduceSub, Nat.reduceLeDiff, Nat.reduceLT, Int.reduceEq, Int.reduceLT, Int.reduceLE, Int.reduceAdd, Int.reduceSub, Int.reduceNeg, reduceCtorEq, Nat.reduceShiftRight, Nat.reduceAnd, Nat.reduceBNe, hc]
      exact settled_bool (Ext.refl s) rfl
  · have i2 := h12 rfl
    have i0 : 0 < l.length := by omega
    have i1 : 1 < l.length := by omega
    obtain ⟨cs0, hat0⟩ := hv.atk i0 0 rfl
    obtain ⟨cs1, hat1⟩ := hv.atk i1 6 rfl
    obtain ⟨cs2, hat2⟩ := hv.atk i2 12 rfl
    obtain ⟨_, _, _, rfl, _, _⟩ := hat0.t6.ex
    obtain ⟨_, _, _, rfl, _, _⟩ := hat1.t6.ex
    obtain ⟨_, _, _, rfl, _, _⟩ := hat2.t6.ex
    have e : sortsOk 12 l = (decide (l[0].sort = 1) && decide (l[1].sort = l[2].sort)) := by simp [sortsOk, List.getElem?_eq_getElem i0, List.getElem?_eq_getElem i1, List.getElem?_eq_getElem i2]
    rw [e]
    refine fn_of code_ref10_sorted (by simp) ?_
    simp only [go_sem, ↓reduceIte, Nat.reduceMod, Nat.reduceEqDiff, Nat.reduceAdd, Nat.reduceMul, Nat.reduceSub, Nat.reduceLeDiff, Nat.reduceLT, Int.reduceEq, Int.reduceLT, Int.reduceLE, Int.reduceAdd, Int.reduceSub, Int.reduceNeg, reduceCtorEq, Nat.reduceShiftRight, Nat.reduceAnd, Nat.reduceBNe]
    refine W_drawn hr _ (by simp) ?_
    by_cases c : l[0].sort = 1
    · simp only [go_sem, ↓reduceIte, Nat.reduceMod, Nat.reduceEqDiff, Nat.reduceAdd, Nat.reduceMul, Nat.reduceSub, Nat.reduceLeDiff, Nat.reduceLT, Int.reduceEq, Int.reduceLT, Int.reduceLE, Int.reduceAdd, Int.reduceSub, Int.reduceNeg, reduceCtorEq, Nat.reduceShiftRight, Nat.reduceAnd, Nat.reduceBNe, hr, hv.ia0 i0, hv.ia1 i1, hv.ia2 i2, hat0.fad (m := 4) (j := 4) rfl, hat1.fad (m := 10) (j := 4) rfl, hat2.fad (m := 16) (j := 4) rfl, hat0.fld (m := 4) (j := 4) rfl (by omega), hat1.fld (m := 10) (j := 4) rfl (by omega), hat2.fld (m := 16) (j := 4) rfl (by omega), c]
      exact settled_bool (ext_Sx hr (by simp)) (by simp)
    · simp only [go_sem, ↓reduceIte, Nat.reduceMod, Nat.reduceEqDiff, Nat.reduceAdd, Nat.reduceMul, Nat.reduceSub, Nat.reduceLeDiff, Nat.reduceLT, Int.reduceEq, Int.reduceLT, Int.reduceLE, Int.reduceAdd, Int.reduceSub, Int.reduceNeg, reduceCtorEq, Nat.reduceShiftRight, Nat.reduceAnd, Nat.reduceBNe, hr, hv.ia0 i0, hat0.fad (m := 4) (j := 4) rfl, hat0.fld (m := 4) (j := 4) rfl (by omega), c]
      exact settled_bool (ext_Sx hr (by simp)) (by simp)
  · have i0 := h10 h
    obtain ⟨cs0, hat0⟩ := hv.atk i0 0 rfl
    obtain ⟨_, _, _, rfl, _, _⟩ := hat0.t6.ex
    have hc := ref_all_ok (Sx s []) v l l[0].sort hv
    have e : sortsOk op l = allS l[0].sort l := by
      rcases h with rfl | rfl <;> simp [sortsOk, List.getElem?_eq_getElem i0]
    rw [e]
    refine fn_of code_ref10_sorted (by simp) ?_
    rcases h with rfl | rfl
    all_goals
      simp only [go_sem, ↓reduceIte, Nat.reduceMod, Nat.reduceEqDiff, Nat.reduceAdd, Nat.reduceMul, Nat.reduceSub, Nat.reduceLeDiff, Nat.reduceLT, Int.reduceEq, Int.reduceLT, Int.reduceLE, Int.reduceAdd, Int.reduceSub, Int.reduceNeg, reduceCtorEq, Nat.reduceShiftRight, Nat.reduceAnd, Nat.reduceBNe, hv.ia0 i0, hat0.fad (m := 4) (j := 4) rfl, hat0.fld (m := 4) (j := 4) rfl (by omega), hc]
      exact settled_bool (Ext.refl s) rfl
  · have hc := ref_all_ok (Sx s []) v l 2 hv
    have e : sortsOk op l = allS 2 l := by simp [sortsOk, n1, n2, n3, n4, n5, n6, n7, n8]
    rw [e]
    refine fn_of code_ref10_sorted (by simp) ?_
    simp only [go_sem, ↓reduceIte, Nat.reduceMod, Nat.reduceEqDiff, Nat.reduceAdd, Nat.reduceMul, Nat.reduceSub, Nat.reduceLeDiff, Nat.reduceLT, Int.reduceEq, Int.reduceLT, Int.reduceLE, Int.reduceAdd, Int.reduceSub, Int.reduceNeg, reduceCtorEq, Nat.reduceShiftRight, Nat.reduceAnd, Nat.reduceBNe, hc, n1, n2, n3, n4, n5, n6, n7, n8]
    exact settled_bool (Ext.refl s) rfl
theorem one_sl {s : St} {cs : List AV} {t : T} {L : List AO} {i : Nat} (hr : Room s) (hl : L.length ≤ 5000) (hi : L[i]? = some (.cells cs)) (h : RT6 s cs t) : Ts (Sx s L) (.sl (nm s i) 0 1 1 0) [t] := by
  have hlt := (List.getElem?_eq_some_iff.mp hi).1
  exact of6 (h.x (ext_Sx hr hl)) 1 (Sx_obj? hr hl hi) (by rw [nm_val hr (by omega), Sx_n hr hl]; omega) 0
theorem allS_1 (k : Int) (t : T) : allS k [t] = decide (t.sort = k) := by simp [allS]
theorem sorts_ok (s : St) (v : AV) (l : List T) (op : Int) (hr : Room s) (hn : s.n.val + l.length ≤ 1000058000) (h12 : op = 12 → 2 < l.length) (h10 : op = 10 ∨ op = 11 → 0 < l.length) (hv : Ts s v l) : CA F.term_sorts [.int .i64 op, v] s = .ok (.bool (sortsOk op l)) s := by
  rcases sort_cases op with h | rfl | h | ⟨n1, n2, n3, n4, n5, n6, n7, n8⟩
  · have hc := of_sort_ok (Sx s []) v l 1 hr (by show s.n.val + _ ≤ _; omega) hv
    have e : sortsOk op l = allS 1 l := by simp [sortsOk, h]
    rw [e]
    refine fn_of code_term_sorts (by simp) ?_
    rcases h with rfl | rfl | rfl | rfl | rfl
    all_goals
      simp only [go_sem, ↓reduceIte, Nat.reduceMod, Nat.reduceEqDiff, Nat.reduceAdd, Nat.reduceMul, Nat.reduceSub, Nat.reduceLeDiff, Nat.reduceLT, Int.reduceEq, Int.reduceLT, Int.reduceLE, Int.reduceAdd, Int.reduceSub, Int.reduceNeg, reduceCtorEq, Nat.reduceShiftRight, Nat.reduceAnd, Nat.reduceBNe, hc]
      exact settled_bool (Ext.refl s) rfl
  · have i2 := h12 rfl
    have i0 : 0 < l.length := by omega
    have i1 : 1 < l.length := by omega
    obtain ⟨cs0, hat0⟩ := hv.atk i0 0 rfl
    obtain ⟨cs1, hat1⟩ := hv.atk i1 6 rfl
    obtain ⟨cs2, hat2⟩ := hv.atk i2 12 rfl
    have t0 := hat0.t6
    have t2 := hat2.t6
    have l0 := hat0.len
    have l2 := hat2.len
    obtain ⟨_, _, _, rfl, _, _⟩ := hat1.t6.ex
    have hc0 := of_sort_ok (Sx s [.dead, .dead, .dead, .cells cs0, .dead, .dead, .dead, .dead, .dead, .dead, .dead, .dead, .dead, .dead, .dead, .dead, .dead]) (.sl (nm s 3) 0 1 1 0) [l[0]] 1 (hr.Sx (by simp; omega) (by simp)) (by rw [Sx_n hr (by simp)]; simp; omega) (one_sl hr (by simp) rfl t0)
    have hc2 := of_sort_ok (Sx s [.dead, .dead, .dead, .cells cs0, .dead, .dead, .dead, .dead, .dead, .dead, .dead, .dead, .dead, .cells cs2, .dead, .dead, .dead]) (.sl (nm s 13) 0 1 1 0) [l[2]] l[1].sort (hr.Sx (by simp; omega) (by simp)) (by rw [Sx_n hr (by simp)]; simp; omega) (one_sl hr (by simp) rfl t2)
    rw [allS_1] at hc0 hc2
    have e : sortsOk 12 l = (decide (l[0].sort = 1) && decide (l[2].sort = l[1].sort)) := by
      have e0 : decide (l[1].sort = l[2].sort) = decide (l[2].sort = l[1].sort) := by rw [Bool.eq_iff_iff]; simp only [decide_eq_true_eq]; exact eq_comm
      simp [sortsOk, List.getElem?_eq_getElem i0, List.getElem?_eq_getElem i1, List.getElem?_eq_getElem i2, e0]
    rw [e]
    refine fn_of code_term_sorts (by simp) ?_
    simp only [go_sem, ↓reduceIte, Nat.reduceMod, Nat.reduceEqDiff, Nat.reduceAdd, Nat.reduceMul, Nat.reduceSub, Nat.reduceLeDiff, Nat.reduceLT, Int.reduceEq, Int.reduceLT, Int.reduceLE, Int.reduceAdd, Int.reduceSub, Int.reduceNeg, reduceCtorEq, Nat.reduceShiftRight, Nat.reduceAnd, Nat.reduceBNe]
    refine W_drawn hr _ (by simp) ?_
    by_cases c : l[0].sort = 1
    · simp only [go_sem, ↓reduceIte, Nat.reduceMod, Nat.reduceEqDiff, Nat.reduceAdd, Nat.reduceMul, Nat.reduceSub, Nat.reduceLeDiff, Nat.reduceLT, Int.reduceEq, Int.reduceLT, Int.reduceLE, Int.reduceAdd, Int.reduceSub, Int.reduceNeg, reduceCtorEq, Nat.reduceShiftRight, Nat.reduceAnd, Nat.reduceBNe, hr, hv.ia0 i0, hat0.ld, l0, hc0, c]
      simp only [go_sem, ↓reduceIte, Nat.reduceMod, Nat.reduceEqDiff, Nat.reduceAdd, Nat.reduceMul, Nat.reduceSub, Nat.reduceLeDiff, Nat.reduceLT, Int.reduceEq, Int.reduceLT, Int.reduceLE, Int.reduceAdd, Int.reduceSub, Int.reduceNeg, reduceCtorEq, Nat.reduceShiftRight, Nat.reduceAnd, Nat.reduceBNe, hr, hv.ia1 i1, hv.ia2 i2, hat1.fad (m := 10) (j := 4) rfl, hat2.ld, l2, hat1.fld (m := 10) (j := 4) rfl (by omega), hc2]
      exact settled_bool (ext_Sx hr (by simp)) (by simp [c])
    · simp only [go_sem, ↓reduceIte, Nat.reduceMod, Nat.reduceEqDiff, Nat.reduceAdd, Nat.reduceMul, Nat.reduceSub, Nat.reduceLeDiff, Nat.reduceLT, Int.reduceEq, Int.reduceLT, Int.reduceLE, Int.reduceAdd, Int.reduceSub, Int.reduceNeg, reduceCtorEq, Nat.reduceShiftRight, Nat.reduceAnd, Nat.reduceBNe, hr, hv.ia0 i0, hat0.ld, l0, hc0, c]
      exact settled_bool (ext_Sx hr (by simp)) (by simp)
  · have i0 := h10 h
    obtain ⟨cs0, hat0⟩ := hv.atk i0 0 rfl
    obtain ⟨_, _, _, rfl, _, _⟩ := hat0.t6.ex
    have hc := of_sort_ok (Sx s []) v l l[0].sort hr (by show s.n.val + _ ≤ _; omega) hv
    have e : sortsOk op l = allS l[0].sort l := by
      rcases h with rfl | rfl <;> simp [sortsOk, List.getElem?_eq_getElem i0]
    rw [e]
    refine fn_of code_term_sorts (by simp) ?_
    rcases h with rfl | rfl
    all_goals
      simp only [go_sem, ↓reduceIte, Nat.reduceMod, Nat.reduceEqDiff, Nat.reduceAdd, Nat.reduceMul, Nat.reduceSub, Nat.reduceLeDiff, Nat.reduceLT, Int.reduceEq, Int.reduceLT, Int.reduceLE, Int.reduceAdd, Int.reduceSub, Int.reduceNeg, reduceCtorEq, Nat.reduceShiftRight, Nat.reduceAnd, Nat.reduceBNe, hv.ia0 i0, hat0.fad (m := 4) (j := 4) rfl, hat0.fld (m := 4) (j := 4) rfl (by omega), hc]
      exact settled_bool (Ext.refl s) rfl
  · have hc := of_sort_ok (Sx s []) v l 2 hr (by show s.n.val + _ ≤ _; omega) hv
    have e : sortsOk op l = allS 2 l := by simp [sortsOk, n1, n2, n3, n4, n5, n6, n7, n8]
    rw [e]
    refine fn_of code_term_sorts (by simp) ?_
    simp only [go_sem, ↓reduceIte, Nat.reduceMod, Nat.reduceEqDiff, Nat.reduceAdd, Nat.reduceMul, Nat.reduceSub, Nat.reduceLeDiff, Nat.reduceLT, Int.reduceEq, Int.reduceLT, Int.reduceLE, Int.reduceAdd, Int.reduceSub, Int.reduceNeg, reduceCtorEq, Nat.reduceShiftRight, Nat.reduceAnd, Nat.reduceBNe, hc, n1, n2, n3, n4, n5, n6, n7, n8]
    exact settled_bool (Ext.refl s) rfl
def wrongE (op : Int) (l : List T) : Int := if sortsOk op l = false then 17 else linE op l
theorem wrong_ok (s : St) (v : AV) (l : List T) (op : Int) (hr : Room s) (hn : s.n.val + l.length ≤ 1000054000) (h12 : op = 12 → 2 < l.length) (h10 : op = 10 ∨ op = 11 → 0 < l.length) (hlen : op = 15 ∨ op = 16 ∨ op = 17 → l.length = 2) (hb : ∀ i (h : i < l.length), NumB l[i]) (hv : Ts s v l) : CA F.term_wrong [.int .i64 op, v] s = .ok (.int .i64 (wrongE op l)) s := by
  have h1 := sorts_ok (Sx s []) v l op hr (by show s.n.val + _ ≤ _; omega) h12 h10 hv
  have h2 := linear_ok (Sx s []) v l op hr (by show s.n.val ≤ _; omega) hlen hb hv
  refine fn_of code_term_wrong (by simp) ?_
  unfold wrongE
  cases c : sortsOk op l
  · simp only [go_sem, ↓reduceIte, Nat.reduceMod, Nat.reduceEqDiff, Nat.reduceAdd, Nat.reduceMul, Nat.reduceSub, Nat.reduceLeDiff, Nat.reduceLT, Int.reduceEq, Int.reduceLT, Int.reduceLE, Int.reduceAdd, Int.reduceSub, Int.reduceNeg, reduceCtorEq, Nat.reduceShiftRight, Nat.reduceAnd, Nat.reduceBNe, h1, c, Bool.not_false]
    exact settled_int (Ext.refl s) (by simp)
  · simp only [go_sem, ↓reduceIte, Nat.reduceMod, Nat.reduceEqDiff, Nat.reduceAdd, Nat.reduceMul, Nat.reduceSub, Nat.reduceLeDiff, Nat.reduceLT, Int.reduceEq, Int.reduceLT, Int.reduceLE, Int.reduceAdd, Int.reduceSub, Int.reduceNeg, reduceCtorEq, Nat.reduceShiftRight, Nat.reduceAnd, Nat.reduceBNe, h1, h2, c, Bool.not_true]
    exact settled_int (Ext.refl s) (by simp)
def checkE (op : Int) (l : List T) : Int := if wrongE op l ≠ 0 then wrongE op l else if 400 < min (1 + T.sizes l) 401 then 11 else 0
theorem ref_check_ok (s : St) (v : AV) (l : List T) (op : Int) (hr : Room s) (hn : s.n.val + l.length ≤ 1000054000) (h12 : op = 12 → 2 < l.length) (h10 : op = 10 ∨ op = 11 → 0 < l.length) (hlen : op = 15 ∨ op = 16 ∨ op = 17 → l.length = 2) (hb : ∀ i (h : i < l.length), NumB l[i]) (hv : Ts s v l) : CA F.ref10_check [.int .i64 op, v] s = .ok (.int .i64 (checkE op l)) s := by
  have h1 := ref_sorted_ok (Sx s []) v l op hr h12 h10 hv
  have h2 := ref_linear_ok (Sx s []) v l op hr (by show s.n.val ≤ _; omega) hlen hb hv
  have h3 := ref_Count_ok (Sx s []) [.int .i64 0, .bool false, .nils, .str [], .int .i64 0, v] (.mk 0 ⟨false, []⟩ [] 0 l) hr (by show s.n.val ≤ _; omega) ⟨.bool false, .nils, v, rfl, ⟨rfl, nats_nil s⟩, hv⟩
  refine fn_of code_ref10_check (by simp) ?_
  unfold checkE wrongE
  cases c : sortsOk op l
  · simp only [go_sem, ↓reduceIte, Nat.reduceMod, Nat.reduceEqDiff, Nat.reduceAdd, Nat.reduceMul, Nat.reduceSub, Nat.reduceLeDiff, Nat.reduceLT, Int.reduceEq, Int.reduceLT, Int.reduceLE, Int.reduceAdd, Int.reduceSub, Int.reduceNeg, reduceCtorEq, Nat.reduceShiftRight, Nat.reduceAnd, Nat.reduceBNe, h1, c, Bool.not_false]
    exact settled_int (Ext.refl s) (by simp)
  · by_cases c2 : linE op l = 0
    · by_cases c3 : (400 : Int) < min ((1 + T.sizes l : Nat) : Int) 401
      · simp only [go_sem, ↓reduceIte, Nat.reduceMod, Nat.reduceEqDiff, Nat.reduceAdd, Nat.reduceMul, Nat.reduceSub, Nat.reduceLeDiff, Nat.reduceLT, Int.reduceEq, Int.reduceLT, Int.reduceLE, Int.reduceAdd, Int.reduceSub, Int.reduceNeg, reduceCtorEq, Nat.reduceShiftRight, Nat.reduceAnd, Nat.reduceBNe, h1, h2, h3, c, c2, hv.one, Bool.not_true, ne_eq, not_true_eq_false, T.size, c3]
        exact settled_int (Ext.refl s) (by simp; omega)
      · simp only [go_sem, ↓reduceIte, Nat.reduceMod, Nat.reduceEqDiff, Nat.reduceAdd, Nat.reduceMul, Nat.reduceSub, Nat.reduceLeDiff, Nat.reduceLT, Int.reduceEq, Int.reduceLT, Int.reduceLE, Int.reduceAdd, Int.reduceSub, Int.reduceNeg, reduceCtorEq, Nat.reduceShiftRight, Nat.reduceAnd, Nat.reduceBNe, h1, h2, h3, c, c2, hv.one, Bool.not_true, ne_eq, not_true_eq_false, T.size, c3]
        exact settled_int (Ext.refl s) (by simp; omega)
    · simp only [go_sem, ↓reduceIte, Nat.reduceMod, Nat.reduceEqDiff, Nat.reduceAdd, Nat.reduceMul, Nat.reduceSub, Nat.reduceLeDiff, Nat.reduceLT, Int.reduceEq, Int.reduceLT, Int.reduceLE, Int.reduceAdd, Int.reduceSub, Int.reduceNeg, reduceCtorEq, Nat.reduceShiftRight, Nat.reduceAnd, Nat.reduceBNe, h1, h2, c, c2, Bool.not_true, ne_eq, not_false_eq_true]
      exact settled_int (Ext.refl s) (by simp [c2])
theorem Few_ok (s : St) (cs : List AV) (t : T) (hr : Room s) (hn : s.n.val ≤ 1000058000) (h : RT6 s cs t) : CA F.ref10_Few [.agg cs] s = .ok (.bool (decide (t.size ≤ 400))) s := by
  have hx := ext_Sx (s := s) (l := [.cells cs]) hr (by simp)
  have h1 := ref_Count_ok (Sx s [.cells cs]) cs t (hr.Sx (by simp; omega) (by simp)) (by rw [Sx_n hr (by simp)]; simp; omega) (h.x hx)
  obtain ⟨_, _, _, rfl, _, _⟩ := h.ex
  refine fn_of code_ref10_Few (by simp) ?_
  simp only [go_sem, ↓reduceIte, Nat.reduceMod, Nat.reduceEqDiff, Nat.reduceAdd, Nat.reduceMul, Nat.reduceSub, Nat.reduceLeDiff, Nat.reduceLT, Int.reduceEq, Int.reduceLT, Int.reduceLE, Int.reduceAdd, Int.reduceSub, Int.reduceNeg, reduceCtorEq, Nat.reduceShiftRight, Nat.reduceAnd, Nat.reduceBNe, hr, h1]
  exact settled_bool (ext_Sx hr (by simp)) (by congr 1; apply propext; omega)
end Go.Proofs.YtfndnjmnakdglaaGreatDoor
namespace Go.Proofs.YtfndnjmnakdglaaGreatDoor
open Go Go.Vm
variable [Tel]
set_option linter.unusedSectionVars false
set_option linter.unusedVariables false
set_option linter.unusedSimpArgs false
def marks : List UInt8 := [126, 33, 64, 36, 37, 94, 38, 42, 95, 45, 43, 61, 60, 62, 46, 63, 47]
def isDig (x : UInt8) : Bool := decide (48 ≤ x.toNat ∧ x.toNat ≤ 57)
def isLet (x : UInt8) : Bool := isDig x || (decide (97 ≤ x.toNat ∧ x.toNat ≤ 122) || (decide (65 ≤ x.toNat ∧ x.toNat ≤ 90) || decide (x ∈ marks)))
theorem digit_ok (s : St) (x : UInt8) : CA F.lex_digit [.int .u8 (x.toNat : Int)] s = .ok (.bool (isDig x)) s := by
  refine fn_of code_lex_digit (by simp) ?_
  by_cases c : (48 : Int) ≤ (x.toNat : Int)
  · simp only [go_sem, ↓reduceIte, Nat.reduceMod, Nat.reduceEqDiff, Nat.reduceAdd, Nat.reduceMul, Nat.reduceSub, Nat.reduceLeDiff, Nat.reduceLT, Int.reduceEq, Int.reduceLT, Int.reduceLE, Int.reduceAdd, Int.reduceSub, Int.reduceNeg, reduceCtorEq, Nat.reduceShiftRight, Nat.reduceAnd, Nat.reduceBNe, c]
    exact settled_bool (Ext.refl s) (by unfold isDig; congr 1; apply propext; omega)
  · simp only [go_sem, ↓reduceIte, Nat.reduceMod, Nat.reduceEqDiff, Nat.reduceAdd, Nat.reduceMul, Nat.reduceSub, Nat.reduceLeDiff, Nat.reduceLT, Int.reduceEq, Int.reduceLT, Int.reduceLE, Int.reduceAdd, Int.reduceSub, Int.reduceNeg, reduceCtorEq, Nat.reduceShiftRight, Nat.reduceAnd, Nat.reduceBNe, c]
    exact settled_bool (Ext.refl s) (by unfold isDig; symm; rw [decide_eq_false_iff_not]; omega)
theorem ref_digit_ok (s : St) (x : UInt8) : CA F.ref8_digit [.int .u8 (x.toNat : Int)] s = .ok (.bool (isDig x)) s := by
  refine fn_of code_ref8_digit (by simp) ?_
  by_cases c : (48 : Int) ≤ (x.toNat : Int)
  · simp only [go_sem, ↓reduceIte, Nat.reduceMod, Nat.reduceEqDiff, Nat.reduceAdd, Nat.reduceMul, Nat.reduceSub, Nat.reduceLeDiff, Nat.reduceLT, Int.reduceEq, Int.reduceLT, Int.reduceLE, Int.reduceAdd, Int.reduceSub, Int.reduceNeg, reduceCtorEq, Nat.reduceShiftRight, Nat.reduceAnd, Nat.reduceBNe, c]
    exact settled_bool (Ext.refl s) (by unfold isDig; congr 1; apply propext; omega)
  · simp only [go_sem, ↓reduceIte, Nat.reduceMod, Nat.reduceEqDiff, Nat.reduceAdd, Nat.reduceMul, Nat.reduceSub, Nat.reduceLeDiff, Nat.reduceLT, Int.reduceEq, Int.reduceLT, Int.reduceLE, Int.reduceAdd, Int.reduceSub, Int.reduceNeg, reduceCtorEq, Nat.reduceShiftRight, Nat.reduceAnd, Nat.reduceBNe, c]
    exact settled_bool (Ext.refl s) (by unfold isDig; symm; rw [decide_eq_false_iff_not]; omega)
theorem index_mem (l : List UInt8) (c : UInt8) : (0 ≤ Lib.indexByte l c) = (c ∈ l) := by
  apply propext
  have key : ∀ l : List UInt8, (Lib.indexByte l c = -1 ∧ c ∉ l) ∨ (0 ≤ Lib.indexByte l c ∧ c ∈ l) := by
    intro l
    induction l with
    | nil => exact .inl ⟨rfl, by simp⟩
    | cons b l ih =>
      unfold Lib.indexByte
      by_cases h : b = c
      · subst h; right; simp
      · have h' : (b == c) = false := by simp [h]
        rw [h']
        rcases ih with ⟨h1, h2⟩ | ⟨h1, h2⟩
        · left; rw [h1]; simp [h2]; exact fun e => h e.symm
        · right
          have : (Lib.indexByte l c == -1) = false := by simp; omega
          rw [this]; simp [h2]; omega
  rcases key l with ⟨h1, h2⟩ | ⟨h1, h2⟩
  · constructor
    · intro h; omega
    · intro h; exact absurd h h2
  · exact ⟨fun _ => h2, fun _ => h1⟩
theorem indexByte_ok (s : St) (l : List UInt8) (x : UInt8) : CA F.strings_IndexByte [.str l, .int .u8 (x.toNat : Int)] s = .ok (.int .i64 (Lib.indexByte l x)) s := by
  refine cc_ok.mpr (.base _ _ _ _ _ ?_)
  have e : F.strings_IndexByte.get BT = strings_IndexByte_B := by kernel_rfl
  rw [e]
  show R.ok (.int .i64 (Lib.indexByte l ((x.toNat : Int).toNat.toUInt8))) s = _
  congr 3
  simp
theorem isLet_else {x : UInt8} (h1 : isDig x = false) (h2 : ¬ (97 ≤ x.toNat ∧ x.toNat ≤ 122)) (h3 : ¬ (65 ≤ x.toNat ∧ x.toNat ≤ 90)) : isLet x = decide (x ∈ marks) := by
  unfold isLet
  rw [h1, decide_eq_false h2, decide_eq_false h3]; rfl
theorem letter_ok (s : St) (x : UInt8) : CA F.lex_letter [.int .u8 (x.toNat : Int)] s = .ok (.bool (isLet x)) s := by
  have h1 := digit_ok (Sx s []) x
  have h2 := indexByte_ok (Sx s []) marks x
  unfold marks at h2
  have hm := index_mem marks x
  unfold marks at hm
  refine fn_of code_lex_letter (by simp) ?_
  cases c1 : isDig x
  · by_cases c2 : (97 : Int) ≤ (x.toNat : Int)
    · by_cases c3 : (x.toNat : Int) ≤ 122
      · simp only [go_sem, ↓reduceIte, Nat.reduceMod, Nat.reduceEqDiff, Nat.reduceAdd, Nat.reduceMul, Nat.reduceSub, Nat.reduceLeDiff, Nat.reduceLT, Int.reduceEq, Int.reduceLT, Int.reduceLE, Int.reduceAdd, Int.reduceSub, Int.reduceNeg, reduceCtorEq, Nat.reduceShiftRight, Nat.reduceAnd, Nat.reduceBNe, h1, c1, c2, c3]
        exact settled_bool (Ext.refl s) (by have e : isLet x = true := by simp [isLet]; omega
                                            rw [e])
      · have c4 : (65 : Int) ≤ (x.toNat : Int) := by omega
        have c5 : ¬ (x.toNat : Int) ≤ 90 := by omega
        simp only [go_sem, ↓reduceIte, Nat.reduceMod, Nat.reduceEqDiff, Nat.reduceAdd, Nat.reduceMul, Nat.reduceSub, Nat.reduceLeDiff, Nat.reduceLT, Int.reduceEq, Int.reduceLT, Int.reduceLE, Int.reduceAdd, Int.reduceSub, Int.reduceNeg, reduceCtorEq, Nat.reduceShiftRight, Nat.reduceAnd, Nat.reduceBNe, h1, h2, c1, c2, c3, c4, c5]
        refine settled_bool (Ext.refl s) ?_
        rw [isLet_else c1 (by omega) (by omega)]
        congr 1
    · by_cases c4 : (65 : Int) ≤ (x.toNat : Int)
      · by_cases c5 : (x.toNat : Int) ≤ 90
        · simp only [go_sem, ↓reduceIte, Nat.reduceMod, Nat.reduceEqDiff, Nat.reduceAdd, Nat.reduceMul, Nat.reduceSub, Nat.reduceLeDiff, Nat.reduceLT, Int.reduceEq, Int.reduceLT, Int.reduceLE, Int.reduceAdd, Int.reduceSub, Int.reduceNeg, reduceCtorEq, Nat.reduceShiftRight, Nat.reduceAnd, Nat.reduceBNe, h1, c1, c2, c4, c5]
          exact settled_bool (Ext.refl s) (by have e : isLet x = true := by simp [isLet]; omega
                                              rw [e])
        · simp only [go_sem, ↓reduceIte, Nat.reduceMod, Nat.reduceEqDiff, Nat.reduceAdd, Nat.reduceMul, Nat.reduceSub, Nat.reduceLeDiff, Nat.reduceLT, Int.reduceEq, Int.reduceLT, Int.reduceLE, Int.reduceAdd, Int.reduceSub, Int.reduceNeg, reduceCtorEq, Nat.reduceShiftRight, Nat.reduceAnd, Nat.reduceBNe, h1, h2, c1, c2, c4, c5]
          refine settled_bool (Ext.refl s) ?_
          rw [isLet_else c1 (by omega) (by omega)]
          congr 1
      · simp only [go_sem, ↓reduceIte, Nat.reduceMod, Nat.reduceEqDiff, Nat.reduceAdd, Nat.reduceMul, Nat.reduceSub, Nat.reduceLeDiff, Nat.reduceLT, Int.reduceEq, Int.reduceLT, Int.reduceLE, Int.reduceAdd, Int.reduceSub, Int.reduceNeg, reduceCtorEq, Nat.reduceShiftRight, Nat.reduceAnd, Nat.reduceBNe, h1, h2, c1, c2, c4]
        refine settled_bool (Ext.refl s) ?_
        rw [isLet_else c1 (by omega) (by omega)]
        congr 1
  · simp only [go_sem, ↓reduceIte, Nat.reduceMod, Nat.reduceEqDiff, Nat.reduceAdd, Nat.reduceMul, Nat.reduceSub, Nat.reduceLeDiff, Nat.reduceLT, Int.reduceEq, Int.reduceLT, Int.reduceLE, Int.reduceAdd, Int.reduceSub, Int.reduceNeg, reduceCtorEq, Nat.reduceShiftRight, Nat.reduceAnd, Nat.reduceBNe, h1, c1]
    exact settled_bool (Ext.refl s) (by simp [isLet, c1])
theorem ref_sign_ok (s : St) (x : UInt8) : CA F.ref8_sign [.int .u8 (x.toNat : Int)] s = .ok (.bool (isLet x)) s := by
  have h1 := ref_digit_ok (Sx s []) x
  refine fn_of code_ref8_sign (by simp) ?_
  have tail : ¬ (97 ≤ x.toNat ∧ x.toNat ≤ 122) → ¬ (65 ≤ x.toNat ∧ x.toNat ≤ 90) → isDig x = false → ∀ f : Fr AV, (vv 0).get f = .int .u8 (x.toNat : Int) → (vv 3).get f = .int .i64 0 →
      W CA (.loop (.seq (.seq (.region [mm 22 3, oo 23 (.bin .lss (tt 22) (kk 17))]) (.cond (tt 23) .skip (.exit 0))) (.seq (.block 1 (.seq (.region [mm 26 3, oo 27 (.sidx (.c (.str [126, 33, 64, 36, 37, 94, 38, 42, 95, 45, 43, 61, 60, 62, 46, 63, 47])) (tt 26)), mm 28 0, oo 29 (.bin .eql (tt 27) (tt 28))]) (.cond (tt 29) (.seq (.region [oo 2 (.mv (.c (.bool true)))]) .ret) .skip))) (.region [mm 24 3, oo 25 (.bin .add (tt 24) (kk 1)), mm 3 25]))))
        (fun f t => False) (fun j f t => j = 0 ∧ Sx s [] = t ∧ isLet x = false) (fun f t => Sx s [] = t ∧ (vv 2).get f = .bool true ∧ isLet x = true) f (Sx s []) := by
    intro q1 q2 q3 f g0 g3
    have hL := isLet_else q3 q1 q2
    refine W_inv (fun k f τ => ∃ i : Nat, Sx s [] = τ ∧ k = 17 - i ∧ i ≤ 17 ∧ (∀ j (h : j < marks.length), j < i → marks[j] ≠ x) ∧ (vv 0).get f = .int .u8 (x.toNat : Int) ∧ (vv 3).get f = .int .i64 (i : Int)) ?_ ⟨0, rfl, rfl, by omega, fun j h h' => by omega, g0, g3⟩
    rintro k f τ ⟨i, rfl, rfl, hi, ha, g0, g3⟩
    by_cases c1 : i < 17
    · have c1' : (i : Int) < 17 := by omega
      have hi2 : i < marks.length := c1
      have hs := vsidx_n (l := marks) hi2 .i64 (Sx s [])
      unfold marks at hs
      by_cases c2 : ((marks[i].toNat : Nat) : Int) = (x.toNat : Int)
      · have e : marks[i] = x := UInt8.toNat_inj.mp (by omega)
        have c2' := c2
        unfold marks at c2'
        simp only [go_sem, ↓reduceIte, Nat.reduceMod, Nat.reduceEqDiff, Nat.reduceAdd, Nat.reduceMul, Nat.reduceSub, Nat.reduceLeDiff, Nat.reduceLT, Int.reduceEq, Int.reduceLT, Int.reduceLE, Int.reduceAdd, Int.reduceSub, Int.reduceNeg, reduceCtorEq, Nat.reduceShiftRight, Nat.reduceAnd, Nat.reduceBNe, g0, g3, c1', hs, c2']
        rw [hL, decide_eq_true_eq, ← e]; exact List.getElem_mem hi2
      · have c2' := c2
        unfold marks at c2'
        simp only [go_sem, ↓reduceIte, Nat.reduceMod, Nat.reduceEqDiff, Nat.reduceAdd, Nat.reduceMul, Nat.reduceSub, Nat.reduceLeDiff, Nat.reduceLT, Int.reduceEq, Int.reduceLT, Int.reduceLE, Int.reduceAdd, Int.reduceSub, Int.reduceNeg, reduceCtorEq, Nat.reduceShiftRight, Nat.reduceAnd, Nat.reduceBNe, g0, g3, c1', hs, c2']
        refine ⟨17 - (i + 1), by omega, i + 1, rfl, by omega, fun j h h' => ?_, ?_⟩
        · by_cases e : j = i
          · subst e; intro e2; rw [e2] at c2; exact c2 rfl
          · exact ha j h (by omega)
        · rw [wrap_i64 (by omega) (by omega)]; congr 1
    · have c1' : ¬ (i : Int) < 17 := by omega
      simp only [go_sem, ↓reduceIte, Nat.reduceMod, Nat.reduceEqDiff, Nat.reduceAdd, Nat.reduceMul, Nat.reduceSub, Nat.reduceLeDiff, Nat.reduceLT, Int.reduceEq, Int.reduceLT, Int.reduceLE, Int.reduceAdd, Int.reduceSub, Int.reduceNeg, reduceCtorEq, Nat.reduceShiftRight, Nat.reduceAnd, Nat.reduceBNe, g0, g3, c1']
      rw [hL, decide_eq_false_iff_not]
      intro hm
      obtain ⟨j, hj, e⟩ := List.getElem_of_mem hm
      exact ha j hj (by simp [marks] at hj; omega) e
  cases c1 : isDig x
  · by_cases c2 : (97 : Int) ≤ (x.toNat : Int)
    · by_cases c3 : (x.toNat : Int) ≤ 122
      · simp only [go_sem, ↓reduceIte, Nat.reduceMod, Nat.reduceEqDiff, Nat.reduceAdd, Nat.reduceMul, Nat.reduceSub, Nat.reduceLeDiff, Nat.reduceLT, Int.reduceEq, Int.reduceLT, Int.reduceLE, Int.reduceAdd, Int.reduceSub, Int.reduceNeg, reduceCtorEq, Nat.reduceShiftRight, Nat.reduceAnd, Nat.reduceBNe, h1, c1, c2, c3]
        exact settled_bool (Ext.refl s) (by have e : isLet x = true := by simp [isLet]; omega
                                            rw [e])
      · have c4 : (65 : Int) ≤ (x.toNat : Int) := by omega
        have c5 : ¬ (x.toNat : Int) ≤ 90 := by omega
        simp only [go_sem, ↓reduceIte, Nat.reduceMod, Nat.reduceEqDiff, Nat.reduceAdd, Nat.reduceMul, Nat.reduceSub, Nat.reduceLeDiff, Nat.reduceLT, Int.reduceEq, Int.reduceLT, Int.reduceLE, Int.reduceAdd, Int.reduceSub, Int.reduceNeg, reduceCtorEq, Nat.reduceShiftRight, Nat.reduceAnd, Nat.reduceBNe, h1, c1, c2, c3, c4, c5]
        refine (tail (by omega) (by omega) c1 _ (by simp only [go_sem, ↓reduceIte, Nat.reduceMod, Nat.reduceEqDiff, Nat.reduceAdd, Nat.reduceMul, Nat.reduceSub, Nat.reduceLeDiff, Nat.reduceLT, Int.reduceEq, Int.reduceLT, Int.reduceLE, Int.reduceAdd, Int.reduceSub, Int.reduceNeg, reduceCtorEq, Nat.reduceShiftRight, Nat.reduceAnd, Nat.reduceBNe]) (by simp only [go_sem, ↓reduceIte, Nat.reduceMod, Nat.reduceEqDiff, Nat.reduceAdd, Nat.reduceMul, Nat.reduceSub, Nat.reduceLeDiff, Nat.reduceLT, Int.reduceEq, Int.reduceLT, Int.reduceLE, Int.reduceAdd, Int.reduceSub, Int.reduceNeg, reduceCtorEq, Nat.reduceShiftRight, Nat.reduceAnd, Nat.reduceBNe])).mono ?_ ?_ ?_
        · intro f t h; exact h.elim
        · rintro i f t ⟨rfl, rfl, h3⟩
          simp only [go_sem, ↓reduceIte, Nat.reduceMod, Nat.reduceEqDiff, Nat.reduceAdd, Nat.reduceMul, Nat.reduceSub, Nat.reduceLeDiff, Nat.reduceLT, Int.reduceEq, Int.reduceLT, Int.reduceLE, Int.reduceAdd, Int.reduceSub, Int.reduceNeg, reduceCtorEq, Nat.reduceShiftRight, Nat.reduceAnd, Nat.reduceBNe]
          exact settled_bool (Ext.refl s) h3.symm
        · rintro f t ⟨rfl, h2, h3⟩
          simp only [go_sem, ↓reduceIte, Nat.reduceMod, Nat.reduceEqDiff, Nat.reduceAdd, Nat.reduceMul, Nat.reduceSub, Nat.reduceLeDiff, Nat.reduceLT, Int.reduceEq, Int.reduceLT, Int.reduceLE, Int.reduceAdd, Int.reduceSub, Int.reduceNeg, reduceCtorEq, Nat.reduceShiftRight, Nat.reduceAnd, Nat.reduceBNe, h2]
          exact settled_bool (Ext.refl s) h3.symm
    · by_cases c4 : (65 : Int) ≤ (x.toNat : Int)
      · by_cases c5 : (x.toNat : Int) ≤ 90
        · simp only [go_sem, ↓reduceIte, Nat.reduceMod, Nat.reduceEqDiff, Nat.reduceAdd, Nat.reduceMul, Nat.reduceSub, Nat.reduceLeDiff, Nat.reduceLT, Int.reduceEq, Int.reduceLT, Int.reduceLE, Int.reduceAdd, Int.reduceSub, Int.reduceNeg, reduceCtorEq, Nat.reduceShiftRight, Nat.reduceAnd, Nat.reduceBNe, h1, c1, c2, c4, c5]
          exact settled_bool (Ext.refl s) (by have e : isLet x = true := by simp [isLet]; omega
                                              rw [e])
        · simp only [go_sem, ↓reduceIte, Nat.reduceMod, Nat.reduceEqDiff, Nat.reduceAdd, Nat.reduceMul, Nat.reduceSub, Nat.reduceLeDiff, Nat.reduceLT, Int.reduceEq, Int.reduceLT, Int.reduceLE, Int.reduceAdd, Int.reduceSub, Int.reduceNeg, reduceCtorEq, Nat.reduceShiftRight, Nat.reduceAnd, Nat.reduceBNe, h1, c1, c2, c4, c5]
          refine (tail (by omega) (by omega) c1 _ (by simp only [go_sem, ↓reduceIte, Nat.reduceMod, Nat.reduceEqDiff, Nat.reduceAdd, Nat.reduceMul, Nat.reduceSub, Nat.reduceLeDiff, Nat.reduceLT, Int.reduceEq, Int.reduceLT, Int.reduceLE, Int.reduceAdd, Int.reduceSub, Int.reduceNeg, reduceCtorEq, Nat.reduceShiftRight, Nat.reduceAnd, Nat.reduceBNe]) (by simp only [go_sem, ↓reduceIte, Nat.reduceMod, Nat.reduceEqDiff, Nat.reduceAdd, Nat.reduceMul, Nat.reduceSub, Nat.reduceLeDiff, Nat.reduceLT, Int.reduceEq, Int.reduceLT, Int.reduceLE, Int.reduceAdd, Int.reduceSub, Int.reduceNeg, reduceCtorEq, Nat.reduceShiftRight, Nat.reduceAnd, Nat.reduceBNe])).mono ?_ ?_ ?_
          · intro f t h; exact h.elim
          · rintro i f t ⟨rfl, rfl, h3⟩
            simp only [go_sem, ↓reduceIte, Nat.reduceMod, Nat.reduceEqDiff, Nat.reduceAdd, Nat.reduceMul, Nat.reduceSub, Nat.reduceLeDiff, Nat.reduceLT, Int.reduceEq, Int.reduceLT, Int.reduceLE, Int.reduceAdd, Int.reduceSub, Int.reduceNeg, reduceCtorEq, Nat.reduceShiftRight, Nat.reduceAnd, Nat.reduceBNe]
            exact settled_bool (Ext.refl s) h3.symm
          · rintro f t ⟨rfl, h2, h3⟩
            simp only [go_sem, ↓reduceIte, Nat.reduceMod, Nat.reduceEqDiff, Nat.reduceAdd, Nat.reduceMul, Nat.reduceSub, Nat.reduceLeDiff, Nat.reduceLT, Int.reduceEq, Int.reduceLT, Int.reduceLE, Int.reduceAdd, Int.reduceSub, Int.reduceNeg, reduceCtorEq, Nat.reduceShiftRight, Nat.reduceAnd, Nat.reduceBNe, h2]
            exact settled_bool (Ext.refl s) h3.symm
      · simp only [go_sem, ↓reduceIte, Nat.reduceMod, Nat.reduceEqDiff, Nat.reduceAdd, Nat.reduceMul, Nat.reduceSub, Nat.reduceLeDiff, Nat.reduceLT, Int.reduceEq, Int.reduceLT, Int.reduceLE, Int.reduceAdd, Int.reduceSub, Int.reduceNeg, reduceCtorEq, Nat.reduceShiftRight, Nat.reduceAnd, Nat.reduceBNe, h1, c1, c2, c4]
        refine (tail (by omega) (by omega) c1 _ (by simp only [go_sem, ↓reduceIte, Nat.reduceMod, Nat.reduceEqDiff, Nat.reduceAdd, Nat.reduceMul, Nat.reduceSub, Nat.reduceLeDiff, Nat.reduceLT, Int.reduceEq, Int.reduceLT, Int.reduceLE, Int.reduceAdd, Int.reduceSub, Int.reduceNeg, reduceCtorEq, Nat.reduceShiftRight, Nat.reduceAnd, Nat.reduceBNe]) (by simp only [go_sem, ↓reduceIte, Nat.reduceMod, Nat.reduceEqDiff, Nat.reduceAdd, Nat.reduceMul, Nat.reduceSub, Nat.reduceLeDiff, Nat.reduceLT, Int.reduceEq, Int.reduceLT, Int.reduceLE, Int.reduceAdd, Int.reduceSub, Int.reduceNeg, reduceCtorEq, Nat.reduceShiftRight, Nat.reduceAnd, Nat.reduceBNe])).mono ?_ ?_ ?_
        · intro f t h; exact h.elim
        · rintro i f t ⟨rfl, rfl, h3⟩
          simp only [go_sem, ↓reduceIte, Nat.reduceMod, Nat.reduceEqDiff, Nat.reduceAdd, Nat.reduceMul, Nat.reduceSub, Nat.reduceLeDiff, Nat.reduceLT, Int.reduceEq, Int.reduceLT, Int.reduceLE, Int.reduceAdd, Int.reduceSub, Int.reduceNeg, reduceCtorEq, Nat.reduceShiftRight, Nat.reduceAnd, Nat.reduceBNe]
          exact settled_bool (Ext.refl s) h3.symm
        · rintro f t ⟨rfl, h2, h3⟩
          simp only [go_sem, ↓reduceIte, Nat.reduceMod, Nat.reduceEqDiff, Nat.reduceAdd, Nat.reduceMul, Nat.reduceSub, Nat.reduceLeDiff, Nat.reduceLT, Int.reduceEq, Int.reduceLT, Int.reduceLE, Int.reduceAdd, Int.reduceSub, Int.reduceNeg, reduceCtorEq, Nat.reduceShiftRight, Nat.reduceAnd, Nat.reduceBNe, h2]
          exact settled_bool (Ext.refl s) h3.symm
  · simp only [go_sem, ↓reduceIte, Nat.reduceMod, Nat.reduceEqDiff, Nat.reduceAdd, Nat.reduceMul, Nat.reduceSub, Nat.reduceLeDiff, Nat.reduceLT, Int.reduceEq, Int.reduceLT, Int.reduceLE, Int.reduceAdd, Int.reduceSub, Int.reduceNeg, reduceCtorEq, Nat.reduceShiftRight, Nat.reduceAnd, Nat.reduceBNe, h1, c1]
    exact settled_bool (Ext.refl s) (by simp [isLet, c1])
def symOk (l : List UInt8) : Bool := decide (l ≠ []) && (decide (l.length ≤ 20) && (((l[0]?).map fun x => !isDig x).getD false && l.all isLet))
theorem run_ok (s : St) (l : List UInt8) (hl : l.length ≤ 140737488355328) : CA F.lex_run [.str l, .fn F.lex_letter [] []] s = .ok (.str (l.takeWhile isLet)) s := by
  refine fn_of code_lex_run (by simp) ?_
  simp only [go_sem, ↓reduceIte, Nat.reduceMod, Nat.reduceEqDiff, Nat.reduceAdd, Nat.reduceMul, Nat.reduceSub, Nat.reduceLeDiff, Nat.reduceLT, Int.reduceEq, Int.reduceLT, Int.reduceLE, Int.reduceAdd, Int.reduceSub, Int.reduceNeg, reduceCtorEq, Nat.reduceShiftRight, Nat.reduceAnd, Nat.reduceBNe]
  refine W_inv (fun k f τ => ∃ i : Nat, Sx s [] = τ ∧ k = l.length - i ∧ i ≤ l.length ∧ l.takeWhile isLet = l.take i ++ (l.drop i).takeWhile isLet ∧ (vv 0).get f = .str l ∧ (vv 1).get f = .fn F.lex_letter [] [] ∧ (vv 5).get f = .int .i64 (i : Int)) ?_ ⟨0, rfl, rfl, by omega, by simp, ?_⟩
  · rintro k f τ ⟨i, rfl, rfl, hi, ha, g0, g1, g5⟩
    by_cases c1 : i < l.length
    · have hc := letter_ok (Sx s []) l[i]
      rw [List.drop_eq_getElem_cons c1, List.takeWhile_cons] at ha
      cases c2 : isLet l[i]
      · rw [c2] at ha
        have h0 : (0 : Int) ≤ (i : Int) := by omega
        have h1 : (i : Int) ≤ (l.length : Int) := by omega
        simp only [go_sem, ↓reduceIte, Nat.reduceMod, Nat.reduceEqDiff, Nat.reduceAdd, Nat.reduceMul, Nat.reduceSub, Nat.reduceLeDiff, Nat.reduceLT, Int.reduceEq, Int.reduceLT, Int.reduceLE, Int.reduceAdd, Int.reduceSub, Int.reduceNeg, reduceCtorEq, Nat.reduceShiftRight, Nat.reduceAnd, Nat.reduceBNe, g0, g1, g5, Int.ofNat_lt, c1, vsidx_n c1, hc, c2, vsshi_eq h0 h1]
        simp only [Bool.false_eq_true, if_false, List.append_nil] at ha
        rw [ha]
        exact settled_ov (Ext.refl s) (ov_str _ _)
      · rw [c2] at ha
        simp only [go_sem, ↓reduceIte, Nat.reduceMod, Nat.reduceEqDiff, Nat.reduceAdd, Nat.reduceMul, Nat.reduceSub, Nat.reduceLeDiff, Nat.reduceLT, Int.reduceEq, Int.reduceLT, Int.reduceLE, Int.reduceAdd, Int.reduceSub, Int.reduceNeg, reduceCtorEq, Nat.reduceShiftRight, Nat.reduceAnd, Nat.reduceBNe, g0, g1, g5, Int.ofNat_lt, c1, vsidx_n c1, hc, c2]
        refine ⟨l.length - (i + 1), by omega, i + 1, rfl, by omega, ?_, ?_⟩
        · rw [ha, ← List.take_append_getElem c1, List.append_assoc]; rfl
        · rw [wrap_i64 (by omega) (by omega)]; congr 1
    · have e : i = l.length := by omega
      subst e
      have h0 : (0 : Int) ≤ (l.length : Int) := by omega
      simp only [go_sem, ↓reduceIte, Nat.reduceMod, Nat.reduceEqDiff, Nat.reduceAdd, Nat.reduceMul, Nat.reduceSub, Nat.reduceLeDiff, Nat.reduceLT, Int.reduceEq, Int.reduceLT, Int.reduceLE, Int.reduceAdd, Int.reduceSub, Int.reduceNeg, reduceCtorEq, Nat.reduceShiftRight, Nat.reduceAnd, Nat.reduceBNe, g0, g1, g5, Int.ofNat_lt, c1, vsshi_eq h0 (Int.le_refl _)]
      rw [List.drop_length] at ha
      rw [ha]
      simp only [List.takeWhile_nil, List.append_nil]
      exact settled_ov (Ext.refl s) (ov_str _ _)
  · simp only [go_sem, ↓reduceIte, Nat.reduceMod, Nat.reduceEqDiff, Nat.reduceAdd, Nat.reduceMul, Nat.reduceSub, Nat.reduceLeDiff, Nat.reduceLT, Int.reduceEq, Int.reduceLT, Int.reduceLE, Int.reduceAdd, Int.reduceSub, Int.reduceNeg, reduceCtorEq, Nat.reduceShiftRight, Nat.reduceAnd, Nat.reduceBNe]
    rfl
end Go.Proofs.YtfndnjmnakdglaaGreatDoor
namespace Go.Proofs.YtfndnjmnakdglaaGreatDoor
open Go Go.Vm
variable [Tel]
set_option linter.unusedSectionVars false
set_option linter.unusedVariables false
set_option linter.unusedSimpArgs false
theorem takeWhile_all (l : List UInt8) (p : UInt8 → Bool) : (l.takeWhile p = l) = (l.all p = true) := by
  apply propext
  induction l with
  | nil => simp
  | cons a l ih => cases h : p a <;> simp [List.takeWhile_cons, h, ih]
theorem Symbol_ok (s : St) (l : List UInt8) : CA F.lex_Symbol [.str l] s = .ok (.bool (symOk l)) s := by
  refine fn_of code_lex_Symbol (by simp) ?_
  by_cases hne : l = []
  · simp only [go_sem, ↓reduceIte, Nat.reduceMod, Nat.reduceEqDiff, Nat.reduceAdd, Nat.reduceMul, Nat.reduceSub, Nat.reduceLeDiff, Nat.reduceLT, Int.reduceEq, Int.reduceLT, Int.reduceLE, Int.reduceAdd, Int.reduceSub, Int.reduceNeg, reduceCtorEq, Nat.reduceShiftRight, Nat.reduceAnd, Nat.reduceBNe, ne_eq, hne, not_true_eq_false]
    exact settled_bool (Ext.refl s) (by simp [symOk])
  · have h0 : 0 < l.length := by cases l <;> simp_all
    by_cases c1 : (l.length : Int) ≤ 20
    · have c1' : l.length ≤ 20 := by omega
      have hd := digit_ok (Sx s []) l[0]
      have hrun := run_ok (Sx s []) l (by omega)
      cases c2 : isDig l[0]
      · simp only [go_sem, ↓reduceIte, Nat.reduceMod, Nat.reduceEqDiff, Nat.reduceAdd, Nat.reduceMul, Nat.reduceSub, Nat.reduceLeDiff, Nat.reduceLT, Int.reduceEq, Int.reduceLT, Int.reduceLE, Int.reduceAdd, Int.reduceSub, Int.reduceNeg, reduceCtorEq, Nat.reduceShiftRight, Nat.reduceAnd, Nat.reduceBNe, ne_eq, hne, not_false_eq_true, c1, vsidx_0 h0, hd, c2, Bool.not_false, hrun]
        refine settled_bool (Ext.refl s) ?_
        simp only [takeWhile_all, Bool.decide_eq_true]
        simp [symOk, hne, c1', List.getElem?_eq_getElem h0, c2]
      · simp only [go_sem, ↓reduceIte, Nat.reduceMod, Nat.reduceEqDiff, Nat.reduceAdd, Nat.reduceMul, Nat.reduceSub, Nat.reduceLeDiff, Nat.reduceLT, Int.reduceEq, Int.reduceLT, Int.reduceLE, Int.reduceAdd, Int.reduceSub, Int.reduceNeg, reduceCtorEq, Nat.reduceShiftRight, Nat.reduceAnd, Nat.reduceBNe, ne_eq, hne, not_false_eq_true, c1, vsidx_0 h0, hd, c2, Bool.not_true]
        exact settled_bool (Ext.refl s) (by simp [symOk, List.getElem?_eq_getElem h0, c2])
    · have c1' : ¬ l.length ≤ 20 := by omega
      simp only [go_sem, ↓reduceIte, Nat.reduceMod, Nat.reduceEqDiff, Nat.reduceAdd, Nat.reduceMul, Nat.reduceSub, Nat.reduceLeDiff, Nat.reduceLT, Int.reduceEq, Int.reduceLT, Int.reduceLE, Int.reduceAdd, Int.reduceSub, Int.reduceNeg, reduceCtorEq, Nat.reduceShiftRight, Nat.reduceAnd, Nat.reduceBNe, ne_eq, hne, not_false_eq_true, c1]
      exact settled_bool (Ext.refl s) (by rw [symOk, decide_eq_false c1']; simp)
theorem allU_take {l : List UInt8} {p : UInt8 → Bool} {i : Nat} (h : i < l.length) : (l.take (i + 1)).all p = ((l.take i).all p && p l[i]) := by
  rw [← List.take_append_getElem h, List.all_append]; simp
theorem allU_false {l : List UInt8} {p : UInt8 → Bool} {i : Nat} (h : i < l.length) (hp : p l[i] = false) : l.all p = false := by
  rw [Bool.eq_false_iff]; intro ha
  have := List.all_eq_true.mp ha l[i] (List.getElem_mem h)
  rw [hp] at this; cases this
theorem ref_Symbol_ok (s : St) (l : List UInt8) (hl : l.length ≤ 140737488355328) : CA F.ref8_Symbol [.str l] s = .ok (.bool (symOk l)) s := by
  refine fn_of code_ref8_Symbol (by simp) ?_
  simp only [go_sem, ↓reduceIte, Nat.reduceMod, Nat.reduceEqDiff, Nat.reduceAdd, Nat.reduceMul, Nat.reduceSub, Nat.reduceLeDiff, Nat.reduceLT, Int.reduceEq, Int.reduceLT, Int.reduceLE, Int.reduceAdd, Int.reduceSub, Int.reduceNeg, reduceCtorEq, Nat.reduceShiftRight, Nat.reduceAnd, Nat.reduceBNe]
  refine W_inv (fun k f τ => ∃ i : Nat, Sx s [] = τ ∧ k = l.length - i ∧ i ≤ l.length ∧ (l.take i).all isLet = true ∧ (vv 0).get f = .str l ∧ (vv 3).get f = .int .i64 (i : Int)) ?_ ⟨0, rfl, rfl, by omega, by simp, ?_⟩
  · rintro k f τ ⟨i, rfl, rfl, hi, ha, g0, g3⟩
    by_cases c1 : i < l.length
    · have hc := ref_sign_ok (Sx s []) l[i]
      cases c2 : isLet l[i]
      · simp only [go_sem, ↓reduceIte, Nat.reduceMod, Nat.reduceEqDiff, Nat.reduceAdd, Nat.reduceMul, Nat.reduceSub, Nat.reduceLeDiff, Nat.reduceLT, Int.reduceEq, Int.reduceLT, Int.reduceLE, Int.reduceAdd, Int.reduceSub, Int.reduceNeg, reduceCtorEq, Nat.reduceShiftRight, Nat.reduceAnd, Nat.reduceBNe, g0, g3, Int.ofNat_lt, c1, vsidx_n c1, hc, c2, Bool.not_false]
        exact settled_bool (Ext.refl s) (by rw [symOk, allU_false c1 c2]; simp)
      · simp only [go_sem, ↓reduceIte, Nat.reduceMod, Nat.reduceEqDiff, Nat.reduceAdd, Nat.reduceMul, Nat.reduceSub, Nat.reduceLeDiff, Nat.reduceLT, Int.reduceEq, Int.reduceLT, Int.reduceLE, Int.reduceAdd, Int.reduceSub, Int.reduceNeg, reduceCtorEq, Nat.reduceShiftRight, Nat.reduceAnd, Nat.reduceBNe, g0, g3, Int.ofNat_lt, c1, vsidx_n c1, hc, c2, Bool.not_true]
        refine ⟨l.length - (i + 1), by omega, i + 1, rfl, by omega, ?_, ?_⟩
        · rw [allU_take c1, ha, c2]; rfl
        · rw [wrap_i64 (by omega) (by omega)]; congr 1
    · have e : i = l.length := by omega
      subst e
      rw [List.take_length] at ha
      by_cases c2 : (1 : Int) ≤ (l.length : Int)
      · have h0 : 0 < l.length := by omega
        have hne : l ≠ [] := by intro e; subst e; simp at h0
        by_cases c3 : (l.length : Int) ≤ 20
        · have hd := ref_digit_ok (Sx s []) l[0]
          simp only [go_sem, ↓reduceIte, Nat.reduceMod, Nat.reduceEqDiff, Nat.reduceAdd, Nat.reduceMul, Nat.reduceSub, Nat.reduceLeDiff, Nat.reduceLT, Int.reduceEq, Int.reduceLT, Int.reduceLE, Int.reduceAdd, Int.reduceSub, Int.reduceNeg, reduceCtorEq, Nat.reduceShiftRight, Nat.reduceAnd, Nat.reduceBNe, g0, g3, Int.ofNat_lt, c1, c2, c3, vsidx_0 h0, hd]
          exact settled_bool (Ext.refl s) (by simp [symOk, hne, ha, List.getElem?_eq_getElem h0]; omega)
        · simp only [go_sem, ↓reduceIte, Nat.reduceMod, Nat.reduceEqDiff, Nat.reduceAdd, Nat.reduceMul, Nat.reduceSub, Nat.reduceLeDiff, Nat.reduceLT, Int.reduceEq, Int.reduceLT, Int.reduceLE, Int.reduceAdd, Int.reduceSub, Int.reduceNeg, reduceCtorEq, Nat.reduceShiftRight, Nat.reduceAnd, Nat.reduceBNe, g0, g3, Int.ofNat_lt, c1, c2, c3]
          exact settled_bool (Ext.refl s) (by rw [symOk, decide_eq_false (by omega : ¬ l.length ≤ 20)]; simp)
      · have hne : l = [] := List.eq_nil_of_length_eq_zero (by omega)
        simp only [go_sem, ↓reduceIte, Nat.reduceMod, Nat.reduceEqDiff, Nat.reduceAdd, Nat.reduceMul, Nat.reduceSub, Nat.reduceLeDiff, Nat.reduceLT, Int.reduceEq, Int.reduceLT, Int.reduceLE, Int.reduceAdd, Int.reduceSub, Int.reduceNeg, reduceCtorEq, Nat.reduceShiftRight, Nat.reduceAnd, Nat.reduceBNe, g0, g3, Int.ofNat_lt, c1, c2]
        exact settled_bool (Ext.refl s) (by simp [symOk, hne])
  · simp only [go_sem, ↓reduceIte, Nat.reduceMod, Nat.reduceEqDiff, Nat.reduceAdd, Nat.reduceMul, Nat.reduceSub, Nat.reduceLeDiff, Nat.reduceLT, Int.reduceEq, Int.reduceLT, Int.reduceLE, Int.reduceAdd, Int.reduceSub, Int.reduceNeg, reduceCtorEq, Nat.reduceShiftRight, Nat.reduceAnd, Nat.reduceBNe]
    rfl
def sortB (n : Int) : Bool := decide (n = 1 ∨ n = 2)
def sigOk (g : Sg) : Bool := g.args.all sortB && (symOk g.name && (decide (g.args.length ≤ 3) && sortB g.ret))
theorem allI_take {l : List Int} {p : Int → Bool} {i : Nat} (h : i < l.length) : (l.take (i + 1)).all p = ((l.take i).all p && p l[i]) := by
  rw [← List.take_append_getElem h, List.all_append]; simp
theorem allI_false {l : List Int} {p : Int → Bool} {i : Nat} (h : i < l.length) (hp : p l[i] = false) : l.all p = false := by
  rw [Bool.eq_false_iff]; intro ha
  have := List.all_eq_true.mp ha l[i] (List.getElem_mem h)
  rw [hp] at this; cases this
theorem IsSig_ok (s : St) (g : Sg) (av : AV) (hr : Room s) (hn : s.n.val ≤ 1000059000) (hv : Ints s av g.args) : CA F.term_IsSig [.agg [.str g.name, av, .int .i64 g.ret]] s = .ok (.bool (sigOk g)) s := by
  have hm := hv.most
  obtain ⟨name, l, ret⟩ := g
  simp only at hv hm ⊢
  have hx := ext_Sx (s := s) (l := [.cells [.str name, av, .int .i64 ret]]) hr (by simp)
  refine fn_of code_term_IsSig (by simp) ?_
  simp only [go_sem, ↓reduceIte, Nat.reduceMod, Nat.reduceEqDiff, Nat.reduceAdd, Nat.reduceMul, Nat.reduceSub, Nat.reduceLeDiff, Nat.reduceLT, Int.reduceEq, Int.reduceLT, Int.reduceLE, Int.reduceAdd, Int.reduceSub, Int.reduceNeg, reduceCtorEq, Nat.reduceShiftRight, Nat.reduceAnd, Nat.reduceBNe, hr, hv.vlen]
  refine W_inv (fun k f τ => ∃ i : Nat, Sx s [.cells [.str name, av, .int .i64 ret]] = τ ∧ k = l.length - i ∧ i ≤ l.length ∧ (l.take i).all sortB = true ∧ (vv 1).get f = .ptr (nm s 0) 0 ∧ (vv 6).get f = av ∧ (vv 7).get f = .int .i64 (l.length : Int) ∧ (vv 8).get f = .int .i64 (i : Int)) ?_ ⟨0, rfl, rfl, by omega, by simp, ?_⟩
  · rintro k f τ ⟨i, rfl, rfl, hi, ha, g1, g6, g7, g8⟩
    by_cases c1 : i < l.length
    · have hs := isSort_ok (Sx s [.cells [.str name, av, .int .i64 ret]]) l[i]
      cases c2 : sortB l[i]
      · have c2' : ¬ (l[i] = 1 ∨ l[i] = 2) := by simpa [sortB] using c2
        simp only [go_sem, ↓reduceIte, Nat.reduceMod, Nat.reduceEqDiff, Nat.reduceAdd, Nat.reduceMul, Nat.reduceSub, Nat.reduceLeDiff, Nat.reduceLT, Int.reduceEq, Int.reduceLT, Int.reduceLE, Int.reduceAdd, Int.reduceSub, Int.reduceNeg, reduceCtorEq, Nat.reduceShiftRight, Nat.reduceAnd, Nat.reduceBNe, g1, g6, g7, g8, Int.ofNat_lt, c1, hr, hv.ia c1, hv.i64 c1, hs, c2', Bool.not_false]
        exact settled_bool hx (by rw [sigOk, allI_false c1 c2]; rfl)
      · have c2' : (l[i] = 1 ∨ l[i] = 2) := by simpa [sortB] using c2
        simp only [go_sem, ↓reduceIte, Nat.reduceMod, Nat.reduceEqDiff, Nat.reduceAdd, Nat.reduceMul, Nat.reduceSub, Nat.reduceLeDiff, Nat.reduceLT, Int.reduceEq, Int.reduceLT, Int.reduceLE, Int.reduceAdd, Int.reduceSub, Int.reduceNeg, reduceCtorEq, Nat.reduceShiftRight, Nat.reduceAnd, Nat.reduceBNe, g1, g6, g7, g8, Int.ofNat_lt, c1, hr, hv.ia c1, hv.i64 c1, hs, c2', Bool.not_true]
        refine ⟨l.length - (i + 1), by omega, i + 1, rfl, by omega, ?_, ?_⟩
        · rw [allI_take c1, ha, c2]; rfl
        · rw [wrap_i64 (by omega) (by omega)]; congr 1
    · have e : i = l.length := by omega
      subst e
      rw [List.take_length] at ha
      have hsy := Symbol_ok (Sx s [.cells [.str name, av, .int .i64 ret]]) name
      have hs := isSort_ok (Sx s [.cells [.str name, av, .int .i64 ret]]) ret
      cases c2 : symOk name
      · simp only [go_sem, ↓reduceIte, Nat.reduceMod, Nat.reduceEqDiff, Nat.reduceAdd, Nat.reduceMul, Nat.reduceSub, Nat.reduceLeDiff, Nat.reduceLT, Int.reduceEq, Int.reduceLT, Int.reduceLE, Int.reduceAdd, Int.reduceSub, Int.reduceNeg, reduceCtorEq, Nat.reduceShiftRight, Nat.reduceAnd, Nat.reduceBNe, g1, g6, g7, g8, Int.ofNat_lt, c1, hr, hsy, c2]
        exact settled_bool hx (by simp [sigOk, ha, c2])
      · by_cases c3 : (l.length : Int) ≤ 3
        · simp only [go_sem, ↓reduceIte, Nat.reduceMod, Nat.reduceEqDiff, Nat.reduceAdd, Nat.reduceMul, Nat.reduceSub, Nat.reduceLeDiff, Nat.reduceLT, Int.reduceEq, Int.reduceLT, Int.reduceLE, Int.reduceAdd, Int.reduceSub, Int.reduceNeg, reduceCtorEq, Nat.reduceShiftRight, Nat.reduceAnd, Nat.reduceBNe, g1, g6, g7, g8, Int.ofNat_lt, c1, hr, hsy, c2, hv.vlen, c3, hs]
          exact settled_bool hx (by simp [sigOk, ha, c2, sortB]; omega)
        · simp only [go_sem, ↓reduceIte, Nat.reduceMod, Nat.reduceEqDiff, Nat.reduceAdd, Nat.reduceMul, Nat.reduceSub, Nat.reduceLeDiff, Nat.reduceLT, Int.reduceEq, Int.reduceLT, Int.reduceLE, Int.reduceAdd, Int.reduceSub, Int.reduceNeg, reduceCtorEq, Nat.reduceShiftRight, Nat.reduceAnd, Nat.reduceBNe, g1, g6, g7, g8, Int.ofNat_lt, c1, hr, hsy, c2, hv.vlen, c3]
          exact settled_bool hx (by rw [sigOk, decide_eq_false (by omega : ¬ l.length ≤ 3)]; simp)
  · simp only [go_sem, ↓reduceIte, Nat.reduceMod, Nat.reduceEqDiff, Nat.reduceAdd, Nat.reduceMul, Nat.reduceSub, Nat.reduceLeDiff, Nat.reduceLT, Int.reduceEq, Int.reduceLT, Int.reduceLE, Int.reduceAdd, Int.reduceSub, Int.reduceNeg, reduceCtorEq, Nat.reduceShiftRight, Nat.reduceAnd, Nat.reduceBNe]
    rfl
end Go.Proofs.YtfndnjmnakdglaaGreatDoor
