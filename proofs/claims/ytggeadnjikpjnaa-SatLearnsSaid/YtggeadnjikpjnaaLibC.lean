/- Functions of the program: a solver is made, clauses are added. No condition. -/
import Derived.Test.YtggeadnjikpjnaaLibA
import Derived.Test.YtggeadnjikpjnaaLibB
namespace Go.Vm
set_option linter.unusedVariables false
/-- A literal's value. -/
def litV (val : List Int) (x : Int) : Int := if x < 0 then -(val.getD x.natAbs 0) else val.getD x.natAbs 0
/-- The literal that a clause tells; false: none is left. -/
def stateL (val : List Int) : Int → List Int → Int × Bool
  | left, [] => (left, decide (left ≠ 0))
  | left, x :: c => if 0 < litV val x ∨ (litV val x = 0 ∧ left ≠ 0) then (0, true) else stateL val (if litV val x = 0 then x else left) c
theorem Sol0.valAt {s σ : St} {b : Id} {F : Fx} {tv sv lv : AV} {es : List (AV × AV)} {X : SV} (h : Sol0 s σ b F tv sv lv es X) {k : Nat} (hk : k ≤ X.n) : (X.val.map (AV.int .i8))[k]? = some (.int .i8 (X.val.getD k 0)) ∧ -1 ≤ X.val.getD k 0 ∧ X.val.getD k 0 ≤ 1 := by
  have hl : k < X.val.length := by rw [h.lv1]; omega
  have := h.bd X.val[k] (List.getElem_mem hl)
  rw [List.getElem?_map, List.getElem?_eq_getElem hl, List.getD_eq_getElem?_getD, List.getElem?_eq_getElem hl]
  exact ⟨rfl, this⟩
theorem wrap_i8 {x : Int} (h0 : -128 ≤ x) (h1 : x ≤ 127) : IntKind.wrap .i8 x = x := by
  simp only [IntKind.wrap, IntKind.bits, IntKind.signed]
  simp
  omega
theorem OwS.ints {σ : St} {a : AV} {xs : List Int} (hr : Room σ) (h : OwS σ a (xs.map (.int .i64))) : Ints σ a xs := by
  have hm := h.most
  have hl := h.len
  rw [List.length_map] at hm hl
  generalize hy : xs.map (AV.int .i64) = ys at h
  cases h with
  | nils => 
    have : xs = [] := by cases xs with
      | nil => rfl
      | cons a l => simp at hy
    subst this
    exact ⟨.nils, rfl, fun i hi => by simp at hi⟩
  | sl i len cap cs h h1 h2 h3 h4 =>
    refine ⟨.sl i 0 len cap 1 cs h4 h (St.lt_of_obj hr h) (Nat.zero_le _), hl, fun k hk => ?_⟩
    have hl' : len = xs.length := hl
    have e : rowOf σ (.sl i 0 len cap 1) = cs := by show (σ.obj i).row.drop 0 = cs; rw [h]; rfl
    have hk2 : k < cs.length := by omega
    rw [e, Nat.mul_one, List.drop_eq_getElem_cons hk2]
    have e2 : cs[k]? = some (.int .i64 xs[k]) := by
      have := congrArg (fun l : List AV => l[k]?) hy
      simp only [List.getElem?_map, List.getElem?_eq_getElem hk] at this
      rw [List.getElem?_take_of_lt (by omega)] at this
      exact this.symm
    rw [List.getElem?_eq_getElem hk2] at e2
    rw [Option.some.inj e2]
    exact ⟨_, rfl⟩
theorem tsI_ints (s : St) (c : List Int) (h : c.length ≤ limit) : Ints s (tsI c) c := by
  refine ⟨.ts _ _ _ _ h (fun a ha => by obtain ⟨n, _, rfl⟩ := List.mem_map.mp ha; exact ov_int _ _ _), rfl, fun i hi => ?_⟩
  show RI .i64 ((c.map (AV.int .i64)).drop (i * 1)) c[i]
  rw [Nat.mul_one, List.drop_eq_getElem_cons (by rw [List.length_map]; exact hi), List.getElem_map]
  exact ⟨_, rfl⟩
end Go.Vm
namespace Go.Proofs.Ytggeadnjikpjnaa
open Go Go.Vm
set_option linter.unusedVariables false
set_option linter.unusedSimpArgs false
theorem fn_of {g : Vm.Id} {nt : Nat} {res : List Res} {body : CC} {args : List AV} {s s' : St} {r : AV} (hg : g.get (Vm.prog Go.Proofs.Try.prog) = .mk nt res body ∧ g.get BT = noB) (h : args.length ≤ nt)
    (hw : W CA body (fun f t => Rs (fun r0 s0 => Settled s r0 s0 r s') res f t) (fun _ _ _ => False) (fun f t => Rs (fun r0 s0 => Settled s r0 s0 r s') res f t) (frame0 args) (Sx s [])) : CA g args s = .ok r s' := cc_of hg (WF_S h hw)
section
variable {s σ : St} {b : Vm.Id} {G : Fx} {tv sv lv : AV} {es : List (AV × AV)} {X : SV}
theorem of_ok (h : Sol0 s σ b G tv sv lv es X) {x : Int} (hx : x.natAbs ≤ X.n) (hn : X.n ≤ 1000000) : CA F.sat_trail_of [.ptr b 0, .int .i64 x] σ = .ok (.int .i8 (litV X.val x)) σ := by
  obtain ⟨h1, h2⟩ := h.valAt hx
  have ob := h.ob
  have ov := h.ov
  refine fn_of code_sat_trail_of (by simp) ?_
  by_cases c1 : x < 0
  · have e1 : IntKind.wrap .i64 (-x) = ((x.natAbs : Nat) : Int) := by rw [wrap_i64 (by omega) (by omega)]; omega
    have e3 := viaddr_sl (k := .i64) (b := G.v) (o := 0) (len := X.n + 1) (cap := X.n + 1) (ex := 0) (i := x.natAbs) (by omega)
    simp only [go_sem, ↓reduceIte, Nat.reduceMod, Nat.reduceEqDiff, Nat.reduceAdd, Nat.reduceMul, Nat.reduceSub, Nat.reduceLeDiff, Nat.reduceLT, Int.reduceEq, Int.reduceLT, Int.reduceLE, Int.reduceAdd, Int.reduceSub, Int.reduceNeg, reduceCtorEq, Nat.reduceShiftRight, Nat.reduceAnd, Nat.reduceBNe, Sx_nil, c1, ob, ov, solC, e1, e3, wrap1_at h1]
    rw [wrap_i8 (by omega) (by omega)]
    exact (show (AV.int .i8 (-(X.val.getD x.natAbs 0))) = .int .i8 (litV X.val x) by unfold litV; rw [if_pos c1]) ▸ settled_int (Ext.refl σ) rfl
  · have e1 : x = ((x.natAbs : Nat) : Int) := by omega
    have e3 := viaddr_sl (k := .i64) (b := G.v) (o := 0) (len := X.n + 1) (cap := X.n + 1) (ex := 0) (i := x.natAbs) (by omega)
    rw [← e1] at e3
    simp only [go_sem, ↓reduceIte, Nat.reduceMod, Nat.reduceEqDiff, Nat.reduceAdd, Nat.reduceMul, Nat.reduceSub, Nat.reduceLeDiff, Nat.reduceLT, Int.reduceEq, Int.reduceLT, Int.reduceLE, Int.reduceAdd, Int.reduceSub, Int.reduceNeg, reduceCtorEq, Nat.reduceShiftRight, Nat.reduceAnd, Nat.reduceBNe, Sx_nil, c1, ob, ov, solC, e3, wrap1_at h1]
    exact settled_int (Ext.refl σ) (by unfold litV; rw [if_neg c1])
theorem state_ok (h : Sol0 s σ b G tv sv lv es X) {v : AV} {c : List Int} (hv : Ints σ v c) (hx : ∀ x ∈ c, x ≠ 0 ∧ x.natAbs ≤ X.n) (hn : X.n ≤ 1000000) : CA F.sat_Solver_state [.ptr b 0, v] σ = .ok (.tup [.int .i64 (stateL X.val 0 c).1, .bool (stateL X.val 0 c).2]) σ := by
  have hm := hv.most
  have ob := h.ob
  refine fn_of code_sat_Solver_state (by simp) ?_
  simp only [go_sem, ↓reduceIte, Nat.reduceMod, Nat.reduceEqDiff, Nat.reduceAdd, Nat.reduceMul, Nat.reduceSub, Nat.reduceLeDiff, Nat.reduceLT, Int.reduceEq, Int.reduceLT, Int.reduceLE, Int.reduceAdd, Int.reduceSub, Int.reduceNeg, reduceCtorEq, Nat.reduceShiftRight, Nat.reduceAnd, Nat.reduceBNe, Sx_nil, hv.vlen]
  refine W_inv (fun k f τ => ∃ (i : Nat) (left : Int), τ = σ ∧ k = c.length - i ∧ i ≤ c.length ∧ stateL X.val left (c.drop i) = stateL X.val 0 c ∧ (vv 0).get f = .ptr b 0 ∧ (vv 6).get f = .int .i64 left ∧ (vv 10).get f = v ∧ (vv 11).get f = .int .i64 (c.length : Int) ∧ (vv 12).get f = .int .i64 (i : Int)) ?_ ⟨0, 0, rfl, rfl, by omega, rfl, ?_⟩
  · rintro k f τ ⟨i, left, rfl, rfl, hi, hst, g0, g6, g10, g11, g12⟩
    by_cases c1 : i < c.length
    · have hxi := hx c[i] (List.getElem_mem c1)
      have f1 := of_ok h hxi.2 hn
      rw [List.drop_eq_getElem_cons c1, stateL] at hst
      by_cases c2 : 0 < litV X.val c[i]
      · rw [if_pos (.inl c2)] at hst
        simp only [go_sem, ↓reduceIte, Nat.reduceMod, Nat.reduceEqDiff, Nat.reduceAdd, Nat.reduceMul, Nat.reduceSub, Nat.reduceLeDiff, Nat.reduceLT, Int.reduceEq, Int.reduceLT, Int.reduceLE, Int.reduceAdd, Int.reduceSub, Int.reduceNeg, reduceCtorEq, Nat.reduceShiftRight, Nat.reduceAnd, Nat.reduceBNe, g0, g6, g10, g11, g12, Int.ofNat_lt, c1, hv.ia c1, hv.i64 c1, ob, f1, c2]
        rw [← hst]
        exact settled_ov (Ext.refl _) (ov_tup (by simp [ov_int, ov_bool]))
      · by_cases c3 : litV X.val c[i] = 0
        · by_cases c4 : left = 0
          · rw [if_neg (by rintro (q | q); exact c2 q; exact q.2 c4), if_pos c3] at hst
            simp only [go_sem, ↓reduceIte, Nat.reduceMod, Nat.reduceEqDiff, Nat.reduceAdd, Nat.reduceMul, Nat.reduceSub, Nat.reduceLeDiff, Nat.reduceLT, Int.reduceEq, Int.reduceLT, Int.reduceLE, Int.reduceAdd, Int.reduceSub, Int.reduceNeg, reduceCtorEq, Nat.reduceShiftRight, Nat.reduceAnd, Nat.reduceBNe, g0, g6, g10, g11, g12, Int.ofNat_lt, c1, hv.ia c1, hv.i64 c1, ob, f1, c2, c3, c4, ne_eq, not_true_eq_false, Int.lt_irrefl]
            refine ⟨c.length - (i + 1), by omega, i + 1, c[i], rfl, by omega, hst, ?_⟩
            rw [wrap_i64 (by omega) (by omega)]; simp
          · rw [if_pos (.inr ⟨c3, c4⟩)] at hst
            simp only [go_sem, ↓reduceIte, Nat.reduceMod, Nat.reduceEqDiff, Nat.reduceAdd, Nat.reduceMul, Nat.reduceSub, Nat.reduceLeDiff, Nat.reduceLT, Int.reduceEq, Int.reduceLT, Int.reduceLE, Int.reduceAdd, Int.reduceSub, Int.reduceNeg, reduceCtorEq, Nat.reduceShiftRight, Nat.reduceAnd, Nat.reduceBNe, g0, g6, g10, g11, g12, Int.ofNat_lt, c1, hv.ia c1, hv.i64 c1, ob, f1, c2, c3, c4, ne_eq, not_false_eq_true, Int.lt_irrefl]
            rw [← hst]
            exact settled_ov (Ext.refl _) (ov_tup (by simp [ov_int, ov_bool]))
        · rw [if_neg (by rintro (q | q); exact c2 q; exact c3 q.1), if_neg c3] at hst
          simp only [go_sem, ↓reduceIte, Nat.reduceMod, Nat.reduceEqDiff, Nat.reduceAdd, Nat.reduceMul, Nat.reduceSub, Nat.reduceLeDiff, Nat.reduceLT, Int.reduceEq, Int.reduceLT, Int.reduceLE, Int.reduceAdd, Int.reduceSub, Int.reduceNeg, reduceCtorEq, Nat.reduceShiftRight, Nat.reduceAnd, Nat.reduceBNe, g0, g6, g10, g11, g12, Int.ofNat_lt, c1, hv.ia c1, hv.i64 c1, ob, f1, c2, c3]
          refine ⟨c.length - (i + 1), by omega, i + 1, left, rfl, by omega, hst, ?_⟩
          rw [wrap_i64 (by omega) (by omega)]; simp
    · have e : i = c.length := by omega
      subst e
      rw [List.drop_length, stateL] at hst
      simp only [go_sem, ↓reduceIte, Nat.reduceMod, Nat.reduceEqDiff, Nat.reduceAdd, Nat.reduceMul, Nat.reduceSub, Nat.reduceLeDiff, Nat.reduceLT, Int.reduceEq, Int.reduceLT, Int.reduceLE, Int.reduceAdd, Int.reduceSub, Int.reduceNeg, reduceCtorEq, Nat.reduceShiftRight, Nat.reduceAnd, Nat.reduceBNe, g0, g6, g10, g11, g12, Int.ofNat_lt, c1]
      rw [← hst]
      exact settled_ov (Ext.refl _) (ov_tup (by simp [ov_int, ov_bool]))
  · simp only [go_sem, ↓reduceIte, Nat.reduceMod, Nat.reduceEqDiff, Nat.reduceAdd, Nat.reduceMul, Nat.reduceSub, Nat.reduceLeDiff, Nat.reduceLT, Int.reduceEq, Int.reduceLT, Int.reduceLE, Int.reduceAdd, Int.reduceSub, Int.reduceNeg, reduceCtorEq, Nat.reduceShiftRight, Nat.reduceAnd, Nat.reduceBNe]
    simp
end
theorem index_ok (s : St) {v : AV} {l : List Int} (hv : Ints s v l) (x : Int) : ∃ j : Int, CA F.slices_Index_int_int [v, .int .i64 x] s = .ok (.int .i64 j) s ∧ (0 ≤ j ↔ x ∈ l) := by
  have hm := hv.most
  have key : ∃ j : Int, (0 ≤ j ↔ x ∈ l) ∧ ((j = -1 ∧ x ∉ l) ∨ ∃ k : Nat, j = (k : Int) ∧ ∃ hk : k < l.length, l[k] = x ∧ x ∉ l.take k) := by
    by_cases h : x ∈ l
    · have hk : l.idxOf x < l.length := List.idxOf_lt_length_of_mem h
      refine ⟨(l.idxOf x : Int), ⟨fun _ => h, fun _ => by omega⟩, .inr ⟨_, rfl, hk, List.getElem_idxOf hk, fun hm => ?_⟩⟩
      obtain ⟨j, hj, e⟩ := List.getElem_of_mem hm
      rw [List.length_take] at hj
      rw [List.getElem_take] at e
      have h2 := List.not_of_lt_findIdx (p := fun y => y == x) (xs := l) (i := j) (by unfold List.idxOf at hj; omega)
      simp [e] at h2
    · exact ⟨-1, ⟨fun h => by omega, fun h' => absurd h' h⟩, .inl ⟨rfl, h⟩⟩
  obtain ⟨j, h1, h2⟩ := key
  refine ⟨j, ?_, h1⟩
  refine fn_of code_slices_Index_int_int (by simp) ?_
  simp only [go_sem, ↓reduceIte, Nat.reduceMod, Nat.reduceEqDiff, Nat.reduceAdd, Nat.reduceMul, Nat.reduceSub, Nat.reduceLeDiff, Nat.reduceLT, Int.reduceEq, Int.reduceLT, Int.reduceLE, Int.reduceAdd, Int.reduceSub, Int.reduceNeg, reduceCtorEq, Nat.reduceShiftRight, Nat.reduceAnd, Nat.reduceBNe, Sx_nil, hv.vlen]
  refine W_inv (fun k f τ => ∃ i : Nat, τ = s ∧ k = l.length - i ∧ i ≤ l.length ∧ x ∉ l.take i ∧ (vv 0).get f = v ∧ (vv 1).get f = .int .i64 x ∧ (vv 7).get f = .int .i64 (l.length : Int) ∧ (vv 8).get f = .int .i64 (i : Int)) ?_ ⟨0, rfl, rfl, by omega, by simp, ?_⟩
  · rintro k f τ ⟨i, rfl, rfl, hi, ha, g0, g1, g7, g8⟩
    by_cases c1 : i < l.length
    · by_cases c2 : x = l[i]
      · simp only [go_sem, ↓reduceIte, Nat.reduceMod, Nat.reduceEqDiff, Nat.reduceAdd, Nat.reduceMul, Nat.reduceSub, Nat.reduceLeDiff, Nat.reduceLT, Int.reduceEq, Int.reduceLT, Int.reduceLE, Int.reduceAdd, Int.reduceSub, Int.reduceNeg, reduceCtorEq, Nat.reduceShiftRight, Nat.reduceAnd, Nat.reduceBNe, g0, g1, g7, g8, Int.ofNat_lt, c1, hv.ia c1, hv.i64 c1, c2]
        refine settled_int (Ext.refl _) ?_
        rcases h2 with ⟨rfl, h2⟩ | ⟨k, rfl, hk, h3, h4⟩
        · exact absurd (by rw [c2]; exact List.getElem_mem c1) h2
        · have : k = i := by
            rcases Nat.lt_trichotomy k i with q | q | q
            · exact absurd (List.mem_iff_getElem.mpr ⟨k, by rw [List.length_take]; omega, by rw [List.getElem_take, h3]⟩) ha
            · exact q
            · exact absurd (List.mem_iff_getElem.mpr ⟨i, by rw [List.length_take]; omega, by rw [List.getElem_take, c2]⟩) h4
          rw [this]
      · simp only [go_sem, ↓reduceIte, Nat.reduceMod, Nat.reduceEqDiff, Nat.reduceAdd, Nat.reduceMul, Nat.reduceSub, Nat.reduceLeDiff, Nat.reduceLT, Int.reduceEq, Int.reduceLT, Int.reduceLE, Int.reduceAdd, Int.reduceSub, Int.reduceNeg, reduceCtorEq, Nat.reduceShiftRight, Nat.reduceAnd, Nat.reduceBNe, g0, g1, g7, g8, Int.ofNat_lt, c1, hv.ia c1, hv.i64 c1, c2]
        refine ⟨l.length - (i + 1), by omega, i + 1, rfl, by omega, ?_, ?_⟩
        · rw [← List.take_append_getElem c1, List.mem_append, List.mem_singleton]; exact fun h => h.elim ha c2
        · rw [wrap_i64 (by omega) (by omega)]; simp
    · have e : i = l.length := by omega
      subst e
      rw [List.take_length] at ha
      simp only [go_sem, ↓reduceIte, Nat.reduceMod, Nat.reduceEqDiff, Nat.reduceAdd, Nat.reduceMul, Nat.reduceSub, Nat.reduceLeDiff, Nat.reduceLT, Int.reduceEq, Int.reduceLT, Int.reduceLE, Int.reduceAdd, Int.reduceSub, Int.reduceNeg, reduceCtorEq, Nat.reduceShiftRight, Nat.reduceAnd, Nat.reduceBNe, g0, g1, g7, g8, Int.ofNat_lt, c1]
      refine settled_int (Ext.refl _) ?_
      rcases h2 with ⟨rfl, h2⟩ | ⟨k, rfl, hk, h3, h4⟩
      · rfl
      · exact absurd (by rw [← h3]; exact List.getElem_mem hk) ha
  · simp only [go_sem, ↓reduceIte, Nat.reduceMod, Nat.reduceEqDiff, Nat.reduceAdd, Nat.reduceMul, Nat.reduceSub, Nat.reduceLeDiff, Nat.reduceLT, Int.reduceEq, Int.reduceLT, Int.reduceLE, Int.reduceAdd, Int.reduceSub, Int.reduceNeg, reduceCtorEq, Nat.reduceShiftRight, Nat.reduceAnd, Nat.reduceBNe]
    simp
theorem contains_ok (s : St) {v : AV} {l : List Int} (hv : Ints s v l) (x : Int) : CA F.slices_Contains_int_int [v, .int .i64 x] s = .ok (.bool (decide (x ∈ l))) s := by
  obtain ⟨j, f1, h1⟩ := index_ok s hv x
  refine fn_of code_slices_Contains_int_int (by simp) ?_
  simp only [go_sem, ↓reduceIte, Nat.reduceMod, Nat.reduceEqDiff, Nat.reduceAdd, Nat.reduceMul, Nat.reduceSub, Nat.reduceLeDiff, Nat.reduceLT, Int.reduceEq, Int.reduceLT, Int.reduceLE, Int.reduceAdd, Int.reduceSub, Int.reduceNeg, reduceCtorEq, Nat.reduceShiftRight, Nat.reduceAnd, Nat.reduceBNe, Sx_nil, f1]
  exact settled_bool (Ext.refl _) (by rw [decide_eq_decide]; exact h1)
end Go.Proofs.Ytggeadnjikpjnaa
namespace Go.Vm
set_option linter.unusedVariables false
theorem vblit_push (len : Nat) (cs : List AV) (τ : St) : vblit len cs τ = .ok (.sl τ.n 0 len len 0) (τ.push (.cells cs)) := by
  unfold vblit; rw [alloc_push]
/-- A row that has just grown so far. -/
inductive ExS (σ : St) : AV → List AV → Prop where
  | nils : ExS σ .nils []
  | sl (i : Id) (xs : List AV) (h : σ.obj i = .cells xs) (h0 : xs ≠ []) (hm : xs.length ≤ limit) : ExS σ (.sl i 0 xs.length xs.length 1) xs
theorem ExS.ow {σ : St} {a : AV} {xs : List AV} (h : ExS σ a xs) : OwS σ a xs := by
  cases h with
  | nils => exact .nils
  | sl i xs h h0 hm =>
    have := OwS.sl i xs.length xs.length xs h (Nat.le_refl _) (Nat.le_refl _) (List.length_pos_iff.mpr h0) hm
    rw [List.take_length] at this; exact this
theorem ExS.frame {σ σ' : St} {a : AV} {xs : List AV} (h : ExS σ a xs) (hf : ∀ i ∈ ids a, σ'.obj i = σ.obj i) : ExS σ' a xs := by
  cases h with
  | nils => exact .nils
  | sl i xs h h0 hm => exact .sl i xs (by rw [hf i (List.mem_singleton.mpr rfl)]; exact h) h0 hm
theorem ExS.lt {σ : St} {a : AV} {xs : List AV} (h : ExS σ a xs) (hr : Room σ) : ∀ i ∈ ids a, i.val < σ.n.val := by
  cases h with
  | nils => intro i hi; simp [ids, AV.onSl] at hi
  | sl i xs h h0 hm => intro j hj; have : j = i := by simpa [ids, AV.onSl] using hj
                       rw [this]; exact St.lt_of_obj hr h
theorem ExS.app {σ : St} {a : AV} {xs : List AV} (h : ExS σ a xs) (hr : Room σ) {y : Id} {x : AV} (hy : σ.obj y = .cells [x]) (bytes : Nat) (hb : (xs.length + 1) * bytes ≤ limit) (hm : xs.length + 1 ≤ limit) :
    ∃ (a' : AV) (σ' : St) (i : Id), vapp 1 bytes a (.sl y 0 1 1 0) σ = .ok a' σ' ∧ ExS σ' a' (xs ++ [x]) ∧ Room σ' ∧ σ.n.val ≤ σ'.n.val ∧ ids a' = [i] ∧ i = σ.n ∧ ∀ c, c ∉ ids a → c.val < σ.n.val → σ'.obj c = σ.obj c := by
  have hsy : IsSl σ (.sl y 0 1 1 0) := .sl y 0 1 1 0 [x] (by unfold limit; omega) hy (St.lt_of_obj hr hy) (by simp)
  have hro : rowOf σ (.sl y 0 1 1 0) = [x] := by show (σ.obj y).row.drop 0 = [x]; rw [hy]; rfl
  cases h with
  | nils =>
    refine ⟨.sl σ.n 0 1 1 1, σ.push (.cells [x]), σ.n, ?_, .sl σ.n [x] (push_self σ _) (by simp) (by unfold limit; simp), hr.push _, by rw [push_n]; omega, rfl, rfl, fun c _ hc => push_old hc⟩
    unfold vapp
    rw [srcOf_sl hsy (by rw [hro]; simp [lenOf, AV.onSl])]
    rw [hro]
    show grown σ 1 bytes 1 [x] = _
    show br (Nat.ble (1 * bytes) limit) (br (Nat.ble 1 limit) (σ.alloc (.cells [x]) fun b s => .ok (.sl b 0 1 1 1) s) .no) .no = _
    rw [ble_t (by simpa using hb), ble_t (by unfold limit; omega), alloc_push]; rfl
  | sl i xs h h0 h4 =>
    have hi := St.lt_of_obj hr h
    have hlen : (xs ++ [x]).length = xs.length + 1 := by simp
    have ho : ((σ.put i .dead).push (.cells (xs ++ [x]))).obj σ.n = .cells (xs ++ [x]) := by rw [push_obj, put_n, if_pos rfl]
    have hex := ExS.sl σ.n (xs ++ [x]) ho (by simp) (by rw [hlen]; exact hm)
    rw [hlen] at hex
    refine ⟨.sl σ.n 0 (xs.length + 1) (xs.length + 1) 1, (σ.put i .dead).push (.cells (xs ++ [x])), σ.n, ?_, hex, (hr.put hi _).push _, by rw [push_n, put_n]; omega, rfl, rfl, fun c hc hcn => ?_⟩
    · unfold vapp
      rw [srcOf_sl hsy (by rw [hro]; simp [lenOf, AV.onSl]), hro]
      show (σ.obj i).onCells R.no _ = _
      rw [h]
      show br (Nat.ble (0 + xs.length * 1) (ln xs)) (br (Nat.ble (xs.length + 1) xs.length) _ (br (Nat.beq 1 0) _ (br (Nat.beq 1 1) (grown (σ.put i .dead) 1 bytes (xs.length + 1) (apd (tk (xs.length * 1) (dr 0 xs)) [x])) .no))) .no = _
      rw [ln_eq, ble_t (by omega), ble_f (by omega)]
      show grown (σ.put i .dead) 1 bytes (xs.length + 1) (apd (tk (xs.length * 1) (dr 0 xs)) [x]) = _
      rw [apd_eq, tk_eq, dr_eq, List.drop_zero, Nat.mul_one, List.take_length]
      show br (Nat.ble ((xs.length + 1) * bytes) limit) (br (Nat.ble (xs.length + 1) limit) ((σ.put i .dead).alloc (.cells (xs ++ [x])) fun b s => .ok (.sl b 0 (xs.length + 1) (xs.length + 1) 1) s) .no) .no = _
      rw [ble_t hb, ble_t hm, alloc_push, put_n]; rfl
    · rw [push_old (by rw [put_n]; exact hcn), St.obj_put, if_neg]; intro e; subst e; exact hc (List.mem_singleton.mpr rfl)
noncomputable def tsN (c : List Int) : AV := if c = [] then .nils else tsI c
theorem ExS.fz {σ : St} {a : AV} {c : List Int} (h : ExS σ a (c.map (.int .i64))) {n : Nat} (hn : ∀ i ∈ ids a, n ≤ i.val) : Fz n σ a (tsN c) := by
  generalize hy : c.map (AV.int .i64) = ys at h
  cases h with
  | nils =>
    have : c = [] := by cases c with
      | nil => rfl
      | cons a l => simp at hy
    subst this
    unfold tsN; rw [if_pos rfl]; exact .nils
  | sl i xs h h0 hm =>
    have hc : c ≠ [] := by intro e; subst e; exact h0 hy.symm
    unfold tsN; rw [if_neg hc]
    have hl : c.length = ys.length := by rw [← hy, List.length_map]
    unfold tsI
    rw [hl]
    refine .slN i 0 ys.length ys.length 1 ys (c.map (.int .i64)) (hn i (List.mem_singleton.mpr rfl)) h (by rw [List.drop_zero, hy]) (fun j p q h1 h2 => ?_)
    rw [List.drop_zero, ← hy] at h1
    rw [h1] at h2; cases h2
    obtain ⟨z, _, rfl⟩ := List.mem_map.mp (List.mem_of_getElem? h1)
    exact .int _ _
theorem tsN_ints (s : St) (c : List Int) (h : c.length ≤ limit) : Ints s (tsN c) c := by
  unfold tsN
  split
  · rename_i e; subst e; exact ⟨.nils, rfl, fun i hi => by simp at hi⟩
  · exact tsI_ints s c h
/-- The literals that count, each once. -/
def known1 (N : Nat) (out : List Int) (x : Int) : List Int := if x = 0 ∨ N < x.natAbs ∨ x ∈ out then out else out ++ [x]
def knownL (N : Nat) (c : List Int) : List Int := c.foldl (known1 N) []
theorem known1_len (N : Nat) (out : List Int) (x : Int) : (known1 N out x).length ≤ out.length + 1 := by unfold known1; split <;> simp
theorem knownL_len (N : Nat) (c : List Int) : (knownL N c).length ≤ c.length := by
  have key : ∀ (c out : List Int), (c.foldl (known1 N) out).length ≤ out.length + c.length := by
    intro c
    induction c with
    | nil => intro out; simp
    | cons x c ih => intro out; rw [List.foldl_cons]; have := ih (known1 N out x); have := known1_len N out x; simp; omega
  simpa [knownL] using key c []
theorem knownL_snoc (N : Nat) (c : List Int) (x : Int) : knownL N (c ++ [x]) = known1 N (knownL N c) x := by unfold knownL; rw [List.foldl_append]; rfl
/-- Numbers that fit. -/
def I64 (c : List Int) : Prop := ∀ x ∈ c, -9223372036854775808 ≤ x ∧ x ≤ 9223372036854775807
/-- A literal holds from now on. -/
def putX (X : SV) (x r : Int) : SV := (((X.sV x.natAbs (if x < 0 then -1 else 1)).sL x.natAbs (X.st.length : Int)).sR x.natAbs r).aT x
end Go.Vm
namespace Go.Proofs.Ytggeadnjikpjnaa
open Go Go.Vm
set_option linter.unusedVariables false
set_option linter.unusedSimpArgs false
theorem settle_ex (s : St) (r : AV) (s0 : St) (hr : Ov s.n.val r) : ∃ s', ((s' = s ∧ Old s s0) ∨ s' = s0) ∧ Settled s r s0 r s' := by
  by_cases h : Old s s0
  · exact ⟨s, .inl ⟨rfl, h⟩, .inl ⟨h, hr s0, rfl⟩⟩
  · exact ⟨s0, .inr rfl, .inr ⟨.inl h, rfl, rfl⟩⟩
theorem fn_st {g : Vm.Id} {nt : Nat} {res : List Res} {body : CC} {args : List AV} {s : St} {Q : AV → St → Prop} (hg : g.get (Vm.prog Go.Proofs.Try.prog) = .mk nt res body ∧ g.get BT = noB) (h : args.length ≤ nt)
    (hw : W CA body (fun f t => Rs (fun r0 s0 => Ov s.n.val r0 ∧ Q r0 s0) res f t) (fun _ _ _ => False) (fun f t => Rs (fun r0 s0 => Ov s.n.val r0 ∧ Q r0 s0) res f t) (frame0 args) (Sx s [])) : ∃ r s' s0, CA g args s = .ok r s' ∧ Q r s0 ∧ ((s' = s ∧ Old s s0) ∨ s' = s0) := by
  obtain ⟨N, hN⟩ := WF_S h hw
  cases he : evF CA N (.mk nt res body) args s with
  | no => rw [he] at hN; exact hN.elim
  | ok r0 s0 =>
    rw [he] at hN
    obtain ⟨h1, hQ⟩ : Ov s.n.val r0 ∧ Q r0 s0 := hN
    obtain ⟨s', h2, h3⟩ := settle_ex s r0 s0 h1
    exact ⟨r0, s', s0, cc_intro (by rw [hg.1]; exact he) h3 hg.2, hQ, h2⟩
section
variable {s σ : St} {b : Vm.Id} {G : Fx} {tv sv lv : AV} {es : List (AV × AV)} {X : SV}
/-- A call that writes a solver. -/
theorem fn_sol {g : Vm.Id} {nt : Nat} {res : List Res} {body : CC} {args : List AV} {Q : AV → SV → Prop} (h : Sol0 s σ b G tv sv lv es X) (hg : g.get (Vm.prog Go.Proofs.Try.prog) = .mk nt res body ∧ g.get BT = noB) (hl : args.length ≤ nt)
    (hw : W CA body (fun f t => Rs (fun r0 s0 => Ov σ.n.val r0 ∧ ∃ X', Q r0 X' ∧ Sol s s0 b G X') res f t) (fun _ _ _ => False) (fun f t => Rs (fun r0 s0 => Ov σ.n.val r0 ∧ ∃ X', Q r0 X' ∧ Sol s s0 b G X') res f t) (frame0 args) (Sx σ [])) : ∃ r σ' X', CA g args σ = .ok r σ' ∧ Q r X' ∧ Sol s σ' b G X' := by
  obtain ⟨r, σ', s0, h1, ⟨X', h2, h3⟩, h4⟩ := fn_st hg hl hw
  refine ⟨r, σ', X', h1, h2, ?_⟩
  rcases h4 with ⟨rfl, h4⟩ | rfl
  · obtain ⟨tv', sv', lv', es', h3⟩ := h3
    exact ⟨_, _, _, _, h.old h3 h4⟩
  · exact h3
theorem known_ok (h : Sol0 s σ b G tv sv lv es X) {v : AV} {c : List Int} (hv : Ints σ v c) (hc : I64 c) (hlc : c.length ≤ 1000000000000) (hn : X.n ≤ 1000000) : CA F.sat_Solver_known [.ptr b 0, v] σ = .ok (tsN (knownL X.n c)) σ := by
  have hm := hv.most
  have hr := h.room
  refine fn_of code_sat_Solver_known (by simp) ?_
  simp only [go_sem, ↓reduceIte, Nat.reduceMod, Nat.reduceEqDiff, Nat.reduceAdd, Nat.reduceMul, Nat.reduceSub, Nat.reduceLeDiff, Nat.reduceLT, Int.reduceEq, Int.reduceLT, Int.reduceLE, Int.reduceAdd, Int.reduceSub, Int.reduceNeg, reduceCtorEq, Nat.reduceShiftRight, Nat.reduceAnd, Nat.reduceBNe, Sx_nil, hv.vlen]
  refine W_inv (fun k f τ => ∃ (i : Nat) (a : AV), Room τ ∧ Ext σ τ ∧ k = c.length - i ∧ i ≤ c.length ∧ ExS τ a ((knownL X.n (c.take i)).map (.int .i64)) ∧ (∀ j ∈ ids a, σ.n.val ≤ j.val) ∧ (vv 0).get f = .ptr b 0 ∧ (vv 5).get f = a ∧ (vv 8).get f = v ∧ (vv 9).get f = .int .i64 (c.length : Int) ∧ (vv 10).get f = .int .i64 (i : Int)) ?_ ⟨0, .nils, hr, Ext.refl σ, rfl, by omega, .nils, by simp [ids, AV.onSl], ?_⟩
  · rintro k f τ ⟨i, a, hr1, hx1, rfl, hi, own, hge, g0, g5, g8, g9, g10⟩
    by_cases c1 : i < c.length
    · have ob : τ.obj b = .cells (solC G tv sv lv X) := by rw [hx1.old b h.bge.2]; exact h.ob
      have hxi := hc c[i] (List.getElem_mem c1)
      have hv1 := hv.x hx1
      have hkl := knownL_len X.n (c.take i)
      rw [List.length_take] at hkl
      have et : c.take (i + 1) = c.take i ++ [c[i]] := (List.take_append_getElem c1).symm
      have hcon := contains_ok τ (own.ow.ints hr1) c[i]
      by_cases c2 : c[i] = 0
      · have e1 : known1 X.n (knownL X.n (c.take i)) c[i] = knownL X.n (c.take i) := by unfold known1; rw [if_pos (.inl c2)]
        simp only [go_sem, ↓reduceIte, Nat.reduceMod, Nat.reduceEqDiff, Nat.reduceAdd, Nat.reduceMul, Nat.reduceSub, Nat.reduceLeDiff, Nat.reduceLT, Int.reduceEq, Int.reduceLT, Int.reduceLE, Int.reduceAdd, Int.reduceSub, Int.reduceNeg, reduceCtorEq, Nat.reduceShiftRight, Nat.reduceAnd, Nat.reduceBNe, g0, g5, g8, g9, g10, Int.ofNat_lt, c1, hv1.ia c1, hv1.i64 c1, hv.ia c1, ext_self, ob, c2]
        refine ⟨c.length - (i + 1), by omega, i + 1, a, hr1, hx1, rfl, by omega, by rw [et, knownL_snoc, e1]; exact own, hge, ?_⟩
        rw [wrap_i64 (by omega) (by omega)]; simp
      · by_cases c3 : c[i] = -9223372036854775808
        · have e1 : known1 X.n (knownL X.n (c.take i)) c[i] = knownL X.n (c.take i) := by unfold known1; rw [if_pos (.inr (.inl (by omega)))]
          simp only [go_sem, ↓reduceIte, Nat.reduceMod, Nat.reduceEqDiff, Nat.reduceAdd, Nat.reduceMul, Nat.reduceSub, Nat.reduceLeDiff, Nat.reduceLT, Int.reduceEq, Int.reduceLT, Int.reduceLE, Int.reduceAdd, Int.reduceSub, Int.reduceNeg, reduceCtorEq, Nat.reduceShiftRight, Nat.reduceAnd, Nat.reduceBNe, g0, g5, g8, g9, g10, Int.ofNat_lt, c1, hv1.ia c1, hv1.i64 c1, hv.ia c1, ext_self, ob, c2, c3]
          refine ⟨c.length - (i + 1), by omega, i + 1, a, hr1, hx1, rfl, by omega, by rw [et, knownL_snoc, e1]; exact own, hge, ?_⟩
          rw [wrap_i64 (by omega) (by omega)]; simp
        · have ew : IntKind.wrap .i64 (-c[i]) = -c[i] := wrap_i64 (by omega) (by omega)
          by_cases c4 : (X.n : Int) < max c[i] (-c[i])
          · have e1 : known1 X.n (knownL X.n (c.take i)) c[i] = knownL X.n (c.take i) := by unfold known1; rw [if_pos (.inr (.inl (by omega)))]
            simp only [go_sem, ↓reduceIte, Nat.reduceMod, Nat.reduceEqDiff, Nat.reduceAdd, Nat.reduceMul, Nat.reduceSub, Nat.reduceLeDiff, Nat.reduceLT, Int.reduceEq, Int.reduceLT, Int.reduceLE, Int.reduceAdd, Int.reduceSub, Int.reduceNeg, reduceCtorEq, Nat.reduceShiftRight, Nat.reduceAnd, Nat.reduceBNe, g0, g5, g8, g9, g10, Int.ofNat_lt, c1, hv1.ia c1, hv1.i64 c1, hv.ia c1, ext_self, ob, solC, c2, c3, ew, c4]
            refine ⟨c.length - (i + 1), by omega, i + 1, a, hr1, hx1, rfl, by omega, by rw [et, knownL_snoc, e1]; exact own, hge, ?_⟩
            rw [wrap_i64 (by omega) (by omega)]; simp
          · by_cases c5 : c[i] ∈ knownL X.n (c.take i)
            · have e1 : known1 X.n (knownL X.n (c.take i)) c[i] = knownL X.n (c.take i) := by unfold known1; rw [if_pos (.inr (.inr c5))]
              simp only [go_sem, ↓reduceIte, Nat.reduceMod, Nat.reduceEqDiff, Nat.reduceAdd, Nat.reduceMul, Nat.reduceSub, Nat.reduceLeDiff, Nat.reduceLT, Int.reduceEq, Int.reduceLT, Int.reduceLE, Int.reduceAdd, Int.reduceSub, Int.reduceNeg, reduceCtorEq, Nat.reduceShiftRight, Nat.reduceAnd, Nat.reduceBNe, g0, g5, g8, g9, g10, Int.ofNat_lt, c1, hv1.ia c1, hv1.i64 c1, hv.ia c1, ext_self, ob, solC, c2, c3, ew, c4, hcon, c5]
              refine ⟨c.length - (i + 1), by omega, i + 1, a, hr1, hx1, rfl, by omega, by rw [et, knownL_snoc, e1]; exact own, hge, ?_⟩
              rw [wrap_i64 (by omega) (by omega)]; simp
            · have e1 : known1 X.n (knownL X.n (c.take i)) c[i] = knownL X.n (c.take i) ++ [c[i]] := by unfold known1; rw [if_neg (by rintro (q | q | q); exact c2 q; omega; exact c5 q)]
              have hr2 := hr1.push (.cells [.int .i64 c[i]])
              have own2 : ExS (τ.push (.cells [.int .i64 c[i]])) a ((knownL X.n (c.take i)).map (.int .i64)) := own.frame fun j hj => by
                exact push_old (own.lt hr1 j hj)
              obtain ⟨a', τ', i0, q1, q2, q3, q4, q5, q6, q7⟩ := own2.app hr2 (y := τ.n) (x := .int .i64 c[i]) (push_self _ _) 8 (by rw [List.length_map]; unfold limit; omega) (by rw [List.length_map]; unfold limit; omega)
              simp only [go_sem, ↓reduceIte, Nat.reduceMod, Nat.reduceEqDiff, Nat.reduceAdd, Nat.reduceMul, Nat.reduceSub, Nat.reduceLeDiff, Nat.reduceLT, Int.reduceEq, Int.reduceLT, Int.reduceLE, Int.reduceAdd, Int.reduceSub, Int.reduceNeg, reduceCtorEq, Nat.reduceShiftRight, Nat.reduceAnd, Nat.reduceBNe, g0, g5, g8, g9, g10, Int.ofNat_lt, c1, hv1.ia c1, hv1.i64 c1, hv.ia c1, ext_self, ob, solC, c2, c3, ew, c4, hcon, c5, vblit_push, q1]
              have hn1 := hx1.n
              rw [push_n] at q4
              refine ⟨c.length - (i + 1), by omega, i + 1, a', q3, ⟨by omega, fun d hd => ?_⟩, rfl, by omega, ?_, ?_, ?_⟩
              · rw [q7 d (fun hm => by have := hge d hm; omega) (by rw [push_n]; omega), push_old (by omega)]
                exact hx1.old d hd
              · rw [et, knownL_snoc, e1]; simpa using q2
              · intro j hj; rw [q5, List.mem_singleton] at hj; rw [hj, q6, push_n]; omega
              · rw [wrap_i64 (by omega) (by omega)]; simp
    · have e : i = c.length := by omega
      subst e
      rw [List.take_length] at own
      simp only [go_sem, ↓reduceIte, Nat.reduceMod, Nat.reduceEqDiff, Nat.reduceAdd, Nat.reduceMul, Nat.reduceSub, Nat.reduceLeDiff, Nat.reduceLT, Int.reduceEq, Int.reduceLT, Int.reduceLE, Int.reduceAdd, Int.reduceSub, Int.reduceNeg, reduceCtorEq, Nat.reduceShiftRight, Nat.reduceAnd, Nat.reduceBNe, g0, g5, g8, g9, g10, Int.ofNat_lt, c1]
      exact settled_fz hx1 (own.fz hge)
  · simp only [go_sem, ↓reduceIte, Nat.reduceMod, Nat.reduceEqDiff, Nat.reduceAdd, Nat.reduceMul, Nat.reduceSub, Nat.reduceLeDiff, Nat.reduceLT, Int.reduceEq, Int.reduceLT, Int.reduceLE, Int.reduceAdd, Int.reduceSub, Int.reduceNeg, reduceCtorEq, Nat.reduceShiftRight, Nat.reduceAnd, Nat.reduceBNe]
    simp
theorem put0_ok (h : Sol0 s σ b G tv sv lv es X) {x r : Int} (hx : x.natAbs ≤ X.n) (hn : X.n ≤ 1000000) (ht : X.tr.length ≤ 1000000) (hst : X.st.length ≤ 1000000) : ∃ σ' tv', CA F.sat_trail_put [.ptr b 0, .int .i64 x, .int .i64 r] σ = .ok (.tup []) σ' ∧ Sol0 s σ' b G tv' sv lv es (putX X x r) := by
  have key : ∃ v σ' s0, CA F.sat_trail_put [.ptr b 0, .int .i64 x, .int .i64 r] σ = .ok v σ' ∧ (v = .tup [] ∧ ∃ tv', Sol0 s s0 b G tv' sv lv es (putX X x r)) ∧ ((σ' = σ ∧ Old σ s0) ∨ σ' = s0) := by
    refine fn_st (Q := fun v s0 => v = .tup [] ∧ ∃ tv', Sol0 s s0 b G tv' sv lv es (putX X x r)) code_sat_trail_put (by simp) ?_
    have h0 := h.sx (l := List.replicate 28 .dead) (by simp)
    have e0 : max x (IntKind.wrap .i64 (-x)) = ((x.natAbs : Nat) : Int) := by rw [wrap_i64 (by omega) (by omega)]; omega
    obtain ⟨τ, hτ⟩ : ∃ τ, τ = Sx σ (List.replicate 28 .dead) := ⟨_, rfl⟩
    rw [← hτ] at h0
    obtain ⟨τ1, w1, h1⟩ := h0.setV hx (if x < 0 then -1 else 1) (by split <;> omega)
    obtain ⟨τ2, w2, h2⟩ := h1.setL hx (X.st.length : Int)
    obtain ⟨τ3, w3, h3⟩ := h2.setR hx r
    have h4 := h3.push (.cells [.int .i64 x])
    obtain ⟨tv', τ4, τ5, w4, w5, h5⟩ := h4.appT (y := τ3.n) (x := x) (push_self _ _) (by show X.tr.length + 1 ≤ _; omega)
    have hsv := h.hs.vlen
    rw [List.length_map] at hsv
    have a1 := viaddr_sl (k := .i64) (b := G.v) (o := 0) (len := X.n + 1) (cap := X.n + 1) (ex := 0) (i := x.natAbs) (by omega)
    have a2 := viaddr_sl (k := .i64) (b := G.le) (o := 0) (len := X.n + 1) (cap := X.n + 1) (ex := 0) (i := x.natAbs) (by omega)
    have a3 := viaddr_sl (k := .i64) (b := G.re) (o := 0) (len := X.n + 1) (cap := X.n + 1) (ex := 0) (i := x.natAbs) (by omega)
    have o0 := h0.ob
    have o3 := h3.ob
    have o5 := h5.ob
    rw [Nat.zero_add] at a1 a2 a3
    by_cases c1 : x < 0
    · rw [if_pos c1] at w1
      simp only [go_sem, ↓reduceIte, Nat.reduceMod, Nat.reduceEqDiff, Nat.reduceAdd, Nat.reduceMul, Nat.reduceSub, Nat.reduceLeDiff, Nat.reduceLT, Int.reduceEq, Int.reduceLT, Int.reduceLE, Int.reduceAdd, Int.reduceSub, Int.reduceNeg, reduceCtorEq, Nat.reduceShiftRight, Nat.reduceAnd, Nat.reduceBNe, Sx_nil, e0, c1]
      rw [show σ = Sx σ [] from rfl]
      refine W_drawn h.room _ (by simp) ?_
      simp only [List.nil_append, List.length_nil, List.length_cons]
      rw [show (Sx σ (List.replicate (0+1+1+1+1+1+1+1+1+1+1+1+1+1+1+1+1+1+1+1+1+1+1+1+1+1+1+1+1) AO.dead)) = τ from hτ.symm]
      simp only [go_sem, ↓reduceIte, Nat.reduceMod, Nat.reduceEqDiff, Nat.reduceAdd, Nat.reduceMul, Nat.reduceSub, Nat.reduceLeDiff, Nat.reduceLT, Int.reduceEq, Int.reduceLT, Int.reduceLE, Int.reduceAdd, Int.reduceSub, Int.reduceNeg, reduceCtorEq, Nat.reduceShiftRight, Nat.reduceAnd, Nat.reduceBNe, h.room, o0, o3, solC, a1, a2, a3, w1, w2, w3, w4, w5, hsv, vblit_push]
      exact ⟨ov_tup (by simp), rfl, _, h5⟩
    · rw [if_neg c1] at w1
      simp only [go_sem, ↓reduceIte, Nat.reduceMod, Nat.reduceEqDiff, Nat.reduceAdd, Nat.reduceMul, Nat.reduceSub, Nat.reduceLeDiff, Nat.reduceLT, Int.reduceEq, Int.reduceLT, Int.reduceLE, Int.reduceAdd, Int.reduceSub, Int.reduceNeg, reduceCtorEq, Nat.reduceShiftRight, Nat.reduceAnd, Nat.reduceBNe, Sx_nil, e0, c1]
      rw [show σ = Sx σ [] from rfl]
      refine W_drawn h.room _ (by simp) ?_
      simp only [List.nil_append, List.length_nil, List.length_cons]
      rw [show (Sx σ (List.replicate (0+1+1+1+1+1+1+1+1+1+1+1+1+1+1+1+1+1+1+1+1+1+1+1+1+1+1+1+1) AO.dead)) = τ from hτ.symm]
      simp only [go_sem, ↓reduceIte, Nat.reduceMod, Nat.reduceEqDiff, Nat.reduceAdd, Nat.reduceMul, Nat.reduceSub, Nat.reduceLeDiff, Nat.reduceLT, Int.reduceEq, Int.reduceLT, Int.reduceLE, Int.reduceAdd, Int.reduceSub, Int.reduceNeg, reduceCtorEq, Nat.reduceShiftRight, Nat.reduceAnd, Nat.reduceBNe, h.room, o0, o3, solC, a1, a2, a3, w1, w2, w3, w4, w5, hsv, vblit_push]
      exact ⟨ov_tup (by simp), rfl, _, h5⟩
  obtain ⟨v, σ', s0, h1, ⟨rfl, tv', h2⟩, h3⟩ := key
  rcases h3 with ⟨rfl, h3⟩ | rfl
  · exact ⟨_, _, h1, h.old h2 h3⟩
  · exact ⟨_, _, h1, h2⟩
theorem put_ok (h : Sol0 s σ b G tv sv lv es X) {x r : Int} (hx : x.natAbs ≤ X.n) (hn : X.n ≤ 1000000) (ht : X.tr.length ≤ 1000000) (hst : X.st.length ≤ 1000000) : ∃ σ', CA F.sat_trail_put [.ptr b 0, .int .i64 x, .int .i64 r] σ = .ok (.tup []) σ' ∧ Sol s σ' b G (putX X x r) := by
  obtain ⟨σ', tv', h1, h2⟩ := put0_ok h hx hn ht hst (r := r)
  exact ⟨σ', h1, _, _, _, _, h2⟩
end
end Go.Proofs.Ytggeadnjikpjnaa
namespace Go.Vm
set_option linter.unusedVariables false
def entsX (j : Int) (X : SV) (c : List Int) : SV := c.foldl (fun X n => X.aE n j) X
def keep1 (X : SV) (c : List Int) : SV := if c.length = 1 ∧ X.st = [] then (if litV X.val (c.headD 0) = -1 then X.sC true else if litV X.val (c.headD 0) = 0 then putX X (c.headD 0) (-1) else X) else X
def keepX (X : SV) (c : List Int) : SV := if c = [] then X.sC true else entsX (X.cl.length : Int) ((keep1 X c).aL c) c
theorem putX_n (X : SV) (x r : Int) : (putX X x r).n = X.n := rfl
theorem putX_tr (X : SV) (x r : Int) : (putX X x r).tr = X.tr ++ [x] := rfl
theorem putX_st (X : SV) (x r : Int) : (putX X x r).st = X.st := rfl
theorem putX_cl (X : SV) (x r : Int) : (putX X x r).cl = X.cl := rfl
theorem putX_inn (X : SV) (x r : Int) : (putX X x r).inn = X.inn := rfl
theorem putX_done (X : SV) (x r : Int) : (putX X x r).done = X.done := rfl
theorem putX_closed (X : SV) (x r : Int) : (putX X x r).closed = X.closed := rfl
theorem putX_val (X : SV) (x r : Int) : (putX X x r).val = X.val.set x.natAbs (if x < 0 then -1 else 1) := rfl
theorem putX_lev (X : SV) (x r : Int) : (putX X x r).lev = X.lev.set x.natAbs (X.st.length : Int) := rfl
theorem putX_rea (X : SV) (x r : Int) : (putX X x r).rea = X.rea.set x.natAbs r := rfl
theorem keep1_keeps (X : SV) (c : List Int) : (keep1 X c).n = X.n ∧ (keep1 X c).st = X.st ∧ (keep1 X c).cl = X.cl ∧ (keep1 X c).inn = X.inn ∧ (keep1 X c).done = X.done := by
  unfold keep1
  split
  · split
    · exact ⟨rfl, rfl, rfl, rfl, rfl⟩
    · split
      · exact ⟨rfl, rfl, rfl, rfl, rfl⟩
      · exact ⟨rfl, rfl, rfl, rfl, rfl⟩
  · exact ⟨rfl, rfl, rfl, rfl, rfl⟩
theorem entsX_snoc (j : Int) (X : SV) (c : List Int) (x : Int) : entsX j X (c ++ [x]) = (entsX j X c).aE x j := by unfold entsX; rw [List.foldl_append]; rfl
theorem entsX_keeps (j : Int) (c : List Int) : ∀ (X : SV), (entsX j X c).n = X.n ∧ (entsX j X c).st = X.st ∧ (entsX j X c).cl = X.cl ∧ (entsX j X c).tr = X.tr ∧ (entsX j X c).val = X.val ∧ (entsX j X c).done = X.done ∧ (entsX j X c).closed = X.closed ∧ (entsX j X c).lev = X.lev ∧ (entsX j X c).rea = X.rea := by
  induction c with
  | nil => intro X; exact ⟨rfl, rfl, rfl, rfl, rfl, rfl, rfl, rfl, rfl⟩
  | cons a c ih => intro X; have := ih (X.aE a j); exact this
theorem entsX_look (j : Int) (c : List Int) : ∀ (X : SV) (k : Int), (lookI (entsX j X c).inn k).length ≤ (lookI X.inn k).length + c.length := by
  induction c with
  | nil => intro X k; exact Nat.le_refl _
  | cons a c ih =>
    intro X k
    have := ih (X.aE a j) k
    have e : (lookI (X.aE a j).inn k).length ≤ (lookI X.inn k).length + 1 := by
      rw [SV.aE_inn, look_updI]
      split
      · rename_i e; rw [e, List.length_append]; simp
      · omega
    simp only [List.length_cons]
    show (lookI (entsX j (X.aE a j) c).inn k).length ≤ _
    omega
/-- Numbers that fit. -/
structure Sm (X : SV) : Prop where
  n : X.n ≤ 1000000
  tr : X.tr.length ≤ 1000000
  st : X.st.length ≤ 1000000
  cl : X.cl.length ≤ 100000000000
  inn : ∀ k, (lookI X.inn k).length ≤ 100000000000
end Go.Vm
namespace Go.Proofs.Ytggeadnjikpjnaa
open Go Go.Vm
set_option linter.unusedVariables false
set_option linter.unusedSimpArgs false
section
variable {s σ : St} {b : Vm.Id} {G : Fx} {tv sv lv : AV} {es : List (AV × AV)} {X : SV}
theorem back0_ok (h : Sol0 s σ b G tv sv lv es X) (hst : X.st = []) : CA F.sat_trail_back [.ptr b 0, .int .i64 0] σ = .ok (.tup []) σ := by
  have ob := h.ob
  have hsv := h.hs.vlen
  rw [hst] at hsv
  refine fn_of code_sat_trail_back (by simp) ?_
  have hsv' : ∀ t, vlen sv t = .ok (.int .i64 0) t := fun t => hsv t
  simp only [go_sem, ↓reduceIte, Nat.reduceMod, Nat.reduceEqDiff, Nat.reduceAdd, Nat.reduceMul, Nat.reduceSub, Nat.reduceLeDiff, Nat.reduceLT, Int.reduceEq, Int.reduceLT, Int.reduceLE, Int.reduceAdd, Int.reduceSub, Int.reduceNeg, reduceCtorEq, Nat.reduceShiftRight, Nat.reduceAnd, Nat.reduceBNe, Sx_nil, ob, solC, hsv', Int.le_refl]
  exact settled_ov (Ext.refl σ) (ov_tup (by simp))
theorem keeps_ok (h : Sol0 s σ b G tv sv lv es X) {c : List Int} (hx : ∀ x ∈ c, x ≠ 0 ∧ x.natAbs ≤ X.n) (hsm : Sm X) (hlc : c.length ≤ 1000000) : ∃ σ', CA F.sat_Solver_keeps [.ptr b 0, tsN c] σ = .ok (.tup []) σ' ∧ Sol s σ' b G (keepX X c) := by
  have key : ∃ v σ' X', CA F.sat_Solver_keeps [.ptr b 0, tsN c] σ = .ok v σ' ∧ (v = .tup [] ∧ X' = keepX X c) ∧ Sol s σ' b G X' := by
    by_cases hc : c = []
    · obtain ⟨τ1, w1, h1⟩ := h.setClosed true
      refine fn_sol h code_sat_Solver_keeps (by simp) ?_
      have hv : ∀ t, vlen (tsN c) t = .ok (.int .i64 0) t := by intro t; subst hc; rfl
      simp only [go_sem, ↓reduceIte, Nat.reduceMod, Nat.reduceEqDiff, Nat.reduceAdd, Nat.reduceMul, Nat.reduceSub, Nat.reduceLeDiff, Nat.reduceLT, Int.reduceEq, Int.reduceLT, Int.reduceLE, Int.reduceAdd, Int.reduceSub, Int.reduceNeg, reduceCtorEq, Nat.reduceShiftRight, Nat.reduceAnd, Nat.reduceBNe, Sx_nil, h.ob, solC, hv, w1]
      exact ⟨ov_tup (by simp), _, ⟨rfl, rfl⟩, tv, sv, lv, es, by unfold keepX; rw [if_pos hc]; exact h1⟩
    have hts : tsN c = tsI c := by unfold tsN; rw [if_neg hc]
    rw [hts]
    refine fn_sol h code_sat_Solver_keeps (by simp) ?_
    rw [W_seq]
    refine W.mono (n := fun f τ => (vv 0).get f = .ptr b 0 ∧ (vv 1).get f = tsI c ∧ Sol s τ b G (keep1 X c)) ?_ (fun f τ hK => ?_) (fun _ _ _ h => h) (fun _ _ h => h)
    · have hv := tsI_ints σ c (by unfold limit; omega)
      have hl0 : c.length ≠ 0 := fun e => hc (List.eq_nil_of_length_eq_zero e)
      have ob := h.ob
      have hsv := h.hs.vlen
      rw [List.length_map] at hsv
      have hne : ¬ ((c.length : Int) = 0) := by omega
      by_cases c1 : c.length = 1
      rotate_left
      · have c1' : ¬ ((c.length : Int) = 1) := by omega
        simp only [go_sem, ↓reduceIte, Nat.reduceMod, Nat.reduceEqDiff, Nat.reduceAdd, Nat.reduceMul, Nat.reduceSub, Nat.reduceLeDiff, Nat.reduceLT, Int.reduceEq, Int.reduceLT, Int.reduceLE, Int.reduceAdd, Int.reduceSub, Int.reduceNeg, reduceCtorEq, Nat.reduceShiftRight, Nat.reduceAnd, Nat.reduceBNe, Sx_nil, hv.vlen, hne, c1']
        unfold keep1; rw [if_neg (fun h => c1 h.1)]; exact ⟨_, _, _, _, h⟩
      have c1' : (c.length : Int) = 1 := by omega
      obtain ⟨x, rfl⟩ := List.length_eq_one_iff.mp c1
      have hvl : ∀ t, vlen (tsI [x]) t = .ok (.int .i64 1) t := fun t => hv.vlen t
      by_cases c2 : X.st = []
      rotate_left
      · have c2' : ¬ ((X.st.length : Int) = 0) := fun e => c2 (List.eq_nil_of_length_eq_zero (by omega))
        simp only [go_sem, ↓reduceIte, Nat.reduceMod, Nat.reduceEqDiff, Nat.reduceAdd, Nat.reduceMul, Nat.reduceSub, Nat.reduceLeDiff, Nat.reduceLT, Int.reduceEq, Int.reduceLT, Int.reduceLE, Int.reduceAdd, Int.reduceSub, Int.reduceNeg, reduceCtorEq, Nat.reduceShiftRight, Nat.reduceAnd, Nat.reduceBNe, Sx_nil, hvl, ob, solC, hsv, c2']
        unfold keep1; rw [if_neg (fun h => c2 h.2)]; exact ⟨_, _, _, _, h⟩
      rw [c2] at hsv
      have hsv0 : ∀ t, vlen sv t = .ok (.int .i64 0) t := fun t => hsv t
      have hxx := hx x (by simp)
      have hk : keep1 X [x] = (if litV X.val x = -1 then X.sC true else if litV X.val x = 0 then putX X x (-1) else X) := by unfold keep1; rw [if_pos ⟨rfl, c2⟩]; rfl
      have h0 := h.sx (l := [.dead, .dead, .dead, .dead, .dead, .dead, .dead]) (by simp)
      have hv0 : ∀ τ, viaddr 1 (tsI [x]) (.int .i64 0) τ = .ok (elp (tsI [x]) 0) τ := fun τ => hv.ia0 (by simp) 1 .i64 τ
      have hl : ∀ τ, vload false 1 (elp (tsI [x]) 0) τ = .ok (.int .i64 x) τ := fun τ => (tsI_ints τ [x] (by simp [limit])).i64 (i := 0) (by simp) (ext_self τ)
      have f1 := of_ok h0 hxx.2 hsm.n
      simp only [go_sem, ↓reduceIte, Nat.reduceMod, Nat.reduceEqDiff, Nat.reduceAdd, Nat.reduceMul, Nat.reduceSub, Nat.reduceLeDiff, Nat.reduceLT, Int.reduceEq, Int.reduceLT, Int.reduceLE, Int.reduceAdd, Int.reduceSub, Int.reduceNeg, reduceCtorEq, Nat.reduceShiftRight, Nat.reduceAnd, Nat.reduceBNe, Sx_nil, hvl, ob, solC, hsv0]
      rw [show σ = Sx σ [] from rfl]
      refine W_drawn h.room _ (by simp) ?_
      simp only [List.nil_append, List.length_nil, List.length_cons, List.replicate_succ, List.replicate_zero]
      generalize Sx σ [.dead, .dead, .dead, .dead, .dead, .dead, .dead] = τ at *
      by_cases c3 : litV X.val x = -1
      · obtain ⟨τ1, w1, h1⟩ := h0.setClosed true
        rw [c3] at f1
        simp only [go_sem, ↓reduceIte, Nat.reduceMod, Nat.reduceEqDiff, Nat.reduceAdd, Nat.reduceMul, Nat.reduceSub, Nat.reduceLeDiff, Nat.reduceLT, Int.reduceEq, Int.reduceLT, Int.reduceLE, Int.reduceAdd, Int.reduceSub, Int.reduceNeg, reduceCtorEq, Nat.reduceShiftRight, Nat.reduceAnd, Nat.reduceBNe, h.room, hv0, hl, h0.ob, solC, f1, w1]
        rw [hk, if_pos c3]; exact ⟨_, _, _, _, h1⟩
      · by_cases c4 : litV X.val x = 0
        · have h2 := h0.sx (l := [.dead, .dead, .dead, .dead, .dead, .dead, .dead]) (by simp)
          obtain ⟨τ2, q1, q2⟩ := put_ok h2 (x := x) (r := -1) hxx.2 hsm.n hsm.tr hsm.st
          rw [c4] at f1
          simp only [go_sem, ↓reduceIte, Nat.reduceMod, Nat.reduceEqDiff, Nat.reduceAdd, Nat.reduceMul, Nat.reduceSub, Nat.reduceLeDiff, Nat.reduceLT, Int.reduceEq, Int.reduceLT, Int.reduceLE, Int.reduceAdd, Int.reduceSub, Int.reduceNeg, reduceCtorEq, Nat.reduceShiftRight, Nat.reduceAnd, Nat.reduceBNe, h.room, hv0, hl, h0.ob, solC, f1]
          rw [show τ = Sx τ [] from rfl]
          refine W_drawn h0.room _ (by simp) ?_
          simp only [List.nil_append, List.length_nil, List.length_cons, List.replicate_succ, List.replicate_zero]
          generalize Sx τ [.dead, .dead, .dead, .dead, .dead, .dead, .dead] = τ' at *
          simp only [go_sem, ↓reduceIte, Nat.reduceMod, Nat.reduceEqDiff, Nat.reduceAdd, Nat.reduceMul, Nat.reduceSub, Nat.reduceLeDiff, Nat.reduceLT, Int.reduceEq, Int.reduceLT, Int.reduceLE, Int.reduceAdd, Int.reduceSub, Int.reduceNeg, reduceCtorEq, Nat.reduceShiftRight, Nat.reduceAnd, Nat.reduceBNe, h0.room, hv0, hl, h2.ob, solC, q1]
          rw [hk, if_neg c3, if_pos c4]; exact q2
        · simp only [go_sem, ↓reduceIte, Nat.reduceMod, Nat.reduceEqDiff, Nat.reduceAdd, Nat.reduceMul, Nat.reduceSub, Nat.reduceLeDiff, Nat.reduceLT, Int.reduceEq, Int.reduceLT, Int.reduceLE, Int.reduceAdd, Int.reduceSub, Int.reduceNeg, reduceCtorEq, Nat.reduceShiftRight, Nat.reduceAnd, Nat.reduceBNe, h.room, hv0, hl, h0.ob, solC, f1, c3, c4]
          rw [hk, if_neg c3, if_neg c4]; exact ⟨_, _, _, _, h0⟩
    obtain ⟨g0, g1, tv1, sv1, lv1, es1, h1⟩ := hK
    have hk1 := keep1_keeps X c
    have hke : keepX X c = entsX (X.cl.length : Int) ((keep1 X c).aL c) c := by unfold keepX; rw [if_neg hc]
    obtain ⟨k1, k2, k3, k4, k5⟩ := hk1
    generalize keep1 X c = X1 at *
    have hm : c.length ≤ limit := by unfold limit; omega
    have hv := tsI_ints τ c hm
    have h2 := h1.push (.cells [tsI c])
    obtain ⟨lv2, τ1, τ2, w1, w2, h3⟩ := h2.appL (y := τ.n) (x := c) (push_self _ _) (by have := hsm.cl; rw [k3]; omega)
    have hv2 := tsI_ints τ2 c hm
    simp only [go_sem, ↓reduceIte, Nat.reduceMod, Nat.reduceEqDiff, Nat.reduceAdd, Nat.reduceMul, Nat.reduceSub, Nat.reduceLeDiff, Nat.reduceLT, Int.reduceEq, Int.reduceLT, Int.reduceLE, Int.reduceAdd, Int.reduceSub, Int.reduceNeg, reduceCtorEq, Nat.reduceShiftRight, Nat.reduceAnd, Nat.reduceBNe, g0, g1, h1.ob, solC, h3.ob, vblit_push, hv2.one, hv.vlen, hv2.vlen, w1, w2]
    refine W_inv (fun k f τ' => ∃ (i : Nat), k = c.length - i ∧ i ≤ c.length ∧ Sol s τ' b G (entsX (X.cl.length : Int) (X1.aL c) (c.take i)) ∧ (vv 0).get f = .ptr b 0 ∧ (vv 57).get f = tsI c ∧ (vv 58).get f = .int .i64 (c.length : Int) ∧ (vv 59).get f = .int .i64 (i : Int)) ?_ ⟨0, rfl, by omega, ⟨_, _, _, _, h3⟩, ?_⟩
    · rintro k f τ' ⟨i, rfl, hi, ⟨tv4, sv4, lv4, es4, h4⟩, p0, p57, p58, p59⟩
      have hv4 := tsI_ints τ' c hm
      have hkk := entsX_keeps (X.cl.length : Int) (c.take i) (X1.aL c)
      have hlk := entsX_look (X.cl.length : Int) (c.take i) (X1.aL c)
      by_cases d1 : i < c.length
      · have h5 := h4.sx (l := [.dead, .dead, .dead, .dead, .dead, .dead, .dead, .dead, .dead, .dead, .dead, .dead, .dead, .dead, .dead, .dead, .dead, .dead, .dead, .dead]) (by simp)
        have et : c.take (i + 1) = c.take i ++ [c[i]] := (List.take_append_getElem d1).symm
        have hcl : (entsX (X.cl.length : Int) (X1.aL c) (c.take i)).cl.length = X.cl.length + 1 := by rw [hkk.2.2.1, SV.aL_cl, List.length_append, k3]; rfl
        obtain ⟨X4, hX4⟩ : ∃ X4, X4 = entsX (X.cl.length : Int) (X1.aL c) (c.take i) := ⟨_, rfl⟩
        rw [← hX4] at h4 h5 hcl hkk hlk
        have hlv := h4.hl.vlen
        rw [List.length_map, hcl] at hlv
        have n0 := Sx_n (s := τ') (l := [.dead, .dead, .dead, .dead, .dead, .dead, .dead, .dead, .dead, .dead, .dead, .dead, .dead, .dead, .dead, .dead, .dead, .dead, .dead, .dead]) h4.room (by simp)
        simp only [List.length_cons, List.length_nil] at n0
        have nv := nm_val h4.room (k := 17) (by omega)
        have hf17 : nm τ' 17 ∉ foot b G tv4 sv4 lv4 es4 := fun hm => by have := (h4.ge _ hm).2; omega
        simp only [go_sem, ↓reduceIte, Nat.reduceMod, Nat.reduceEqDiff, Nat.reduceAdd, Nat.reduceMul, Nat.reduceSub, Nat.reduceLeDiff, Nat.reduceLT, Int.reduceEq, Int.reduceLT, Int.reduceLE, Int.reduceAdd, Int.reduceSub, Int.reduceNeg, reduceCtorEq, Nat.reduceShiftRight, Nat.reduceAnd, Nat.reduceBNe, p0, p57, p58, p59, Int.ofNat_lt, d1, hv4.ia d1, hv4.i64 d1, ext_self]
        rw [show τ' = Sx τ' [] from rfl]
        refine W_drawn h4.room _ (by simp) ?_
        simp only [List.nil_append, List.length_nil, List.length_cons, List.replicate_succ, List.replicate_zero]
        generalize Sx τ' [.dead, .dead, .dead, .dead, .dead, .dead, .dead, .dead, .dead, .dead, .dead, .dead, .dead, .dead, .dead, .dead, .dead, .dead, .dead, .dead] = τ0 at *
        obtain ⟨a, l1, l2⟩ := h5.appE c[i]
        have ew : IntKind.wrap .i64 (((X.cl.length + 1 : Nat) : Int) - 1) = (X.cl.length : Int) := by have := hsm.cl; rw [wrap_i64 (by omega) (by omega)]; omega
        obtain ⟨a', σ1, σ2, es', w3, w4, w5, h6⟩ := l2 (τ0.put (nm τ' 17) (.cells [.int .i64 (X.cl.length : Int)])) (fun j hj => by rw [St.obj_put, if_neg]; intro e; rw [e] at hj; exact hf17 hj) (h5.room.put (by omega) _) (h5.ext.put (by have := h4.ext.n; omega) _) (by rw [put_n]; exact Nat.le_refl _) (y := nm τ' 17) (x := (X.cl.length : Int)) (put_self _ _ _) (by
          have := hlk c[i]
          rw [SV.aL_inn, k4] at this
          have := hsm.inn c[i]
          rw [List.length_take] at *; omega)
        have o1 : σ1.obj b = .cells (solC G tv4 sv4 lv4 X4) := by
          rw [w5 b (.inl rfl), St.obj_put, if_neg (fun e => by rw [← e] at hf17; exact hf17 (by simp [foot]))]; exact h5.ob
        simp only [go_sem, ↓reduceIte, Nat.reduceMod, Nat.reduceEqDiff, Nat.reduceAdd, Nat.reduceMul, Nat.reduceSub, Nat.reduceLeDiff, Nat.reduceLT, Int.reduceEq, Int.reduceLT, Int.reduceLE, Int.reduceAdd, Int.reduceSub, Int.reduceNeg, reduceCtorEq, Nat.reduceShiftRight, Nat.reduceAnd, Nat.reduceBNe, h4.room, p0, p57, p58, p59, h5.ob, solC, hlv, ew, l1, w3, o1, w4]
        refine ⟨c.length - (i + 1), by omega, i + 1, rfl, by omega, ⟨_, _, _, _, by rw [et, entsX_snoc, ← hX4]; exact h6⟩, ?_⟩
        rw [wrap_i64 (by omega) (by omega)]; simp
      · have e : i = c.length := by omega
        subst e
        rw [List.take_length] at h4
        simp only [go_sem, ↓reduceIte, Nat.reduceMod, Nat.reduceEqDiff, Nat.reduceAdd, Nat.reduceMul, Nat.reduceSub, Nat.reduceLeDiff, Nat.reduceLT, Int.reduceEq, Int.reduceLT, Int.reduceLE, Int.reduceAdd, Int.reduceSub, Int.reduceNeg, reduceCtorEq, Nat.reduceShiftRight, Nat.reduceAnd, Nat.reduceBNe, p0, p57, p58, p59, Int.ofNat_lt, d1]
        exact ⟨ov_tup (by simp), _, ⟨rfl, rfl⟩, tv4, sv4, lv4, es4, by rw [hke]; exact h4⟩
    · simp only [go_sem, ↓reduceIte, Nat.reduceMod, Nat.reduceEqDiff, Nat.reduceAdd, Nat.reduceMul, Nat.reduceSub, Nat.reduceLeDiff, Nat.reduceLT, Int.reduceEq, Int.reduceLT, Int.reduceLE, Int.reduceAdd, Int.reduceSub, Int.reduceNeg, reduceCtorEq, Nat.reduceShiftRight, Nat.reduceAnd, Nat.reduceBNe, g0, g1]
      simp
  obtain ⟨v, σ', X', h1, ⟨rfl, rfl⟩, h3⟩ := key
  exact ⟨σ', h1, h3⟩
/-- What adding a clause makes of a solver, where nothing was tried yet. -/
theorem add_ok (h : Sol0 s σ b G tv sv lv es X) {v : AV} {c : List Int} (hv : Ints σ v c) (hc : I64 c) (hst : X.st = []) (hk : ∀ x ∈ knownL X.n c, x ≠ 0 ∧ x.natAbs ≤ X.n) (hsm : Sm X) (hlc : c.length ≤ 1000000) : ∃ σ', CA F.sat_Solver_Add [.ptr b 0, v] σ = .ok (.tup []) σ' ∧ Sol s σ' b G ((keepX X (knownL X.n c)).sD 0) := by
  have key : ∃ r σ' X', CA F.sat_Solver_Add [.ptr b 0, v] σ = .ok r σ' ∧ (r = .tup [] ∧ X' = (keepX X (knownL X.n c)).sD 0) ∧ Sol s σ' b G X' := by
    have f1 := back0_ok h hst
    have f2 := known_ok h hv hc (by omega) hsm.n
    obtain ⟨σ1, f3, tv1, sv1, lv1, es1, h1⟩ := keeps_ok h (c := knownL X.n c) hk hsm (Nat.le_trans (knownL_len _ _) hlc)
    obtain ⟨σ2, w2, h2⟩ := h1.setDone 0
    refine fn_sol h code_sat_Solver_Add (by simp) ?_
    have w2' : vstore 1 (.ptr b 8) (.int .i64 0) σ1 = .ok Vm.undef σ2 := w2
    simp only [go_sem, ↓reduceIte, Nat.reduceMod, Nat.reduceEqDiff, Nat.reduceAdd, Nat.reduceMul, Nat.reduceSub, Nat.reduceLeDiff, Nat.reduceLT, Int.reduceEq, Int.reduceLT, Int.reduceLE, Int.reduceAdd, Int.reduceSub, Int.reduceNeg, reduceCtorEq, Nat.reduceShiftRight, Nat.reduceAnd, Nat.reduceBNe, Sx_nil, f1, f2, f3, w2']
    exact ⟨ov_tup (by simp), _, ⟨rfl, rfl⟩, _, _, _, _, h2⟩
  obtain ⟨v, σ', X', h1, ⟨rfl, rfl⟩, h3⟩ := key
  exact ⟨σ', h1, h3⟩
end
end Go.Proofs.Ytggeadnjikpjnaa
namespace Go.Vm
set_option linter.unusedVariables false
theorem al_mksl {b : Id} {bytes : Nat} {j k : IntKind} {l c : Nat} {a : AV} (h1 : l ≤ c) (h2 : c * bytes ≤ limit) (h3 : c < limit) :
    vmksl bytes [a] (.int j (l : Int)) (.int k (c : Int)) (.mk (.rep .dead) b) = .ok (.sl b 0 l c 0) (al b (.cells (List.replicate c a))) := by
  unfold vmksl
  rw [idx_eq (by omega) (by omega), idx_eq (by omega) (by omega)]
  simp only [Int.toNat_natCast]
  rw [ble_t h1, ble_t h2, br_true', br_true', reps_rep, alloc_push]; rfl
theorem Sx_mkmap {s : St} {l : List AO} (hr : Room s) (hl : l.length ≤ 5000) (call : CallT) (f : Fr AV) : exop .mkmap call f (Sx s l) = .ok (.map (nm s l.length)) (Sx s (l ++ [.map []])) := by
  show ((Sx s l).alloc (.map []) fun b s => R.ok (.map b) s) = _; rw [Sx_alloc hr hl]
theorem one_mapv (b : Id) : (AV.map b).one = true := nd rfl
def X0 (n : Nat) : SV := ⟨n, List.replicate (n + 1) 0, List.replicate (n + 1) 0, List.replicate (n + 1) 0, [], [], [], [], 0, false⟩
def addX (X : SV) (c : List Int) : SV := (keepX X (knownL X.n c)).sD 0
def newX (n : Nat) (l : List (List Int)) : SV := l.foldl addX (X0 n)
theorem newX_snoc (n : Nat) (l : List (List Int)) (c : List Int) : newX n (l ++ [c]) = addX (newX n l) c := by unfold newX; rw [List.foldl_append]; rfl
theorem knownL_in (N : Nat) (c : List Int) : ∀ x ∈ knownL N c, x ≠ 0 ∧ x.natAbs ≤ N := by
  have key : ∀ (c out : List Int), (∀ x ∈ out, x ≠ 0 ∧ x.natAbs ≤ N) → ∀ x ∈ c.foldl (known1 N) out, x ≠ 0 ∧ x.natAbs ≤ N := by
    intro c
    induction c with
    | nil => intro out h; exact h
    | cons a c ih =>
      intro out h
      refine ih _ fun x hx => ?_
      unfold known1 at hx
      split at hx
      · exact h x hx
      · rename_i hn
        rcases List.mem_append.mp hx with hx | hx
        · exact h x hx
        · rw [List.mem_singleton] at hx
          subst hx
          exact ⟨fun e => hn (.inl e), by have := fun e => hn (.inr (.inl e)); omega⟩
  exact key c [] (fun x hx => by cases hx)
theorem addX_keeps (X : SV) (c : List Int) : (addX X c).n = X.n ∧ (addX X c).st = X.st ∧ (addX X c).cl.length ≤ X.cl.length + 1 ∧ (addX X c).tr.length ≤ X.tr.length + 1 ∧ ∀ k, (lookI (addX X c).inn k).length ≤ (lookI X.inn k).length + c.length := by
  unfold addX keepX
  split
  · exact ⟨rfl, rfl, Nat.le_succ _, Nat.le_succ _, fun k => Nat.le_add_right _ _⟩
  · have h1 := entsX_keeps (X.cl.length : Int) (knownL X.n c) ((keep1 X (knownL X.n c)).aL (knownL X.n c))
    have h2 := keep1_keeps X (knownL X.n c)
    have h3 : (keep1 X (knownL X.n c)).tr.length ≤ X.tr.length + 1 := by
      unfold keep1
      split
      · split
        · exact Nat.le_succ _
        · split
          · rw [putX_tr]; simp
          · exact Nat.le_succ _
      · exact Nat.le_succ _
    refine ⟨?_, ?_, ?_, ?_, fun k => ?_⟩
    · rw [SV.sD_n, h1.1, SV.aL_n, h2.1]
    · rw [SV.sD_st, h1.2.1, SV.aL_st, h2.2.1]
    · rw [SV.sD_cl, h1.2.2.1, SV.aL_cl, h2.2.2.1]; simp
    · rw [SV.sD_tr, h1.2.2.2.1, SV.aL_tr]; exact h3
    · rw [SV.sD_inn]
      have h4 := entsX_look (X.cl.length : Int) (knownL X.n c) ((keep1 X (knownL X.n c)).aL (knownL X.n c)) k
      rw [SV.aL_inn, h2.2.2.2.1] at h4
      have := knownL_len X.n c
      omega
theorem newX_sm (n : Nat) (hn : n ≤ 1000) (l : List (List Int)) (hl : l.length ≤ 1000) (hc : ∀ c ∈ l, c.length ≤ 1000) : Sm (newX n l) ∧ (newX n l).st = [] ∧ (newX n l).n = n := by
  have key : ∀ (l : List (List Int)), (∀ c ∈ l, c.length ≤ 1000) → (newX n l).n = n ∧ (newX n l).st = [] ∧ (newX n l).cl.length ≤ l.length ∧ (newX n l).tr.length ≤ l.length ∧ ∀ k, (lookI (newX n l).inn k).length ≤ 1000 * l.length := by
    intro l
    induction hm : l.length generalizing l with
    | zero =>
      intro _
      have : l = [] := List.eq_nil_of_length_eq_zero hm
      subst this
      exact ⟨rfl, rfl, Nat.le_refl _, Nat.le_refl _, fun k => Nat.le_refl _⟩
    | succ m ih =>
      intro hc
      obtain ⟨l', c, rfl⟩ : ∃ l' c, l = l' ++ [c] := by
        have hne : l ≠ [] := by intro e; subst e; simp at hm
        exact ⟨l.dropLast, l.getLast hne, (List.dropLast_concat_getLast hne).symm⟩
      have hm' : l'.length = m := by simp at hm; exact hm
      obtain ⟨i1, i2, i3, i4, i5⟩ := ih l' hm' fun c hc' => hc c (List.mem_append_left _ hc')
      obtain ⟨a1, a2, a3, a4, a5⟩ := addX_keeps (newX n l') c
      rw [newX_snoc]
      have := hc c (by simp)
      exact ⟨a1.trans i1, a2.trans i2, by omega, by omega, fun k => by have := a5 k; have := i5 k; omega⟩
  obtain ⟨i1, i2, i3, i4, i5⟩ := key l hc
  exact ⟨⟨by omega, by omega, by rw [i2]; simp, by omega, fun k => by have := i5 k; omega⟩, i2, i1⟩
/-- Rows of rows of numbers. -/
abbrev Rows2 (s : St) (v : AV) (l : List (List Int)) : Prop := SlR s v 1 (fun r c => ∃ a t, r = a :: t ∧ Ints s a c) l
theorem Rows2.x {s s' : St} {v : AV} {l : List (List Int)} (h : Rows2 s v l) (hx : Ext s s') : Rows2 s' v l := h.ext hx _ fun r c ⟨a, t, h1, h2⟩ => ⟨a, t, h1, h2.x hx⟩
theorem Rows2.at {s : St} {v : AV} {l : List (List Int)} (h : Rows2 s v l) {i : Nat} (hi : i < l.length) : ∃ a, Ints s a l[i] ∧ ∀ σ, Ext s σ → vload false 1 (elp v i) σ = .ok a σ := by
  obtain ⟨a, t, h1, h2⟩ := h.el i hi
  rw [Nat.mul_one] at h1
  exact ⟨a, h2, fun σ hx => by rw [vload_x h.sl (by rw [h1]; simp) false 1 hx, h1, wrap1_one]⟩
end Go.Vm
namespace Go.Proofs.Ytggeadnjikpjnaa
open Go Go.Vm
set_option linter.unusedVariables false
set_option linter.unusedSimpArgs false
theorem fn_new {g : Vm.Id} {nt : Nat} {res : List Res} {body : CC} {args : List AV} {s : St} {b : Vm.Id} {G : Fx} {X : SV} (hg : g.get (Vm.prog Go.Proofs.Try.prog) = .mk nt res body ∧ g.get BT = noB) (h : args.length ≤ nt)
    (hw : W CA body (fun f t => Rs (fun r0 s0 => r0 = .ptr b 0 ∧ Sol s s0 b G X) res f t) (fun _ _ _ => False) (fun f t => Rs (fun r0 s0 => r0 = .ptr b 0 ∧ Sol s s0 b G X) res f t) (frame0 args) (Sx s [])) : ∃ s', CA g args s = .ok (.ptr b 0) s' ∧ Sol s s' b G X := by
  obtain ⟨N, hN⟩ := WF_S h hw
  cases he : evF CA N (.mk nt res body) args s with
  | no => rw [he] at hN; exact hN.elim
  | ok r0 s0 =>
    rw [he] at hN
    obtain ⟨rfl, hQ⟩ : r0 = .ptr b 0 ∧ Sol s s0 b G X := hN
    refine ⟨s0, cc_intro (by rw [hg.1]; exact he) (.inr ⟨.inr fun r1 hf => ?_, rfl, rfl⟩) hg.2, hQ⟩
    obtain ⟨tv, sv, lv, es, hQ⟩ := hQ
    cases hf with
    | ptrO _ _ hb => have := hQ.bge; omega
    | ptrN _ _ cs l hb hc hl hr =>
      rw [hQ.ob] at hc
      injection hc with hc
      rw [← hc] at hl hr
      have h7 : (7 : Nat) < l.length := by rw [hl]; simp [solC]
      have := hr 7 (.map G.m) l[7] rfl (List.getElem?_eq_getElem h7)
      generalize l[7] = q at this
      cases this with
      | mapO _ hm => have := (hQ.ge G.m (by simp [foot])).1; omega
theorem new_ok (s : St) (hr : Room s) {v : AV} {l : List (List Int)} (hv : Rows2 s v l) (hi : ∀ c ∈ l, I64 c) {n : Nat} (hn : n ≤ 1000) (hl : l.length ≤ 1000) (hc : ∀ c ∈ l, c.length ≤ 1000) : ∃ b G s', CA F.sat_New [.int .i64 (n : Int), v] s = .ok (.ptr b 0) s' ∧ Sol s s' b G (newX n l) := by
  refine ⟨nm s 1, ⟨nm s 7, nm s 10, nm s 13, nm s 0⟩, ?_⟩
  have e0 : max (n : Int) 0 = (n : Int) := by omega
  have e1 : IntKind.wrap .i64 ((n : Int) + 1) = ((n + 1 : Nat) : Int) := by rw [wrap_i64 (by omega) (by omega)]; omega
  have m1 : ∀ {b : Vm.Id}, vmksl 1 [.int .i8 0] (.int .i64 ((n + 1 : Nat) : Int)) (.int .i64 ((n + 1 : Nat) : Int)) (.mk (.rep .dead) b) = _ := fun {b} => al_mksl (b := b) (Nat.le_refl _) (by unfold limit; omega) (by unfold limit; omega)
  have m2 : ∀ {b : Vm.Id}, vmksl 8 [.int .i64 0] (.int .i64 ((n + 1 : Nat) : Int)) (.int .i64 ((n + 1 : Nat) : Int)) (.mk (.rep .dead) b) = _ := fun {b} => al_mksl (b := b) (Nat.le_refl _) (by unfold limit; omega) (by unfold limit; omega)
  refine fn_new code_sat_New (by simp) ?_
  simp only [go_sem, ↓reduceIte, Nat.reduceMod, Nat.reduceEqDiff, Nat.reduceAdd, Nat.reduceMul, Nat.reduceSub, Nat.reduceLeDiff, Nat.reduceLT, Int.reduceEq, Int.reduceLT, Int.reduceLE, Int.reduceAdd, Int.reduceSub, Int.reduceNeg, reduceCtorEq, Nat.reduceShiftRight, Nat.reduceAnd, Nat.reduceBNe, hr, e0, Sx_mkmap, one_mapv]
  refine W_drawn hr _ (by simp) ?_
  simp only [go_sem, ↓reduceIte, Nat.reduceMod, Nat.reduceEqDiff, Nat.reduceAdd, Nat.reduceMul, Nat.reduceSub, Nat.reduceLeDiff, Nat.reduceLT, Int.reduceEq, Int.reduceLT, Int.reduceLE, Int.reduceAdd, Int.reduceSub, Int.reduceNeg, reduceCtorEq, Nat.reduceShiftRight, Nat.reduceAnd, Nat.reduceBNe, hr, e1, m1, m2]
  obtain ⟨L, hL⟩ : ∃ L : List AO, L = [.map [], .cells (solC ⟨nm s 7, nm s 10, nm s 13, nm s 0⟩ .nils .nils .nils (X0 n)), .dead, .dead, .dead, .dead, .dead, .cells (List.replicate (n + 1) (.int .i8 0)), .dead, .dead, .cells (List.replicate (n + 1) (.int .i64 0)), .dead, .dead, .cells (List.replicate (n + 1) (.int .i64 0)), .dead, .dead, .dead, .dead, .dead, .dead, .dead, .dead, .dead, .dead, .dead, .dead] := ⟨_, rfl⟩
  rw [show (Sx s [.map [], _, .dead, .dead, .dead, .dead, .dead, _, .dead, .dead, _, .dead, .dead, _, .dead, .dead, .dead, .dead, .dead, .dead, .dead, .dead, .dead, .dead, .dead, .dead]) = Sx s L by rw [hL]; rfl]
  have lL : L.length = 26 := by rw [hL]; rfl
  have nL := Sx_n (s := s) (l := L) hr (by omega)
  have q0 := nm_val hr (k := 0) (by omega)
  have q1 := nm_val hr (k := 1) (by omega)
  have q7 := nm_val hr (k := 7) (by omega)
  have q10 := nm_val hr (k := 10) (by omega)
  have q13 := nm_val hr (k := 13) (by omega)
  have ne : ∀ {i j : Nat}, i ≤ 5000 → j ≤ 5000 → i ≠ j → nm s i ≠ nm s j := fun hi hj h e => by
    have := congrArg Id.val e
    rw [nm_val hr hi, nm_val hr hj] at this; omega
  have h0 : Sol0 s (Sx s L) (nm s 1) ⟨nm s 7, nm s 10, nm s 13, nm s 0⟩ .nils .nils .nils [] (X0 n) := by
    refine ⟨hr.sx (by omega), ext_Sx hr (by omega), Sx_obj? hr (by omega) (by rw [hL]; rfl), ?_, ?_, ?_, Sx_obj? hr (by omega) (by rw [hL]; rfl), .nils, .nils, .nils, trivial, ?_, fun i hi => ?_, by simp [X0], by simp [X0], by simp [X0], fun v hv => by have := List.eq_of_mem_replicate hv; omega⟩
    · rw [Sx_obj? hr (by omega) (i := 7) (o := .cells (List.replicate (n + 1) (.int .i8 0))) (by rw [hL]; rfl)]; simp [X0]
    · rw [Sx_obj? hr (by omega) (i := 10) (o := .cells (List.replicate (n + 1) (.int .i64 0))) (by rw [hL]; rfl)]; simp [X0]
    · rw [Sx_obj? hr (by omega) (i := 13) (o := .cells (List.replicate (n + 1) (.int .i64 0))) (by rw [hL]; rfl)]; simp [X0]
    · simp only [foot, ids, eids, AV.onSl, List.flatMap_nil, List.append_nil, List.nodup_cons, List.mem_cons, List.not_mem_nil, or_false, not_or, not_false_eq_true, List.nodup_nil, and_true]
      exact ⟨⟨ne (by omega) (by omega) (by omega), ne (by omega) (by omega) (by omega), ne (by omega) (by omega) (by omega), ne (by omega) (by omega) (by omega)⟩, ⟨ne (by omega) (by omega) (by omega), ne (by omega) (by omega) (by omega), ne (by omega) (by omega) (by omega)⟩, ⟨ne (by omega) (by omega) (by omega), ne (by omega) (by omega) (by omega)⟩, ne (by omega) (by omega) (by omega)⟩
    · simp only [foot, ids, eids, AV.onSl, List.flatMap_nil, List.append_nil, List.mem_cons, List.not_mem_nil, or_false] at hi
      rcases hi with rfl | rfl | rfl | rfl | rfl <;> omega
  generalize Sx s L = τ0 at *
  have hv0 := hv.x h0.ext
  simp only [go_sem, ↓reduceIte, Nat.reduceMod, Nat.reduceEqDiff, Nat.reduceAdd, Nat.reduceMul, Nat.reduceSub, Nat.reduceLeDiff, Nat.reduceLT, Int.reduceEq, Int.reduceLT, Int.reduceLE, Int.reduceAdd, Int.reduceSub, Int.reduceNeg, reduceCtorEq, Nat.reduceShiftRight, Nat.reduceAnd, Nat.reduceBNe, hv0.vlen]
  refine W_inv (fun k f τ => ∃ (i : Nat), k = l.length - i ∧ i ≤ l.length ∧ Sol s τ (nm s 1) ⟨nm s 7, nm s 10, nm s 13, nm s 0⟩ (newX n (l.take i)) ∧ (vv 5).get f = .ptr (nm s 1) 0 ∧ (vv 35).get f = v ∧ (vv 36).get f = .int .i64 (l.length : Int) ∧ (vv 37).get f = .int .i64 (i : Int)) ?_ ⟨0, rfl, by omega, ⟨_, _, _, _, h0⟩, ?_⟩
  · rintro k f τ ⟨i, rfl, hile, ⟨tv1, sv1, lv1, es1, h1⟩, g5, g35, g36, g37⟩
    have hv1 := hv.x h1.ext
    by_cases c1 : i < l.length
    · obtain ⟨sm, st, sn⟩ := newX_sm n hn (l.take i) (by rw [List.length_take]; omega) fun c hc' => hc c (List.mem_of_mem_take hc')
      have et : l.take (i + 1) = l.take i ++ [l[i]] := (List.take_append_getElem c1).symm
      obtain ⟨a, ha, hld⟩ := hv1.at c1
      have hmem := List.getElem_mem c1
      obtain ⟨τ1, w1, w2⟩ := add_ok h1 ha (hi _ hmem) st (knownL_in _ _) sm (by have := hc _ hmem; omega)
      simp only [go_sem, ↓reduceIte, Nat.reduceMod, Nat.reduceEqDiff, Nat.reduceAdd, Nat.reduceMul, Nat.reduceSub, Nat.reduceLeDiff, Nat.reduceLT, Int.reduceEq, Int.reduceLT, Int.reduceLE, Int.reduceAdd, Int.reduceSub, Int.reduceNeg, reduceCtorEq, Nat.reduceShiftRight, Nat.reduceAnd, Nat.reduceBNe, g5, g35, g36, g37, Int.ofNat_lt, c1, hv1.ia c1, hld, ext_self, w1]
      refine ⟨l.length - (i + 1), by omega, i + 1, rfl, by omega, by rw [et, newX_snoc]; exact w2, ?_⟩
      rw [wrap_i64 (by omega) (by omega)]; simp
    · have e : i = l.length := by omega
      subst e
      rw [List.take_length] at h1
      simp only [go_sem, ↓reduceIte, Nat.reduceMod, Nat.reduceEqDiff, Nat.reduceAdd, Nat.reduceMul, Nat.reduceSub, Nat.reduceLeDiff, Nat.reduceLT, Int.reduceEq, Int.reduceLT, Int.reduceLE, Int.reduceAdd, Int.reduceSub, Int.reduceNeg, reduceCtorEq, Nat.reduceShiftRight, Nat.reduceAnd, Nat.reduceBNe, g5, g35, g36, g37, Int.ofNat_lt, c1]
      exact ⟨_, _, _, _, h1⟩
  · simp only [go_sem, ↓reduceIte, Nat.reduceMod, Nat.reduceEqDiff, Nat.reduceAdd, Nat.reduceMul, Nat.reduceSub, Nat.reduceLeDiff, Nat.reduceLT, Int.reduceEq, Int.reduceLT, Int.reduceLE, Int.reduceAdd, Int.reduceSub, Int.reduceNeg, reduceCtorEq, Nat.reduceShiftRight, Nat.reduceAnd, Nat.reduceBNe]
    simp
end Go.Proofs.Ytggeadnjikpjnaa
