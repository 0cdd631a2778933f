/- Functions of the program: more. No condition. -/
import Derived.Test.YtjnejkganejdbaaGreatLibG
namespace Go.Vm
theorem f5_0 (a b c d e : AV) : (vv 0).get (frame0 [a, b, c, d, e]) = a := nd rfl
theorem f5_1 (a b c d e : AV) : (vv 1).get (frame0 [a, b, c, d, e]) = b := nd rfl
theorem f5_2 (a b c d e : AV) : (vv 2).get (frame0 [a, b, c, d, e]) = c := nd rfl
theorem f5_3 (a b c d e : AV) : (vv 3).get (frame0 [a, b, c, d, e]) = d := nd rfl
theorem f5_4 (a b c d e : AV) : (vv 4).get (frame0 [a, b, c, d, e]) = e := nd rfl
attribute [go_sem] f5_0 f5_1 f5_2 f5_3 f5_4
end Go.Vm
namespace Go.Proofs.YtjnejkganejdbaaGreat
open Go Go.Vm
set_option linter.unusedVariables false
set_option linter.unusedSimpArgs false
theorem known_ok (s : St) : CA F.law10_known [] s = .ok (.bool true) s := by
  refine cc_ok.mpr (.base _ _ _ _ _ ?_)
  have e : F.law10_known.get BT = true_B := by kernel_rfl
  rw [e]; rfl
theorem makeT_size (op : Int) (l : List T) : (makeT op l).size ≤ 1 + T.sizes l := by
  unfold makeT; split
  · rw [T.size_kids]; exact Nat.le_refl _
  · show 1 + 0 ≤ _; omega
theorem appT_size (g : Sg) (l : List T) : (appT g l).size ≤ 1 + T.sizes l := by
  unfold appT; split
  · rw [T.size_kids]; exact Nat.le_refl _
  · show 1 + 0 ≤ _; omega
theorem zeroT_tame : zeroT.tame := ⟨by simp, by simp, trivial⟩
theorem makeT_tame {op : Int} {l : List T} (h : T.tames l) : (makeT op l).tame := by
  unfold makeT; split
  · exact ⟨by simp, by simp, h⟩
  · exact zeroT_tame
theorem appT_tame {g : Sg} {l : List T} (hg : g.name.length ≤ 1000) (h : T.tames l) : (appT g l).tame := by
  unfold appT; split
  · exact ⟨by simp, hg, h⟩
  · exact zeroT_tame
theorem ext_more {s : St} {l m : List AO} (hr : Room s) (hl : l.length ≤ 5000) (hm : m.length ≤ 5000) (h : l <+: m) : Ext (Sx s l) (Sx s m) := by
  obtain ⟨t, rfl⟩ := h
  rw [List.length_append] at hm
  have h1 := Sx_n (s := s) (l := l) hr hl
  have h2 := Sx_n (s := s) (l := l ++ t) hr (by rw [List.length_append]; exact hm)
  have hR := hr.n
  refine ⟨by rw [h1, h2, List.length_append]; omega, fun b hb => ?_⟩
  show (List.foldl St.push s (l ++ t)).obj b = (List.foldl St.push s l).obj b
  rw [foldl_obj _ s (by rw [List.length_append]; omega), foldl_obj _ s (by omega)]
  rw [h1] at hb
  by_cases c1 : b.val < s.n.val
  · rw [if_pos c1, if_pos c1]
  · rw [if_neg c1, if_neg c1, dif_pos (by rw [List.length_append]; omega), dif_pos (by omega), List.getElem_append_left]
theorem TermMakes_ok (s : St) (op : Int) (g : Sg) (av v n m : AV) (l : List T) (z : Z) (b : Bool) (hr : Room s) (hn : s.n.val ≤ 1000) (hgn : g.name.length ≤ 140737488355328) (ha : Ints s av g.args) (hv : Ts s v l) (hz : RZ s n m z) :
    CA F.law10_TermMakes [.int .i64 op, .agg [.str g.name, av, .int .i64 g.ret], v, .agg [n, m], .bool b] s = .ok (.bool true) s := by
  obtain ⟨L0, hL0⟩ : ∃ L : List AO, L = [.cells [.str g.name, av, .int .i64 g.ret], .cells [n, m]] := ⟨_, rfl⟩
  have hl0 : L0.length = 2 := by rw [hL0]; rfl
  have hx0 := ext_Sx (s := s) (l := L0) hr (by omega)
  have hr0 := hr.Sx (l := L0) (by omega) (by omega)
  have hn0 := Sx_n (s := s) (l := L0) hr (by omega)
  have fk := fun t => known_ok (Sx s t)
  have fg := fewSig_ok (Sx s L0) g av hr0 (ha.x hx0)
  have ft := fewTerms_ok (Sx s L0) v l hr0 (by omega) (hv.x hx0)
  rw [hL0] at fg ft
  cases d1 : fewG g
  · refine fn_of code_law10_TermMakes (by simp) ?_
    simp only [go_sem, ↓reduceIte, Nat.reduceMod, Nat.reduceEqDiff, Nat.reduceAdd, Nat.reduceMul, Nat.reduceSub, Nat.reduceLeDiff, Nat.reduceLT, Int.reduceEq, Int.reduceLT, Int.reduceLE, Int.reduceAdd, Int.reduceSub, Int.reduceNeg, reduceCtorEq, Nat.reduceShiftRight, Nat.reduceAnd, Nat.reduceBNe, hr, fk, Bool.not_true, fg, d1, Bool.not_false, ha.one]
    exact settled_bool (ext_Sx hr (by simp)) rfl
  cases d2 : fewTs l
  · refine fn_of code_law10_TermMakes (by simp) ?_
    simp only [go_sem, ↓reduceIte, Nat.reduceMod, Nat.reduceEqDiff, Nat.reduceAdd, Nat.reduceMul, Nat.reduceSub, Nat.reduceLeDiff, Nat.reduceLT, Int.reduceEq, Int.reduceLT, Int.reduceLE, Int.reduceAdd, Int.reduceSub, Int.reduceNeg, reduceCtorEq, Nat.reduceShiftRight, Nat.reduceAnd, Nat.reduceBNe, hr, fk, Bool.not_true, fg, d1, Bool.not_false, ft, d2]
    exact settled_bool (ext_Sx hr (by simp)) rfl
  by_cases d3 : 6 < (z.mag.length : Int)
  · refine fn_of code_law10_TermMakes (by simp) ?_
    simp only [go_sem, ↓reduceIte, Nat.reduceMod, Nat.reduceEqDiff, Nat.reduceAdd, Nat.reduceMul, Nat.reduceSub, Nat.reduceLeDiff, Nat.reduceLT, Int.reduceEq, Int.reduceLT, Int.reduceLE, Int.reduceAdd, Int.reduceSub, Int.reduceNeg, reduceCtorEq, Nat.reduceShiftRight, Nat.reduceAnd, Nat.reduceBNe, hr, fk, Bool.not_true, fg, d1, Bool.not_false, ft, d2, hz.mag.vlen, d3]
    exact settled_bool (ext_Sx hr (by simp)) rfl
  obtain ⟨htm, hll, hsz⟩ := fewTs_of d2
  have hgs : g.name.length ≤ 40 := by unfold fewG at d1; simp at d1; exact d1.1
  -- the four that are made
  obtain ⟨cs1, fm1, rm1⟩ := Make_ok (Sx s L0) v l op htm hr0 (by omega) (by omega) (hv.x hx0)
  have rm1' := rm1
  obtain ⟨a1, b1, e1, rfl, hz1, hk1⟩ := rm1'.ex
  obtain ⟨L1, hL1⟩ : ∃ L : List AO, L = [.cells [.str g.name, av, .int .i64 g.ret], .cells [n, m], .cells [.int .i64 (makeT op l).op, a1, b1, .str (makeT op l).name, .int .i64 (makeT op l).sort, e1]] := ⟨_, rfl⟩
  have hl1 : L1.length = 3 := by rw [hL1]; rfl
  have hx1 := ext_Sx (s := s) (l := L1) hr (by omega)
  have hr1 := hr.Sx (l := L1) (by omega) (by omega)
  have hn1 := Sx_n (s := s) (l := L1) hr (by omega)
  obtain ⟨cs2, fm2, rm2⟩ := ref_Make_ok (Sx s L1) v l op htm hr1 (by omega) (by omega) (hv.x hx1)
  have rm2' := rm2
  obtain ⟨a2, b2, e2, rfl, hz2, hk2⟩ := rm2'.ex
  obtain ⟨L2, hL2⟩ : ∃ L : List AO, L = [.cells [.str g.name, av, .int .i64 g.ret], .cells [n, m], .cells [.int .i64 (makeT op l).op, a1, b1, .str (makeT op l).name, .int .i64 (makeT op l).sort, e1], .cells [.int .i64 (makeT op l).op, a2, b2, .str (makeT op l).name, .int .i64 (makeT op l).sort, e2]] := ⟨_, rfl⟩
  have hl2 : L2.length = 4 := by rw [hL2]; rfl
  have hx2 := ext_Sx (s := s) (l := L2) hr (by omega)
  have hr2 := hr.Sx (l := L2) (by omega) (by omega)
  have hn2 := Sx_n (s := s) (l := L2) hr (by omega)
  obtain ⟨cs3, fm3, rm3⟩ := App_ok (Sx s L2) v av l g htm hr2 (by omega) (by omega) (hv.x hx2) (ha.x hx2)
  have rm3' := rm3
  obtain ⟨a3, b3, e3, rfl, hz3, hk3⟩ := rm3'.ex
  obtain ⟨L3, hL3⟩ : ∃ L : List AO, L = [.cells [.str g.name, av, .int .i64 g.ret], .cells [n, m], .cells [.int .i64 (makeT op l).op, a1, b1, .str (makeT op l).name, .int .i64 (makeT op l).sort, e1], .cells [.int .i64 (makeT op l).op, a2, b2, .str (makeT op l).name, .int .i64 (makeT op l).sort, e2], .cells [.int .i64 (appT g l).op, a3, b3, .str (appT g l).name, .int .i64 (appT g l).sort, e3]] := ⟨_, rfl⟩
  have hl3 : L3.length = 5 := by rw [hL3]; rfl
  have hx3 := ext_Sx (s := s) (l := L3) hr (by omega)
  have hr3 := hr.Sx (l := L3) (by omega) (by omega)
  have hn3 := Sx_n (s := s) (l := L3) hr (by omega)
  obtain ⟨cs4, fm4, rm4⟩ := ref_App_ok (Sx s L3) v av l g htm hr3 (by omega) (by omega) hgn (hv.x hx3) (ha.x hx3)
  have rm4' := rm4
  obtain ⟨a4, b4, e4, rfl, hz4, hk4⟩ := rm4'.ex
  obtain ⟨L5, hL5⟩ : ∃ L : List AO, L = .cells [.str g.name, av, .int .i64 g.ret] :: .cells [n, m] :: .cells [.int .i64 (makeT op l).op, a1, b1, .str (makeT op l).name, .int .i64 (makeT op l).sort, e1] :: .cells [.int .i64 (makeT op l).op, a2, b2, .str (makeT op l).name, .int .i64 (makeT op l).sort, e2] :: .cells [.int .i64 (appT g l).op, a3, b3, .str (appT g l).name, .int .i64 (appT g l).sort, e3] :: .cells [.int .i64 (appT g l).op, a4, b4, .str (appT g l).name, .int .i64 (appT g l).sort, e4] :: .dead :: .dead :: .dead :: .dead :: .dead :: .dead :: .dead :: .dead :: .dead :: .dead :: .dead :: .dead :: .dead :: .dead :: .dead :: .dead :: .dead :: .dead :: .dead :: .dead :: .dead :: .dead :: .dead :: .dead :: .dead :: .dead :: .dead :: .dead :: .dead :: .dead :: .dead :: .dead :: .dead :: .dead :: .dead :: .dead :: .dead :: .dead :: .dead :: .dead :: [] := ⟨_, rfl⟩
  have hl5 : L5.length = 46 := by rw [hL5]; rfl
  have hx5 := ext_Sx (s := s) (l := L5) hr (by omega)
  have hr5 := hr.Sx (l := L5) (by omega) (by omega)
  have hn5 := Sx_n (s := s) (l := L5) hr (by omega)
  have hx05 : Ext (Sx s L0) (Sx s L5) := ext_more hr (by omega) (by omega) (by rw [hL0, hL5]; exact ⟨_, rfl⟩)
  have hx15 : Ext (Sx s L1) (Sx s L5) := ext_more hr (by omega) (by omega) (by rw [hL1, hL5]; exact ⟨_, rfl⟩)
  have hx25 : Ext (Sx s L2) (Sx s L5) := ext_more hr (by omega) (by omega) (by rw [hL2, hL5]; exact ⟨_, rfl⟩)
  have hx35 : Ext (Sx s L3) (Sx s L5) := ext_more hr (by omega) (by omega) (by rw [hL3, hL5]; exact ⟨_, rfl⟩)
  have sz1 := makeT_size op l
  have sz2 := appT_size g l
  have fs1 := same_ok _ (makeT op l) (makeT op l) (Nat.le_refl _) (makeT_tame htm) (Sx s L5) _ _ hr5 (by omega) (rm1.x hx05) (rm2.x hx15)
  have fs2 := same_ok _ (appT g l) (appT g l) (Nat.le_refl _) (appT_tame (by omega) htm) (Sx s L5) _ _ hr5 (by omega) (rm3.x hx25) (rm4.x hx35)
  have fi1 := IsSig_ok (Sx s L5) g av hr5 (by omega) (ha.x hx5)
  have fi2 := ref_IsSig_ok (Sx s L5) g av hr5 (by omega) hgn (ha.x hx5)
  obtain ⟨cs5, fn1, rn1⟩ := Num_ok (Sx s L5) n m z hr5 (by omega) (by omega) (hz.x hx5)
  have rn1' := rn1 (Sx s L5)
  obtain ⟨a5, b5, e5, rfl, hz5, hk5⟩ := rn1'.ex
  have fn2 := ref_Num_ok (Sx s L5) n m z hr5 (by omega) (hz.x hx5)
  have rn2 := num_rep (zh_rep (hz.x hx5))
  have fs3 := same_ok 1 (numT z) (numT z) (Nat.le_refl _) ⟨by show (zh z).mag.length ≤ _; have := zh_len z; omega, by show (0 : Nat) ≤ _; omega, trivial⟩ (Sx s L5) _ _ hr5 (by show _ + 14 * 1 + 9000 ≤ _; omega) (rn1 _) rn2
  have fb1 := Bool_ok (Sx s L5) b hr5
  have fb2 := ref_Bool_ok (Sx s L5) b hr5
  have fs4 := same_ok 1 (boolT b) (boolT b) (Nat.le_refl _) ⟨by show (0 : Nat) ≤ _; omega, by show (0 : Nat) ≤ _; omega, trivial⟩ (Sx s L5) _ _ hr5 (by show _ + 14 * 1 + 9000 ≤ _; omega) (bool_rep _ b) (bool_rep _ b)
  rw [sameT_self _ _ (Nat.le_refl _)] at fs1 fs2
  rw [sameT_self 1 _ (Nat.le_refl _)] at fs3 fs4
  rw [hL0] at fm1
  rw [hL1] at fm2
  rw [hL2] at fm3
  rw [hL3] at fm4
  rw [hL5] at fs1 fs2 fi1 fi2 fn1 fn2 fs3 fb1 fb2 fs4
  refine fn_of code_law10_TermMakes (by simp) ?_
  simp only [go_sem, ↓reduceIte, Nat.reduceMod, Nat.reduceEqDiff, Nat.reduceAdd, Nat.reduceMul, Nat.reduceSub, Nat.reduceLeDiff, Nat.reduceLT, Int.reduceEq, Int.reduceLT, Int.reduceLE, Int.reduceAdd, Int.reduceSub, Int.reduceNeg, reduceCtorEq, Nat.reduceShiftRight, Nat.reduceAnd, Nat.reduceBNe, hr, fk, Bool.not_true, fg, d1, ft, d2, hz.mag.vlen, d3, ha.one, fm1, fm2, fm3, fm4, hz.one, hz1.one, hz2.one, hz3.one, hz4.one, hk1.one, hk2.one, hk3.one, hk4.one]
  refine W_drawn hr _ (by simp) ?_
  simp only [go_sem, ↓reduceIte, Nat.reduceMod, Nat.reduceEqDiff, Nat.reduceAdd, Nat.reduceMul, Nat.reduceSub, Nat.reduceLeDiff, Nat.reduceLT, Int.reduceEq, Int.reduceLT, Int.reduceLE, Int.reduceAdd, Int.reduceSub, Int.reduceNeg, reduceCtorEq, Nat.reduceShiftRight, Nat.reduceAnd, Nat.reduceBNe, hr, fs1, fs2, fi1, fi2, fn1, fn2, fs3, fb1, fb2, fs4]
  exact settled_bool (ext_Sx hr (by simp)) rfl
end Go.Proofs.YtjnejkganejdbaaGreat
