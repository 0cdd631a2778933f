/- Functions of the program: terms made, compared; sums. No condition. -/
import Derived.Test.YtfndnjmnakdglaaGreatDoorLibD
import Derived.Test.YtfndnjmnakdglaaGreatDoorLibB
import Derived.Test.YtfndnjmnakdglaaGreatDoorVmW
namespace Go.Proofs.YtfndnjmnakdglaaGreatDoor
open Go Go.Vm
variable [Tel]
set_option linter.unusedSectionVars false
set_option linter.unusedVariables false
set_option linter.unusedSimpArgs false
theorem rt6_ov {s : St} {cs : List AV} {t : T} (h : RT6 s cs t) : ∀ c ∈ cs, Ov s.n.val c := by
  obtain ⟨ng, mg, kv, rfl, hz, hk⟩ := h.ex
  intro c hc
  simp only [List.mem_cons, List.not_mem_nil, or_false] at hc
  rcases hc with rfl | rfl | rfl | rfl | rfl | rfl
  · exact ov_int _ _ _
  · exact hz.ov.1
  · exact hz.ov.2
  · exact ov_str _ _
  · exact ov_int _ _ _
  · exact hk.sl.ov
theorem ts_row6 {s : St} {v : AV} {l : List T} (h : Ts s v l) {j : Nat} (hj : j < l.length * 6) : ∃ c, (rowOf s v)[j]? = some c ∧ Ov s.n.val c := by
  have hi : j / 6 < l.length := by omega
  obtain ⟨cs, rest, h1, h2, h3⟩ := (h.el (j / 6) hi).t6
  have h4 : j % 6 < cs.length := by omega
  refine ⟨cs[j % 6], ?_, rt6_ov h3 _ (List.getElem_mem h4)⟩
  have := congrArg (fun l => l[j % 6]?) h1
  simp only [List.getElem?_drop] at this
  rw [show j / 6 * 6 + j % 6 = j by omega, List.getElem?_append_left h4, List.getElem?_eq_getElem h4] at this
  exact this
theorem ts_row_len {s : St} {v : AV} {l : List T} (h : Ts s v l) : l.length * 6 ≤ (rowOf s v).length := by
  rcases Nat.eq_zero_or_pos l.length with h0 | h0
  · omega
  · obtain ⟨c, hc, _⟩ := ts_row6 h (j := l.length * 6 - 1) (by omega)
    have := (List.getElem?_eq_some_iff.mp hc).1
    omega
theorem ts_row_ov {s : St} {v : AV} {l : List T} (h : Ts s v l) : ∀ c ∈ (rowOf s v).take (l.length * 6), Ov s.n.val c := by
  intro c hc
  obtain ⟨j, hj, rfl⟩ := List.getElem_of_mem hc
  rw [List.length_take] at hj
  obtain ⟨c, h1, h2⟩ := ts_row6 h (j := j) (by omega)
  rw [List.getElem?_eq_getElem (by omega)] at h1
  rw [List.getElem_take]
  cases h1
  exact h2
theorem ts_rows {s : St} {v : AV} {l : List T} (h : Ts s v l) (cap : Nat) (ex : Bool) : Ts s (.ts ((rowOf s v).take (l.length * 6)) l.length cap ex) l := by
  refine ⟨.ts _ _ _ _ h.most (ts_row_ov h), rfl, fun i hi => ?_⟩
  obtain ⟨cs, rest, h1, h2, h3⟩ := (h.el i hi).t6
  show RT s (((rowOf s v).take (l.length * 6)).drop (i * 6)) l[i]
  rw [List.drop_take, h1, List.take_append, List.take_of_length_le (by omega)]
  exact h3.rt _
theorem ts_nil (s : St) : Ts s .nils [] := ⟨.nils, rfl, fun i h => by simp at h⟩
structure _root_.Go.Vm.Rows6 (s : St) (row : List AV) (l : List T) : Prop where
  el : ∀ i (h : i < l.length), RT s (row.drop (i * 6)) l[i]
  ov : ∀ c ∈ row, Ov s.n.val c
theorem _root_.Go.Vm.Rows6.ts {s : St} {row : List AV} {l : List T} (h : Rows6 s row l) (hm : l.length ≤ limit) (cap : Nat) (ex : Bool) : Ts s (.ts row l.length cap ex) l := ⟨.ts _ _ _ _ hm h.ov, rfl, h.el⟩
theorem clone_ts_ok (s : St) (v : AV) (l : List T) (hl : l.length ≤ 1000000) (hv : Ts s v l) : ∃ r, Ts s r l ∧ (∀ s', Rows6 s' ((rowOf s v).take (l.length * 6)) l → Ts s' r l) ∧ ∀ σ, Ext s σ → Room σ → CA F.slices_Clone_api_Term_api_Term [v] σ = .ok r σ := by
  by_cases hn : v = .nils
  · subst hn
    refine ⟨.nils, hv, fun s' h => by rw [List.eq_nil_of_length_eq_zero (hv.len.symm : l.length = 0)]; exact ts_nil s', fun σ hxs hr => ?_⟩
    refine fn_of code_slices_Clone_api_Term_api_Term (by simp) ?_
    simp only [go_sem, ↓reduceIte, Nat.reduceMod, Nat.reduceEqDiff, Nat.reduceAdd, Nat.reduceMul, Nat.reduceSub, Nat.reduceLeDiff, Nat.reduceLT, Int.reduceEq, Int.reduceLT, Int.reduceLE, Int.reduceAdd, Int.reduceSub, Int.reduceNeg, reduceCtorEq, Nat.reduceShiftRight, Nat.reduceAnd, Nat.reduceBNe]
    exact settled_ov (Ext.refl σ) (ov_nils _)
  · by_cases h0 : lenOf v = 0
    · have hl0 : l = [] := List.eq_nil_of_length_eq_zero (by rw [← hv.len]; exact h0)
      subst hl0
      refine ⟨.ts [] 0 0 false, ⟨.ts _ _ _ _ (by simp) (by simp), rfl, fun i h => by simp at h⟩, fun s' _ => ⟨.ts _ _ _ _ (by simp) (by simp), rfl, fun i h => by simp at h⟩, fun σ hxs hr => ?_⟩
      have hv := hv.x hxs
      refine fn_of code_slices_Clone_api_Term_api_Term (by simp) ?_
      have hx := ext_Sx (s := σ) (l := [.cells []]) hr (by simp)
      simp only [go_sem, ↓reduceIte, Nat.reduceMod, Nat.reduceEqDiff, Nat.reduceAdd, Nat.reduceMul, Nat.reduceSub, Nat.reduceLeDiff, Nat.reduceLT, Int.reduceEq, Int.reduceLT, Int.reduceLE, Int.reduceAdd, Int.reduceSub, Int.reduceNeg, reduceCtorEq, Nat.reduceShiftRight, Nat.reduceAnd, Nat.reduceBNe, hr, vnileq_sl hv.sl hn, vapp_lit0 (i := 0) (L := [.cells []]) hr (by simp) rfl (hv.sl.ext hx) (by rw [rowOf_ext hx hv.sl, h0]; simp) h0]
      exact settled_fz hx (fz_own hr (by simp) rfl (by simp))
    · refine ⟨.ts ((rowOf s v).take (l.length * 6)) l.length l.length false, ts_rows hv _ _, fun s' h => h.ts (by unfold limit; omega) _ _, fun σ hxs hr => ?_⟩
      rw [← rowOf_ext hxs hv.sl]
      have hv := hv.x hxs
      refine fn_of code_slices_Clone_api_Term_api_Term (by simp) ?_
      have hx := ext_Sx (s := σ) (l := [.cells []]) hr (by simp)
      have hrow := ts_row_len hv
      simp only [go_sem, ↓reduceIte, Nat.reduceMod, Nat.reduceEqDiff, Nat.reduceAdd, Nat.reduceMul, Nat.reduceSub, Nat.reduceLeDiff, Nat.reduceLT, Int.reduceEq, Int.reduceLT, Int.reduceLE, Int.reduceAdd, Int.reduceSub, Int.reduceNeg, reduceCtorEq, Nat.reduceShiftRight, Nat.reduceAnd, Nat.reduceBNe, hr, vnileq_sl hv.sl hn, vapp_lit (sz := 6) (bytes := 88) (i := 0) (L := [.cells []]) hr (by simp) rfl (hv.sl.ext hx) (by rw [rowOf_ext hx hv.sl, hv.len]; omega) (by rw [hv.len]; unfold limit; omega) h0, rowOf_ext hx hv.sl, hv.len]
      have hf := fz_own (s := σ) (L := [.cells [], .cells ((rowOf σ v).take (l.length * 6))]) hr (by simp) (i := 1) (o := 0) (len := l.length) (cap := l.length) (ex := 6) rfl (ts_row_ov hv)
      exact settled_fz (ext_Sx hr (by simp)) hf
def zeroT : T := .mk 0 ⟨false, []⟩ [] 0 []
abbrev zeroC : List AV := [.int .i64 0, .bool false, .nils, .str [], .int .i64 0, .nils]
theorem zero_rep (s : St) : RT6 s zeroC zeroT := ⟨.bool false, .nils, .nils, rfl, ⟨rfl, nats_nil s⟩, ts_nil s⟩
theorem ov_res {n : Nat} {cs : List AV} (h : ∀ c ∈ cs, Ov n c) (e : Int) : Ov n (.tup [.agg cs, .int .i64 e]) := ov_tup (by intro c hc; simp at hc; rcases hc with rfl | rfl; exact ov_agg h; exact ov_int _ _ _)
theorem small_ok (s : St) (cs : List AV) (t : T) (hr : Room s) (hn : s.n.val ≤ 1000050000) (h : RT6 s cs t) : CA F.term_small [.agg cs] s = .ok (.tup [.agg (if 400 < t.size then zeroC else cs), .int .i64 (if 400 < t.size then 11 else 0)]) s := by
  have h' := h
  obtain ⟨ng, mg, kv, rfl, hz, hk⟩ := h.ex
  obtain ⟨L, hL⟩ : ∃ L : List AO, L = [.cells [.int .i64 t.op, ng, mg, .str t.name, .int .i64 t.sort, kv], .cells zeroC] := ⟨_, rfl⟩
  have hlen : L.length = 2 := by rw [hL]; rfl
  have hx1 := ext_Sx (s := s) (l := L) hr (by omega)
  have hr1 := hr.Sx (l := L) (by omega) (by omega)
  have hn1 := Sx_n (s := s) (l := L) hr (by omega)
  have f1 := Count_ok (Sx s L) _ t hr1 (by omega) (h'.x hx1)
  rw [hL] at f1
  refine fn_of code_term_small (by simp) ?_
  by_cases c : 400 < t.size
  · have c' : (400 : Int) < min 401 (t.size : Int) := by omega
    rw [if_pos c, if_pos c]
    simp only [go_sem, ↓reduceIte, Nat.reduceMod, Nat.reduceEqDiff, Nat.reduceAdd, Nat.reduceMul, Nat.reduceSub, Nat.reduceLeDiff, Nat.reduceLT, Int.reduceEq, Int.reduceLT, Int.reduceLE, Int.reduceAdd, Int.reduceSub, Int.reduceNeg, reduceCtorEq, Nat.reduceShiftRight, Nat.reduceAnd, Nat.reduceBNe, hr, f1, c']
    exact settled_ov (ext_Sx hr (by simp)) (ov_res (rt6_ov (zero_rep s)) 11)
  · have c' : ¬ (400 : Int) < min 401 (t.size : Int) := by omega
    rw [if_neg c, if_neg c]
    simp only [go_sem, ↓reduceIte, Nat.reduceMod, Nat.reduceEqDiff, Nat.reduceAdd, Nat.reduceMul, Nat.reduceSub, Nat.reduceLeDiff, Nat.reduceLT, Int.reduceEq, Int.reduceLT, Int.reduceLE, Int.reduceAdd, Int.reduceSub, Int.reduceNeg, reduceCtorEq, Nat.reduceShiftRight, Nat.reduceAnd, Nat.reduceBNe, hr, f1, c', hz.one, hk.one]
    exact settled_ov (ext_Sx hr (by simp)) (ov_res (rt6_ov h') 0)
end Go.Proofs.YtfndnjmnakdglaaGreatDoor
namespace Go.Proofs.YtfndnjmnakdglaaGreatDoor
open Go Go.Vm
variable [Tel]
set_option linter.unusedSectionVars false
set_option linter.unusedVariables false
set_option linter.unusedSimpArgs false
def makeE (op : Int) (l : List T) : Int :=
  if madeB op = false then 10 else if kidsOk op l.length = false then 18 else if l.all isT = false then 10 else checkE op l
def makeT (op : Int) (l : List T) : T := if makeE op l = 0 then .mk op ⟨false, []⟩ [] (resSort op l) l else zeroT
theorem check_le {op : Int} {l : List T} : checkE op l = if wrongE op l ≠ 0 then wrongE op l else if 400 < 1 + T.sizes l then 11 else 0 := by
  unfold checkE
  by_cases h : 400 < 1 + T.sizes l
  · rw [if_pos h, if_pos (by omega : 400 < min (1 + T.sizes l) 401)]
  · rw [if_neg h, if_neg (by omega : ¬ 400 < min (1 + T.sizes l) 401)]
theorem made_rep {s : St} {v : AV} {l : List T} (op srt : Int) (hv : Ts s v l) : RT6 s [.int .i64 op, .bool false, .nils, .str [], .int .i64 srt, v] (.mk op ⟨false, []⟩ [] srt l) :=
  ⟨.bool false, .nils, v, rfl, ⟨rfl, nats_nil s⟩, hv⟩
theorem Make_ok2 (s : St) (v : AV) (l : List T) (op : Int) (ht : T.tames l) (hr : Room s) (hn : s.n.val ≤ 1000030000) (hl : l.length ≤ 1000) (hv : Ts s v l) :
    ∃ cs, CA F.term_Make [.int .i64 op, v] s = .ok (.tup [.agg cs, .int .i64 (makeE op l)]) s ∧ ∀ s', Rows6 s' ((rowOf s v).take (l.length * 6)) l → RT6 s' cs (makeT op l) := by
  obtain ⟨L, hL⟩ : ∃ L : List AO, L = [.cells zeroC] := ⟨_, rfl⟩
  have hlen : L.length = 1 := by rw [hL]; rfl
  have hx1 := ext_Sx (s := s) (l := L) hr (by omega)
  have hr1 := hr.Sx (l := L) (by omega) (by omega)
  have hn1 := Sx_n (s := s) (l := L) hr (by omega)
  have f1 := made_ok (Sx s L) op
  have f2 := kids_ok (Sx s L) op l.length
  have f3 := all_ok (Sx s L) v l ht hr1 (by omega) (hv.x hx1)
  change _ = R.ok (.bool (madeB op)) _ at f1
  have hnb : ∀ i (h : i < l.length), NumB l[i] := fun i hi => numB_of (T.tame_at ht hi)
  have f4 := fun d3 : kidsOk op l.length = true => wrong_ok (Sx s L) v l op hr1 (by omega) (fun e => kids12 (by rw [← e]; exact d3)) (fun _ => kids1 d3) (fun ho => kids2 ho d3) hnb (hv.x hx1)
  have f5 := fun d3 : kidsOk op l.length = true => sort_ok (Sx s L) v l op (fun e => by have := kids12 (l := l) (by rw [← e]; exact d3); omega) (hv.x hx1)
  obtain ⟨r, hrs, hrs2, f6'⟩ := clone_ts_ok s v l (by omega) hv
  have f6 := f6' (Sx s L) hx1 hr1
  have hrt := hrs.x hx1
  have f7 := fun srt => small_ok (Sx s L) _ _ hr1 (by omega) (made_rep op srt hrt)
  rw [hL] at f1 f2 f3 f6
  cases d1 : madeB op
  · have e : makeE op l = 10 := by unfold makeE; rw [if_pos d1]
    refine ⟨zeroC, ?_, fun s' _ => by unfold makeT; rw [e]; exact zero_rep s'⟩
    rw [e]
    refine fn_of code_term_Make (by simp) ?_
    simp only [go_sem, ↓reduceIte, Nat.reduceMod, Nat.reduceEqDiff, Nat.reduceAdd, Nat.reduceMul, Nat.reduceSub, Nat.reduceLeDiff, Nat.reduceLT, Int.reduceEq, Int.reduceLT, Int.reduceLE, Int.reduceAdd, Int.reduceSub, Int.reduceNeg, reduceCtorEq, Nat.reduceShiftRight, Nat.reduceAnd, Nat.reduceBNe, hr, f1, d1, Bool.not_false]
    exact settled_ov (ext_Sx hr (by simp)) (ov_res (rt6_ov (zero_rep s)) 10)
  cases d2 : kidsOk op l.length
  · have e : makeE op l = 18 := by unfold makeE; rw [if_neg (by simp [d1]), if_pos d2]
    refine ⟨zeroC, ?_, fun s' _ => by unfold makeT; rw [e]; exact zero_rep s'⟩
    rw [e]
    refine fn_of code_term_Make (by simp) ?_
    simp only [go_sem, ↓reduceIte, Nat.reduceMod, Nat.reduceEqDiff, Nat.reduceAdd, Nat.reduceMul, Nat.reduceSub, Nat.reduceLeDiff, Nat.reduceLT, Int.reduceEq, Int.reduceLT, Int.reduceLE, Int.reduceAdd, Int.reduceSub, Int.reduceNeg, reduceCtorEq, Nat.reduceShiftRight, Nat.reduceAnd, Nat.reduceBNe, hr, f1, d1, Bool.not_false, Bool.not_true, hv.vlen, f2, d2]
    exact settled_ov (ext_Sx hr (by simp)) (ov_res (rt6_ov (zero_rep s)) 18)
  cases d3 : l.all isT
  · have e : makeE op l = 10 := by unfold makeE; rw [if_neg (by simp [d1]), if_neg (by simp [d2]), if_pos d3]
    refine ⟨zeroC, ?_, fun s' _ => by unfold makeT; rw [e]; exact zero_rep s'⟩
    rw [e]
    refine fn_of code_term_Make (by simp) ?_
    simp only [go_sem, ↓reduceIte, Nat.reduceMod, Nat.reduceEqDiff, Nat.reduceAdd, Nat.reduceMul, Nat.reduceSub, Nat.reduceLeDiff, Nat.reduceLT, Int.reduceEq, Int.reduceLT, Int.reduceLE, Int.reduceAdd, Int.reduceSub, Int.reduceNeg, reduceCtorEq, Nat.reduceShiftRight, Nat.reduceAnd, Nat.reduceBNe, hr, f1, d1, Bool.not_false, Bool.not_true, hv.vlen, f2, d2, f3, d3]
    exact settled_ov (ext_Sx hr (by simp)) (ov_res (rt6_ov (zero_rep s)) 10)
  have e0 : makeE op l = checkE op l := by unfold makeE; rw [if_neg (by simp [d1]), if_neg (by simp [d2]), if_neg (by simp [d3])]
  have f4 := f4 d2
  have f5 := f5 d2
  rw [hL] at f4 f5
  by_cases d4 : wrongE op l = 0
  · have hro := hrt.sl.ov
    have hone := hrt.one
    by_cases d5 : 400 < 1 + T.sizes l
    · have e : makeE op l = 11 := by rw [e0, check_le, if_neg (by simp [d4]), if_pos d5]
      have f7 := f7 (resSort op l)
      have d5' : 400 < (T.mk op ⟨false, []⟩ [] (resSort op l) l).size := by simpa [T.size] using d5
      rw [if_pos d5', if_pos d5', hL] at f7
      refine ⟨zeroC, ?_, fun s' _ => by unfold makeT; rw [e]; exact zero_rep s'⟩
      rw [e]
      refine fn_of code_term_Make (by simp) ?_
      simp only [go_sem, ↓reduceIte, Nat.reduceMod, Nat.reduceEqDiff, Nat.reduceAdd, Nat.reduceMul, Nat.reduceSub, Nat.reduceLeDiff, Nat.reduceLT, Int.reduceEq, Int.reduceLT, Int.reduceLE, Int.reduceAdd, Int.reduceSub, Int.reduceNeg, reduceCtorEq, Nat.reduceShiftRight, Nat.reduceAnd, Nat.reduceBNe, hr, f1, d1, Bool.not_true, hv.vlen, f2, d2, f3, d3, f4, d4, ne_eq, not_true_eq_false, f5, f6, hone, f7]
      exact settled_ov (ext_Sx hr (by simp)) (ov_res (rt6_ov (zero_rep s)) 11)
    · have e : makeE op l = 0 := by rw [e0, check_le, if_neg (by simp [d4]), if_neg d5]
      have f7 := f7 (resSort op l)
      have d5' : ¬ 400 < (T.mk op ⟨false, []⟩ [] (resSort op l) l).size := by simpa [T.size] using d5
      rw [if_neg d5', if_neg d5', hL] at f7
      refine ⟨_, ?_, fun s' h1 => by unfold makeT; rw [e, if_pos rfl]; exact made_rep op (resSort op l) (hrs2 s' h1)⟩
      rw [e]
      refine fn_of code_term_Make (by simp) ?_
      simp only [go_sem, ↓reduceIte, Nat.reduceMod, Nat.reduceEqDiff, Nat.reduceAdd, Nat.reduceMul, Nat.reduceSub, Nat.reduceLeDiff, Nat.reduceLT, Int.reduceEq, Int.reduceLT, Int.reduceLE, Int.reduceAdd, Int.reduceSub, Int.reduceNeg, reduceCtorEq, Nat.reduceShiftRight, Nat.reduceAnd, Nat.reduceBNe, hr, f1, d1, Bool.not_true, hv.vlen, f2, d2, f3, d3, f4, d4, ne_eq, not_true_eq_false, f5, f6, hone, f7]
      exact settled_ov (ext_Sx hr (by simp)) (ov_res (rt6_ov (made_rep op (resSort op l) hrs)) 0)
  · have e : makeE op l = wrongE op l := by rw [e0, check_le, if_pos d4]
    refine ⟨zeroC, ?_, fun s' _ => by unfold makeT; rw [e, if_neg d4]; exact zero_rep s'⟩
    rw [e]
    refine fn_of code_term_Make (by simp) ?_
    simp only [go_sem, ↓reduceIte, Nat.reduceMod, Nat.reduceEqDiff, Nat.reduceAdd, Nat.reduceMul, Nat.reduceSub, Nat.reduceLeDiff, Nat.reduceLT, Int.reduceEq, Int.reduceLT, Int.reduceLE, Int.reduceAdd, Int.reduceSub, Int.reduceNeg, reduceCtorEq, Nat.reduceShiftRight, Nat.reduceAnd, Nat.reduceBNe, hr, f1, d1, Bool.not_true, hv.vlen, f2, d2, f3, d3, f4, ne_eq, d4, not_false_eq_true]
    exact settled_ov (ext_Sx hr (by simp)) (ov_res (rt6_ov (zero_rep s)) _)
end Go.Proofs.YtfndnjmnakdglaaGreatDoor
namespace Go.Proofs.YtfndnjmnakdglaaGreatDoor
open Go Go.Vm
variable [Tel]
set_option linter.unusedSectionVars false
set_option linter.unusedVariables false
set_option linter.unusedSimpArgs false
def appE (g : Sg) (l : List T) : Int :=
  if sigOk g = false then 10 else if l.length ≠ g.args.length then 18 else if l.all isT = false then 10 else if l.map T.sort ≠ g.args then 17 else if 400 < 1 + T.sizes l then 11 else 0
def appT (g : Sg) (l : List T) : T := if appE g l = 0 then .mk 4 ⟨false, []⟩ g.name g.ret l else zeroT
theorem app_rep {s : St} {v : AV} {l : List T} (g : Sg) (hv : Ts s v l) : RT6 s [.int .i64 4, .bool false, .nils, .str g.name, .int .i64 g.ret, v] (.mk 4 ⟨false, []⟩ g.name g.ret l) :=
  ⟨.bool false, .nils, v, rfl, ⟨rfl, nats_nil s⟩, hv⟩
theorem ints_x {s s' : St} {v : AV} {l : List Int} (h : Ints s v l) (hx : Ext s s') : Ints s' v l := Ints.x h hx
theorem sorts_step {l : List T} {a : List Int} {i : Nat} (h1 : i < l.length) (h2 : i < a.length) (h : (l.take i).map T.sort = a.take i) (e : l[i].sort = a[i]) : (l.take (i + 1)).map T.sort = a.take (i + 1) := by
  rw [← List.take_append_getElem h1, ← List.take_append_getElem h2, List.map_append, h]; simp [e]
theorem sorts_ne {l : List T} {a : List Int} {i : Nat} (h1 : i < l.length) (h2 : i < a.length) (e : l[i].sort ≠ a[i]) : l.map T.sort ≠ a := by
  intro h; subst h; simp at e
theorem App_ok2 (s : St) (v av : AV) (l : List T) (g : Sg) (ht : T.tames l) (hr : Room s) (hn : s.n.val ≤ 1000020000) (hl : l.length ≤ 1000) (hv : Ts s v l) (ha : Ints s av g.args) :
    ∃ cs, CA F.term_App [.agg [.str g.name, av, .int .i64 g.ret], v] s = .ok (.tup [.agg cs, .int .i64 (appE g l)]) s ∧ ∀ s', Rows6 s' ((rowOf s v).take (l.length * 6)) l → RT6 s' cs (appT g l) := by
  obtain ⟨L, hL⟩ : ∃ L : List AO, L = [.cells [.str g.name, av, .int .i64 g.ret], .cells zeroC] := ⟨_, rfl⟩
  have hlen : L.length = 2 := by rw [hL]; rfl
  have hx1 := ext_Sx (s := s) (l := L) hr (by omega)
  have hr1 := hr.Sx (l := L) (by omega) (by omega)
  have hn1 := Sx_n (s := s) (l := L) hr (by omega)
  have hm := hv.most
  have ham := ha.most
  have f1 := IsSig_ok (Sx s L) g av hr1 (by omega) (ha.x hx1)
  have f3 := all_ok (Sx s L) v l ht hr1 (by omega) (hv.x hx1)
  rw [hL] at f1 f3
  cases d1 : sigOk g
  · have e : appE g l = 10 := by unfold appE; rw [if_pos d1]
    refine ⟨zeroC, ?_, fun s' _ => by unfold appT; rw [e]; exact zero_rep s'⟩
    rw [e]
    refine fn_of code_term_App (by simp) ?_
    simp only [go_sem, ↓reduceIte, Nat.reduceMod, Nat.reduceEqDiff, Nat.reduceAdd, Nat.reduceMul, Nat.reduceSub, Nat.reduceLeDiff, Nat.reduceLT, Int.reduceEq, Int.reduceLT, Int.reduceLE, Int.reduceAdd, Int.reduceSub, Int.reduceNeg, reduceCtorEq, Nat.reduceShiftRight, Nat.reduceAnd, Nat.reduceBNe, hr, f1, d1, Bool.not_false]
    exact settled_ov (ext_Sx hr (by simp)) (ov_res (rt6_ov (zero_rep s)) 10)
  by_cases d2 : l.length = g.args.length
  rotate_left
  · have e : appE g l = 18 := by unfold appE; rw [if_neg (by simp [d1]), if_pos d2]
    have d2' : ¬ (l.length : Int) = (g.args.length : Int) := by omega
    refine ⟨zeroC, ?_, fun s' _ => by unfold appT; rw [e]; exact zero_rep s'⟩
    rw [e]
    refine fn_of code_term_App (by simp) ?_
    simp only [go_sem, ↓reduceIte, Nat.reduceMod, Nat.reduceEqDiff, Nat.reduceAdd, Nat.reduceMul, Nat.reduceSub, Nat.reduceLeDiff, Nat.reduceLT, Int.reduceEq, Int.reduceLT, Int.reduceLE, Int.reduceAdd, Int.reduceSub, Int.reduceNeg, reduceCtorEq, Nat.reduceShiftRight, Nat.reduceAnd, Nat.reduceBNe, hr, f1, d1, Bool.not_true, hv.vlen, ha.vlen, ne_eq, d2', not_false_eq_true]
    exact settled_ov (ext_Sx hr (by simp)) (ov_res (rt6_ov (zero_rep s)) 18)
  have d2' : (l.length : Int) = (g.args.length : Int) := by omega
  cases d3 : l.all isT
  · have e : appE g l = 10 := by unfold appE; rw [if_neg (by simp [d1]), if_neg (by simp [d2]), if_pos d3]
    refine ⟨zeroC, ?_, fun s' _ => by unfold appT; rw [e]; exact zero_rep s'⟩
    rw [e]
    refine fn_of code_term_App (by simp) ?_
    simp only [go_sem, ↓reduceIte, Nat.reduceMod, Nat.reduceEqDiff, Nat.reduceAdd, Nat.reduceMul, Nat.reduceSub, Nat.reduceLeDiff, Nat.reduceLT, Int.reduceEq, Int.reduceLT, Int.reduceLE, Int.reduceAdd, Int.reduceSub, Int.reduceNeg, reduceCtorEq, Nat.reduceShiftRight, Nat.reduceAnd, Nat.reduceBNe, hr, f1, d1, Bool.not_true, Bool.not_false, hv.vlen, ha.vlen, ne_eq, d2', not_true_eq_false, f3, d3]
    exact settled_ov (ext_Sx hr (by simp)) (ov_res (rt6_ov (zero_rep s)) 10)
  have e0 : appE g l = if l.map T.sort ≠ g.args then 17 else if 400 < 1 + T.sizes l then 11 else 0 := by unfold appE; rw [if_neg (by simp [d1]), if_neg (by simp [d2]), if_neg (by simp [d3])]
  have v0 := nm_val hr (k := 0) (by omega)
  have v1 := nm_val hr (k := 1) (by omega)
  have q1 := Sx_obj? (s := s) (l := L) hr (by omega) (i := 0) (by rw [hL]; rfl)
  have q2 := Sx_obj? (s := s) (l := L) hr (by omega) (i := 1) (by rw [hL]; rfl)
  obtain ⟨r, hrs, hrs2, hcl⟩ := clone_ts_ok s v l (by omega) hv
  have hone := hrs.one
  have key : ∃ cs, (∀ s', Rows6 s' ((rowOf s v).take (l.length * 6)) l → RT6 s' cs (appT g l)) ∧ (l.map T.sort ≠ g.args → appE g l = 17 ∧ cs = zeroC) ∧ (l.map T.sort = g.args → (400 < 1 + T.sizes l → appE g l = 11 ∧ cs = zeroC) ∧ (¬ 400 < 1 + T.sizes l → appE g l = 0 ∧ cs = [.int .i64 4, .bool false, .nils, .str g.name, .int .i64 g.ret, r])) := by
    by_cases d4 : l.map T.sort = g.args
    · by_cases d5 : 400 < 1 + T.sizes l
      · have e : appE g l = 11 := by rw [e0, if_neg (by simp [d4]), if_pos d5]
        exact ⟨zeroC, fun s' _ => by unfold appT; rw [e]; exact zero_rep s', fun h => absurd d4 h, fun _ => ⟨fun _ => ⟨e, rfl⟩, fun h => absurd d5 h⟩⟩
      · have e : appE g l = 0 := by rw [e0, if_neg (by simp [d4]), if_neg d5]
        exact ⟨_, fun s' h1 => by unfold appT; rw [e, if_pos rfl]; exact app_rep g (hrs2 s' h1), fun h => absurd d4 h, fun _ => ⟨fun h => absurd h d5, fun _ => ⟨e, rfl⟩⟩⟩
    · have e : appE g l = 17 := by rw [e0, if_pos d4]
      exact ⟨zeroC, fun s' _ => by unfold appT; rw [e]; exact zero_rep s', fun _ => ⟨e, rfl⟩, fun h => absurd h d4⟩
  obtain ⟨rc, hrc, k1, k2⟩ := key
  refine ⟨rc, ?_, hrc⟩
  refine fn_of code_term_App (by simp) ?_
  simp only [go_sem, ↓reduceIte, Nat.reduceMod, Nat.reduceEqDiff, Nat.reduceAdd, Nat.reduceMul, Nat.reduceSub, Nat.reduceLeDiff, Nat.reduceLT, Int.reduceEq, Int.reduceLT, Int.reduceLE, Int.reduceAdd, Int.reduceSub, Int.reduceNeg, reduceCtorEq, Nat.reduceShiftRight, Nat.reduceAnd, Nat.reduceBNe, hr, f1, d1, Bool.not_true, Bool.not_false, hv.vlen, ha.vlen, ne_eq, d2', not_true_eq_false, f3, d3]
  rw [← hL]
  generalize nm s 1 = b2 at *
  generalize nm s 0 = b1 at *
  refine W_inv (fun k f τ => ∃ (i : Nat) (σ : St), Sx σ [] = τ ∧ Room σ ∧ Ext s σ ∧ s.n.val + 2 ≤ σ.n.val ∧ σ.n.val ≤ s.n.val + 2 + 9 * i ∧ k = l.length - i ∧ i ≤ l.length ∧ σ.obj b2 = .cells zeroC ∧ σ.obj b1 = .cells [.str g.name, av, .int .i64 g.ret] ∧ (l.take i).map T.sort = g.args.take i ∧
    (vv 1).get f = v ∧ (vv 2).get f = .ptr b1 0 ∧ (vv 4).get f = .ptr b2 0 ∧ (vv 26).get f = v ∧ (vv 27).get f = .int .i64 (g.args.length : Int) ∧ (vv 28).get f = .int .i64 (i : Int)) ?_ ⟨0, _, Sx_nil _, hr1, hx1, by omega, by omega, rfl, by omega, q2, q1, by simp, ?_⟩
  · rintro k f τ ⟨i, σ, rfl, hr2, hx, hn2, hn3, rfl, hi, o2, o1, hs, g1, g2, g4, g26, g27, g28⟩
    have w2 : b2.val < σ.n.val := by omega
    have w1 : b1.val < σ.n.val := by omega
    have hv2 := hv.x hx
    have ha2 := ints_x ha hx
    by_cases c1 : i < l.length
    · obtain ⟨cs, hat⟩ := hv2.at c1
      have h6 := hat.t6
      have hlen6 := hat.len
      obtain ⟨ng', mg', kv', rfl, hz', hkv'⟩ := hat.t6.ex
      have ca : i < g.args.length := by omega
      simp only [go_sem, ↓reduceIte, Nat.reduceMod, Nat.reduceEqDiff, Nat.reduceAdd, Nat.reduceMul, Nat.reduceSub, Nat.reduceLeDiff, Nat.reduceLT, Int.reduceEq, Int.reduceLT, Int.reduceLE, Int.reduceAdd, Int.reduceSub, Int.reduceNeg, reduceCtorEq, Nat.reduceShiftRight, Nat.reduceAnd, Nat.reduceBNe, g1, g2, g4, g26, g27, g28, Int.ofNat_lt, ca, hr2, hv2.ia c1, hat.ld, w1, w2, o1, o2]
      refine W_drawn hr2 _ (by simp) ?_
      by_cases d4 : l[i].sort = g.args[i]
      · simp only [go_sem, ↓reduceIte, Nat.reduceMod, Nat.reduceEqDiff, Nat.reduceAdd, Nat.reduceMul, Nat.reduceSub, Nat.reduceLeDiff, Nat.reduceLT, Int.reduceEq, Int.reduceLT, Int.reduceLE, Int.reduceAdd, Int.reduceSub, Int.reduceNeg, reduceCtorEq, Nat.reduceShiftRight, Nat.reduceAnd, Nat.reduceBNe, g1, g2, g4, g26, g27, g28, hr2, w1, w2, o1, o2, ha2.ia ca, ha2.i64 ca, ne_eq, d4, not_true_eq_false]
        refine ⟨l.length - (i + 1), by omega, i + 1, _, Sx_nil _, hr2.Sx (by simp; omega) (by simp), hx.trans (ext_Sx hr2 (by simp)), ?_, ?_, rfl, by omega, ?_, ?_, sorts_step c1 ca hs d4, ?_⟩
        · rw [Sx_n hr2 (by simp)]; simp; omega
        · rw [Sx_n hr2 (by simp)]; simp; omega
        · rw [Sx_old hr2 (by simp) w2]; exact o2
        · rw [Sx_old hr2 (by simp) w1]; exact o1
        · rw [wrap_i64 (by omega) (by omega)]; congr 1
      · obtain ⟨e, rfl⟩ := k1 (sorts_ne c1 ca d4)
        rw [e]
        simp only [go_sem, ↓reduceIte, Nat.reduceMod, Nat.reduceEqDiff, Nat.reduceAdd, Nat.reduceMul, Nat.reduceSub, Nat.reduceLeDiff, Nat.reduceLT, Int.reduceEq, Int.reduceLT, Int.reduceLE, Int.reduceAdd, Int.reduceSub, Int.reduceNeg, reduceCtorEq, Nat.reduceShiftRight, Nat.reduceAnd, Nat.reduceBNe, g1, g2, g4, g26, g27, g28, hr2, w1, w2, o1, o2, ha2.ia ca, ha2.i64 ca, ne_eq, d4, not_false_eq_true]
        exact settled_ov ((hx.put (by omega) _).trans (ext_Sx (hr2.put w2 _) (by simp))) (ov_res (rt6_ov (zero_rep s)) 17)
    · have e : i = l.length := by omega
      subst e
      have ca : ¬ l.length < g.args.length := by omega
      rw [List.take_length, d2, List.take_length] at hs
      obtain ⟨k3, k4⟩ := k2 hs
      have f6 := hcl (Sx σ [.dead, .dead, .dead, .dead, .dead, .dead, .dead, .dead, .dead, .dead, .dead, .dead]) (hx.trans (ext_Sx hr2 (by simp))) (hr2.Sx (by simp; omega) (by simp))
      have f7 := small_ok (Sx σ [.dead, .dead, .dead, .dead, .dead, .dead, .dead, .dead, .dead, .dead, .dead, .dead]) _ _ (hr2.Sx (by simp; omega) (by simp)) (by rw [Sx_n hr2 (by simp)]; simp; omega) (app_rep g (hrs.x (hx.trans (ext_Sx hr2 (by simp)))))
      by_cases d5 : 400 < 1 + T.sizes l
      · obtain ⟨e, rfl⟩ := k3 d5
        have d5' : 400 < (T.mk 4 ⟨false, []⟩ g.name g.ret l).size := by simpa [T.size] using d5
        rw [if_pos d5', if_pos d5'] at f7
        rw [e]
        simp only [go_sem, ↓reduceIte, Nat.reduceMod, Nat.reduceEqDiff, Nat.reduceAdd, Nat.reduceMul, Nat.reduceSub, Nat.reduceLeDiff, Nat.reduceLT, Int.reduceEq, Int.reduceLT, Int.reduceLE, Int.reduceAdd, Int.reduceSub, Int.reduceNeg, reduceCtorEq, Nat.reduceShiftRight, Nat.reduceAnd, Nat.reduceBNe, g1, g2, g4, g26, g27, g28, Int.ofNat_lt, ca, hr2, w1, w2, o1, o2]
        refine W_drawn hr2 _ (by simp) ?_
        simp only [go_sem, ↓reduceIte, Nat.reduceMod, Nat.reduceEqDiff, Nat.reduceAdd, Nat.reduceMul, Nat.reduceSub, Nat.reduceLeDiff, Nat.reduceLT, Int.reduceEq, Int.reduceLT, Int.reduceLE, Int.reduceAdd, Int.reduceSub, Int.reduceNeg, reduceCtorEq, Nat.reduceShiftRight, Nat.reduceAnd, Nat.reduceBNe, g1, g2, g4, g26, g27, g28, hr2, w1, w2, o1, o2, f6, hone, f7]
        exact settled_ov ((hx.put (by omega) _).trans (ext_Sx (hr2.put w2 _) (by simp))) (ov_res (rt6_ov (zero_rep s)) 11)
      · obtain ⟨e, rfl⟩ := k4 d5
        have d5' : ¬ 400 < (T.mk 4 ⟨false, []⟩ g.name g.ret l).size := by simpa [T.size] using d5
        rw [if_neg d5', if_neg d5'] at f7
        rw [e]
        simp only [go_sem, ↓reduceIte, Nat.reduceMod, Nat.reduceEqDiff, Nat.reduceAdd, Nat.reduceMul, Nat.reduceSub, Nat.reduceLeDiff, Nat.reduceLT, Int.reduceEq, Int.reduceLT, Int.reduceLE, Int.reduceAdd, Int.reduceSub, Int.reduceNeg, reduceCtorEq, Nat.reduceShiftRight, Nat.reduceAnd, Nat.reduceBNe, g1, g2, g4, g26, g27, g28, Int.ofNat_lt, ca, hr2, w1, w2, o1, o2]
        refine W_drawn hr2 _ (by simp) ?_
        simp only [go_sem, ↓reduceIte, Nat.reduceMod, Nat.reduceEqDiff, Nat.reduceAdd, Nat.reduceMul, Nat.reduceSub, Nat.reduceLeDiff, Nat.reduceLT, Int.reduceEq, Int.reduceLT, Int.reduceLE, Int.reduceAdd, Int.reduceSub, Int.reduceNeg, reduceCtorEq, Nat.reduceShiftRight, Nat.reduceAnd, Nat.reduceBNe, g1, g2, g4, g26, g27, g28, hr2, w1, w2, o1, o2, f6, hone, f7]
        exact settled_ov ((hx.put (by omega) _).trans (ext_Sx (hr2.put w2 _) (by simp))) (ov_res (rt6_ov (app_rep g hrs)) 0)
  · simp only [go_sem, ↓reduceIte, Nat.reduceMod, Nat.reduceEqDiff, Nat.reduceAdd, Nat.reduceMul, Nat.reduceSub, Nat.reduceLeDiff, Nat.reduceLT, Int.reduceEq, Int.reduceLT, Int.reduceLE, Int.reduceAdd, Int.reduceSub, Int.reduceNeg, reduceCtorEq, Nat.reduceShiftRight, Nat.reduceAnd, Nat.reduceBNe, d2']
    rfl
end Go.Proofs.YtfndnjmnakdglaaGreatDoor
namespace Go.Vm
theorem T.ext' {t u : T} (h1 : t.op = u.op) (h2 : t.n = u.n) (h3 : t.name = u.name) (h4 : t.sort = u.sort) (h5 : t.kids = u.kids) : t = u := by cases t; cases u; simp_all [T.op, T.n, T.name, T.sort, T.kids]
end Go.Vm
namespace Go.Proofs.YtfndnjmnakdglaaGreatDoor
open Go Go.Vm
variable [Tel]
set_option linter.unusedSectionVars false
set_option linter.unusedVariables false
set_option linter.unusedSimpArgs false
mutual
def sameT : T → T → Bool
  | .mk o n a s ks, .mk o' n' a' s' ks' => decide (o = o') && (decide (n = n') && (decide (a = a') && (decide (s = s') && sameTs ks ks')))
def sameTs : List T → List T → Bool
  | [], [] => true
  | t :: l, u :: m => sameT t u && sameTs l m
  | _, _ => false
end
theorem sameT_eq (t u : T) : sameT t u = (decide (t.op = u.op) && (decide (t.n = u.n) && (decide (t.name = u.name) && (decide (t.sort = u.sort) && sameTs t.kids u.kids)))) := by cases t; cases u; rfl
theorem sameTs_len : ∀ (l m : List T), l.length ≠ m.length → sameTs l m = false
  | [], [], h => absurd rfl h
  | [], _ :: _, _ => rfl
  | _ :: _, [], _ => rfl
  | t :: l, u :: m, h => by rw [sameTs, sameTs_len l m (by simpa using h), Bool.and_false]
theorem sameTs_at : ∀ (l m : List T) (i : Nat) (h1 : i < l.length) (h2 : i < m.length), sameT l[i] m[i] = false → sameTs l m = false
  | t :: l, u :: m, 0, _, _, h => by rw [sameTs]; rw [List.getElem_cons_zero, List.getElem_cons_zero] at h; rw [h, Bool.false_and]
  | t :: l, u :: m, i + 1, h1, h2, h => by rw [sameTs, sameTs_at l m i (by simpa using h1) (by simpa using h2) (by simpa using h), Bool.and_false]
theorem sameTs_all : ∀ (l m : List T), l.length = m.length → (∀ i (h1 : i < l.length) (h2 : i < m.length), sameT l[i] m[i] = true) → sameTs l m = true
  | [], [], _, _ => rfl
  | t :: l, u :: m, h, k => by
    rw [sameTs, Bool.and_eq_true]
    exact ⟨k 0 (by simp) (by simp), sameTs_all l m (by simpa using h) fun i h1 h2 => k (i + 1) (by simpa using h1) (by simpa using h2)⟩
theorem sameT_self : ∀ (n : Nat) (t : T), t.size ≤ n → sameT t t = true := by
  intro n
  induction n with
  | zero => intro t h; have := T.size_kids t; omega
  | succ n ih =>
    intro t h
    rw [sameT_eq]
    have hs := T.size_kids t
    rw [sameTs_all _ _ rfl fun i h1 h2 => ih _ (by have := T.size_at h1; omega)]
    simp
theorem same_ok : ∀ (n : Nat) (t u : T), t.size ≤ n → t.tame → ∀ (s : St) (cs ds : List AV), Room s → s.n.val + 14 * t.size + 9000 ≤ 1000050000 → RT6 s cs t → RT6 s ds u → CA F.ref10_Same [.agg cs, .agg ds] s = .ok (.bool (sameT t u)) s := by
  intro n
  induction n with
  | zero => intro t u h; have := T.size_kids t; omega
  | succ n ih =>
    intro t u hln htm s cs ds hr hn h h2
    obtain ⟨ng, mg, kv, rfl, hz, hk⟩ := h.ex
    obtain ⟨ng2, mg2, kv2, rfl, hz2, hk2⟩ := h2.ex
    have hsz := T.size_kids t
    have hle := T.length_le t.kids
    have hm := hk.most
    have hmg := (T.tame_kids htm).1
    obtain ⟨L, hL⟩ : ∃ L : List AO, L = [.cells [.int .i64 t.op, ng, mg, .str t.name, .int .i64 t.sort, kv], .cells [.int .i64 u.op, ng2, mg2, .str u.name, .int .i64 u.sort, kv2]] := ⟨_, rfl⟩
    have hlen : L.length = 2 := by rw [hL]; rfl
    have hx1 := ext_Sx (s := s) (l := L) hr (by omega)
    have hr1 := hr.Sx (l := L) (by omega) (by omega)
    have hn1 := Sx_n (s := s) (l := L) hr (by omega)
    have f1 := equal_ok (Sx s L) ng mg ng2 mg2 t.n u.n hr1 (by omega) (hz.x hx1) (hz2.x hx1)
    have v0 := nm_val hr (k := 0) (by omega)
    have v1 := nm_val hr (k := 1) (by omega)
    have q1 := Sx_obj? (s := s) (l := L) hr (by omega) (i := 0) (by rw [hL]; rfl)
    have q2 := Sx_obj? (s := s) (l := L) hr (by omega) (i := 1) (by rw [hL]; rfl)
    rw [hL] at f1
    rw [sameT_eq]
    by_cases d1 : t.op = u.op
    rotate_left
    · refine fn_of code_ref10_Same (by simp) ?_
      simp only [go_sem, ↓reduceIte, Nat.reduceMod, Nat.reduceEqDiff, Nat.reduceAdd, Nat.reduceMul, Nat.reduceSub, Nat.reduceLeDiff, Nat.reduceLT, Int.reduceEq, Int.reduceLT, Int.reduceLE, Int.reduceAdd, Int.reduceSub, Int.reduceNeg, reduceCtorEq, Nat.reduceShiftRight, Nat.reduceAnd, Nat.reduceBNe, hr, ne_eq, d1, not_false_eq_true]
      exact settled_bool (ext_Sx hr (by simp)) (by simp)
    by_cases d2 : t.n = u.n
    rotate_left
    · rw [d1] at f1 ⊢
      refine fn_of code_ref10_Same (by simp) ?_
      simp only [go_sem, ↓reduceIte, Nat.reduceMod, Nat.reduceEqDiff, Nat.reduceAdd, Nat.reduceMul, Nat.reduceSub, Nat.reduceLeDiff, Nat.reduceLT, Int.reduceEq, Int.reduceLT, Int.reduceLE, Int.reduceAdd, Int.reduceSub, Int.reduceNeg, reduceCtorEq, Nat.reduceShiftRight, Nat.reduceAnd, Nat.reduceBNe, hr, ne_eq, not_true_eq_false, f1, d2, decide_false, Bool.not_false]
      exact settled_bool (ext_Sx hr (by simp)) (by simp)
    by_cases d3 : t.name = u.name
    rotate_left
    · rw [d1] at f1 ⊢
      refine fn_of code_ref10_Same (by simp) ?_
      simp only [go_sem, ↓reduceIte, Nat.reduceMod, Nat.reduceEqDiff, Nat.reduceAdd, Nat.reduceMul, Nat.reduceSub, Nat.reduceLeDiff, Nat.reduceLT, Int.reduceEq, Int.reduceLT, Int.reduceLE, Int.reduceAdd, Int.reduceSub, Int.reduceNeg, reduceCtorEq, Nat.reduceShiftRight, Nat.reduceAnd, Nat.reduceBNe, hr, ne_eq, not_true_eq_false, f1, d2, decide_true, Bool.not_true, d3, not_false_eq_true]
      exact settled_bool (ext_Sx hr (by simp)) (by simp)
    by_cases d4 : t.sort = u.sort
    rotate_left
    · rw [d1, d3] at f1 ⊢
      refine fn_of code_ref10_Same (by simp) ?_
      simp only [go_sem, ↓reduceIte, Nat.reduceMod, Nat.reduceEqDiff, Nat.reduceAdd, Nat.reduceMul, Nat.reduceSub, Nat.reduceLeDiff, Nat.reduceLT, Int.reduceEq, Int.reduceLT, Int.reduceLE, Int.reduceAdd, Int.reduceSub, Int.reduceNeg, reduceCtorEq, Nat.reduceShiftRight, Nat.reduceAnd, Nat.reduceBNe, hr, ne_eq, not_true_eq_false, f1, d2, decide_true, Bool.not_true, d4, not_false_eq_true]
      exact settled_bool (ext_Sx hr (by simp)) (by simp)
    have e : (decide (t.op = u.op) && (decide (t.n = u.n) && (decide (t.name = u.name) && (decide (t.sort = u.sort) && sameTs t.kids u.kids)))) = sameTs t.kids u.kids := by rw [d1, d2, d3, d4]; simp
    rw [e]
    clear e
    by_cases d5 : t.kids.length = u.kids.length
    rotate_left
    · rw [sameTs_len _ _ d5, d1, d3, d4]
      rw [d1, d3, d4] at f1
      have d5' : ¬ (t.kids.length : Int) = (u.kids.length : Int) := by omega
      refine fn_of code_ref10_Same (by simp) ?_
      simp only [go_sem, ↓reduceIte, Nat.reduceMod, Nat.reduceEqDiff, Nat.reduceAdd, Nat.reduceMul, Nat.reduceSub, Nat.reduceLeDiff, Nat.reduceLT, Int.reduceEq, Int.reduceLT, Int.reduceLE, Int.reduceAdd, Int.reduceSub, Int.reduceNeg, reduceCtorEq, Nat.reduceShiftRight, Nat.reduceAnd, Nat.reduceBNe, hr, ne_eq, not_true_eq_false, f1, d2, decide_true, Bool.not_true, hk.vlen, hk2.vlen, d5', not_false_eq_true]
      exact settled_bool (ext_Sx hr (by simp)) rfl
    have d5' : (t.kids.length : Int) = (u.kids.length : Int) := by omega
    rw [d1, d3, d4] at f1 hL ⊢
    refine fn_of code_ref10_Same (by simp) ?_
    simp only [go_sem, ↓reduceIte, Nat.reduceMod, Nat.reduceEqDiff, Nat.reduceAdd, Nat.reduceMul, Nat.reduceSub, Nat.reduceLeDiff, Nat.reduceLT, Int.reduceEq, Int.reduceLT, Int.reduceLE, Int.reduceAdd, Int.reduceSub, Int.reduceNeg, reduceCtorEq, Nat.reduceShiftRight, Nat.reduceAnd, Nat.reduceBNe, hr, ne_eq, not_true_eq_false, f1, d2, decide_true, Bool.not_true, hk.vlen, hk2.vlen, d5']
    rw [← hL]
    generalize nm s 1 = b2 at *
    generalize nm s 0 = b1 at *
    refine W_inv (fun k f τ => ∃ (i : Nat) (σ : St), Sx σ [] = τ ∧ Room σ ∧ Ext s σ ∧ s.n.val + 2 ≤ σ.n.val ∧ σ.n.val ≤ s.n.val + 2 + 12 * i ∧ k = t.kids.length - i ∧ i ≤ t.kids.length ∧ σ.obj b1 = .cells [.int .i64 t.op, ng, mg, .str t.name, .int .i64 t.sort, kv] ∧ σ.obj b2 = .cells [.int .i64 u.op, ng2, mg2, .str u.name, .int .i64 u.sort, kv2] ∧
      (∀ j (h1 : j < t.kids.length) (h2 : j < u.kids.length), j < i → sameT t.kids[j] u.kids[j] = true) ∧
      (vv 2).get f = .ptr b1 0 ∧ (vv 3).get f = .ptr b2 0 ∧ (vv 5).get f = .int .i64 (i : Int)) ?_ ⟨0, _, Sx_nil _, hr1, hx1, by omega, by omega, rfl, by omega, q1, q2, fun j _ _ h => absurd h (by omega), ?_⟩
    · rintro k f τ ⟨i, σ, rfl, hr2, hx, hn2, hn3, rfl, hi, o1, o2, hs, g2, g3, g5⟩
      have w2 : b2.val < σ.n.val := by omega
      have w1 : b1.val < σ.n.val := by omega
      by_cases c1 : i < t.kids.length
      · have c2 : i < u.kids.length := by omega
        obtain ⟨cs, hat⟩ := (hk.x hx).at c1
        obtain ⟨ds, hat2⟩ := (hk2.x hx).at c2
        have hs2 := T.size_at c1
        have hsl := T.sizes_le t.kids (i + 1)
        have hst := T.sizes_take t.kids i c1
        have hsi := T.length_le (t.kids.take i)
        rw [List.length_take, Nat.min_eq_left hi] at hsi
        have hxs := ext_Sx (s := σ) (l := [.dead, .dead, .dead, .dead, .dead, .dead, .dead, .dead, .dead, .dead, .dead, .dead]) hr2 (by simp)
        have fi := ih t.kids[i] u.kids[i] (by omega) (T.tame_at (T.tame_kids htm).2 c1) (Sx σ [.dead, .dead, .dead, .dead, .dead, .dead, .dead, .dead, .dead, .dead, .dead, .dead]) cs ds (hr2.Sx (by simp; omega) (by simp)) (by rw [Sx_n hr2 (by simp)]; simp; omega) (hat.t6.x hxs) (hat2.t6.x hxs)
        simp only [go_sem, ↓reduceIte, Nat.reduceMod, Nat.reduceEqDiff, Nat.reduceAdd, Nat.reduceMul, Nat.reduceSub, Nat.reduceLeDiff, Nat.reduceLT, Int.reduceEq, Int.reduceLT, Int.reduceLE, Int.reduceAdd, Int.reduceSub, Int.reduceNeg, reduceCtorEq, Nat.reduceShiftRight, Nat.reduceAnd, Nat.reduceBNe, g2, g3, g5, hr2, Int.ofNat_lt, w1, w2, o1, o2, hk.vlen, c1]
        refine W_drawn hr2 _ (by simp) ?_
        cases d6 : sameT t.kids[i] u.kids[i]
        · simp only [go_sem, ↓reduceIte, Nat.reduceMod, Nat.reduceEqDiff, Nat.reduceAdd, Nat.reduceMul, Nat.reduceSub, Nat.reduceLeDiff, Nat.reduceLT, Int.reduceEq, Int.reduceLT, Int.reduceLE, Int.reduceAdd, Int.reduceSub, Int.reduceNeg, reduceCtorEq, Nat.reduceShiftRight, Nat.reduceAnd, Nat.reduceBNe, g2, g3, g5, hr2, w1, w2, o1, o2, hk.ia c1, hk2.ia c2, hat.ld, hat2.ld, fi, d6, Bool.not_false]
          exact settled_bool (hx.trans hxs) (by rw [sameTs_at _ _ i c1 c2 d6])
        · simp only [go_sem, ↓reduceIte, Nat.reduceMod, Nat.reduceEqDiff, Nat.reduceAdd, Nat.reduceMul, Nat.reduceSub, Nat.reduceLeDiff, Nat.reduceLT, Int.reduceEq, Int.reduceLT, Int.reduceLE, Int.reduceAdd, Int.reduceSub, Int.reduceNeg, reduceCtorEq, Nat.reduceShiftRight, Nat.reduceAnd, Nat.reduceBNe, g2, g3, g5, hr2, w1, w2, o1, o2, hk.ia c1, hk2.ia c2, hat.ld, hat2.ld, fi, d6, Bool.not_true]
          refine ⟨t.kids.length - (i + 1), by omega, i + 1, _, Sx_nil _, hr2.Sx (by simp; omega) (by simp), hx.trans hxs, ?_, ?_, rfl, by omega, ?_, ?_, ?_, ?_⟩
          · rw [Sx_n hr2 (by simp)]; simp; omega
          · rw [Sx_n hr2 (by simp)]; simp; omega
          · rw [Sx_old hr2 (by simp) w1]; exact o1
          · rw [Sx_old hr2 (by simp) w2]; exact o2
          · intro j h1 h2 hj
            by_cases ej : j = i
            · subst ej; exact d6
            · exact hs j h1 h2 (by omega)
          · rw [wrap_i64 (by omega) (by omega)]; congr 1
      · have e : i = t.kids.length := by omega
        subst e
        simp only [go_sem, ↓reduceIte, Nat.reduceMod, Nat.reduceEqDiff, Nat.reduceAdd, Nat.reduceMul, Nat.reduceSub, Nat.reduceLeDiff, Nat.reduceLT, Int.reduceEq, Int.reduceLT, Int.reduceLE, Int.reduceAdd, Int.reduceSub, Int.reduceNeg, reduceCtorEq, Nat.reduceShiftRight, Nat.reduceAnd, Nat.reduceBNe, g2, g3, g5, hr2, Int.ofNat_lt, w1, w2, o1, o2, hk.vlen, c1]
        exact settled_bool hx (sameTs_all _ _ d5 fun j h1 h2 => hs j h1 h2 h1).symm
    · simp only [go_sem, ↓reduceIte, Nat.reduceMod, Nat.reduceEqDiff, Nat.reduceAdd, Nat.reduceMul, Nat.reduceSub, Nat.reduceLeDiff, Nat.reduceLT, Int.reduceEq, Int.reduceLT, Int.reduceLE, Int.reduceAdd, Int.reduceSub, Int.reduceNeg, reduceCtorEq, Nat.reduceShiftRight, Nat.reduceAnd, Nat.reduceBNe]
      rfl
end Go.Proofs.YtfndnjmnakdglaaGreatDoor
namespace Go.Proofs.YtfndnjmnakdglaaGreatDoor
open Go Go.Vm
variable [Tel]
set_option linter.unusedSectionVars false
set_option linter.unusedVariables false
set_option linter.unusedSimpArgs false
theorem ts_one {s : St} {L : List AO} (hr : Room s) (hl : L.length ≤ 5000) {i : Nat} {cs : List AV} {t : T} (hi : L[i]? = some (.cells cs)) (h : RT6 (Sx s L) cs t) : Ts (Sx s L) (.sl (nm s i) 0 1 1 0) [t] := by
  obtain ⟨h1, h2, h3⟩ := isl_lit hr hl hi (n := 1) (by unfold limit; omega) 1 0
  refine ⟨h1, rfl, fun j hj => ?_⟩
  rw [h2]
  match j, hj with
  | 0, _ => have := h.rt []; rw [List.append_nil] at this; exact this
theorem Is_tm (t : T) (htm : t.tame) (s : St) (cs : List AV) (hr : Room s) (hn : s.n.val ≤ 1000038000) (h : RT6 s cs t) : CA F.term_Is [.agg cs] s = .ok (.bool (isT t)) s := by
  obtain ⟨ng, mg, kv, rfl, hz, hk⟩ := h.ex
  obtain ⟨M, hM⟩ : ∃ M : List AO, M = [.cells [.int .i64 t.op, ng, mg, .str t.name, .int .i64 t.sort, kv], .cells [.int .i64 t.op, ng, mg, .str t.name, .int .i64 t.sort, kv]] := ⟨_, rfl⟩
  have hlenM : M.length = 2 := by rw [hM]; rfl
  have hr3 := hr.Sx (l := M) (by omega) (by omega)
  have hn3 := Sx_n (s := s) (l := M) hr (by omega)
  have hx3 := ext_Sx (s := s) (l := M) hr (by omega)
  have o1 := ts_one (L := M) (i := 1) hr (by omega) (by rw [hM]; rfl) (h.x hx3)
  have f1 := all_ok (Sx s M) _ [t] ⟨htm, trivial⟩ hr3 (by simp; omega) o1
  rw [hM] at f1
  refine fn_of code_term_Is (by simp) ?_
  simp only [go_sem, ↓reduceIte, Nat.reduceMod, Nat.reduceEqDiff, Nat.reduceAdd, Nat.reduceMul, Nat.reduceSub, Nat.reduceLeDiff, Nat.reduceLT, Int.reduceEq, Int.reduceLT, Int.reduceLE, Int.reduceAdd, Int.reduceSub, Int.reduceNeg, reduceCtorEq, Nat.reduceShiftRight, Nat.reduceAnd, Nat.reduceBNe, hr, f1]
  exact settled_bool (ext_Sx hr (by simp)) (by simp)
end Go.Proofs.YtfndnjmnakdglaaGreatDoor
namespace Go.Proofs.YtfndnjmnakdglaaGreatDoor
open Go Go.Vm
variable [Tel]
set_option linter.unusedSectionVars false
set_option linter.unusedVariables false
set_option linter.unusedSimpArgs false
theorem trim0_le (l : List Nat) : (trim0 l).length ≤ l.length := by
  unfold trim0
  rw [List.length_reverse]
  have h := (List.dropWhile_sublist (fun a => decide (a = 0)) (l := l.reverse)).length_le
  rw [List.length_reverse] at h; exact h
theorem take_snoc {l : List Nat} {k : Nat} (h : k < l.length) : l.take (k + 1) = l.take k ++ [l[k]] := (List.take_append_getElem h).symm
theorem nats_first {s : St} {cs : List AV} (l : List Nat) (hl : l.length ≤ 140737488355328) (cap : Nat) (ex : Bool) (ho : ∀ c ∈ cs, Ov s.n.val c) (hc : ∀ i (h : i < l.length), cs[i]? = some (.int .u32 (l[i] : Int))) : Nats s (.ts cs l.length cap ex) l := by
  refine ⟨.ts _ _ _ _ hl ho, rfl, fun i hi => ?_⟩
  show ∃ t, cs.drop (i * 1) = _
  obtain ⟨h1, h2⟩ := List.getElem?_eq_some_iff.mp (hc i hi)
  rw [Nat.mul_one, List.drop_eq_getElem_cons h1, h2]
  exact ⟨_, rfl⟩
theorem cellsN_at {l : List Nat} {i : Nat} (h : i < l.length) : (cellsN l)[i]? = some (.int .u32 (l[i] : Int)) := by unfold cellsN; rw [List.getElem?_map, List.getElem?_eq_getElem h]; rfl
theorem cellsN_len (l : List Nat) : (cellsN l).length = l.length := by simp [cellsN]
theorem cellsN_set (l : List Nat) (i x : Nat) : (cellsN l).set i (.int .u32 (x : Int)) = cellsN (l.set i x) := by unfold cellsN; rw [List.map_set]
theorem cellsN_rep (n : Nat) : List.replicate n (AV.int .u32 0) = cellsN (List.replicate n 0) := by unfold cellsN; rw [List.map_replicate]; rfl
theorem trim_ok (s : St) (b : Vm.Id) (l : List Nat) (cap : Nat) (hr : Room s) (hb : b.val < s.n.val) (hl : l.length ≤ 140737488355328) (hc : l.length ≤ cap) (ho : s.obj b = .cells (cellsN l)) : CA F.nat_trim [.sl b 0 l.length cap 0] s = .ok (.sl b 0 (trim0 l).length cap 0) s := by
  have w0 : (Sx s []).obj b = .cells (cellsN l) := ho
  refine fn_of code_nat_trim (by simp) ?_
  simp only [go_sem, ↓reduceIte, Nat.reduceMod, Nat.reduceEqDiff, Nat.reduceAdd, Nat.reduceMul, Nat.reduceSub, Nat.reduceLeDiff, Nat.reduceLT, Int.reduceEq, Int.reduceLT, Int.reduceLE, Int.reduceAdd, Int.reduceSub, Int.reduceNeg, reduceCtorEq, Nat.reduceShiftRight, Nat.reduceAnd, Nat.reduceBNe]
  refine W_inv (fun k f τ => ∃ i : Nat, Sx s [] = τ ∧ k = i ∧ i ≤ l.length ∧ trim0 (l.take i) = trim0 l ∧ (vv 0).get f = .sl b 0 i cap 0) ?_ ⟨l.length, rfl, rfl, by omega, by rw [List.take_length], ?_⟩
  · rintro k f τ ⟨i, rfl, rfl, hi, ht, g0⟩
    by_cases c0 : k = 0
    · have c0' : ¬ (0 : Int) < (k : Int) := by omega
      simp only [go_sem, ↓reduceIte, Nat.reduceMod, Nat.reduceEqDiff, Nat.reduceAdd, Nat.reduceMul, Nat.reduceSub, Nat.reduceLeDiff, Nat.reduceLT, Int.reduceEq, Int.reduceLT, Int.reduceLE, Int.reduceAdd, Int.reduceSub, Int.reduceNeg, reduceCtorEq, Nat.reduceShiftRight, Nat.reduceAnd, Nat.reduceBNe, g0, c0']
      have e2 : (trim0 l).length = k := by rw [← ht, c0]; rfl
      rw [e2]
      refine settled_ov (Ext.refl s) ?_
      exact ov_sl hb _ _ _ _
    · have c0' : (0 : Int) < (k : Int) := by omega
      have hlt : k - 1 < l.length := by omega
      have hlt2 : k - 1 < k := by omega
      have ew : IntKind.wrap .i64 ((k : Int) - 1) = ((k - 1 : Nat) : Int) := by rw [wrap_i64 (by omega) (by omega)]; omega
      have e1 : l.take k = l.take (k - 1) ++ [l[k - 1]] := by rw [← take_snoc hlt]; congr 1; omega
      have hw := fun σ => wrap1_at (cellsN_at hlt) σ
      by_cases c1 : l[k - 1] = 0
      · have c1' : (l[k - 1] : Int) = 0 := by omega
        simp only [go_sem, ↓reduceIte, Nat.reduceMod, Nat.reduceEqDiff, Nat.reduceAdd, Nat.reduceMul, Nat.reduceSub, Nat.reduceLeDiff, Nat.reduceLT, Int.reduceEq, Int.reduceLT, Int.reduceLE, Int.reduceAdd, Int.reduceSub, Int.reduceNeg, reduceCtorEq, Nat.reduceShiftRight, Nat.reduceAnd, Nat.reduceBNe, g0, c0', ew, viaddr_sl hlt2, w0, hw, c1', vslhi_eq (show k - 1 ≤ cap by omega)]
        refine ⟨k - 1, by omega, k - 1, rfl, by omega, ?_, rfl⟩
        rw [← ht, e1, trim0_snoc, if_pos c1]
      · have c1' : ¬ (l[k - 1] : Int) = 0 := by omega
        simp only [go_sem, ↓reduceIte, Nat.reduceMod, Nat.reduceEqDiff, Nat.reduceAdd, Nat.reduceMul, Nat.reduceSub, Nat.reduceLeDiff, Nat.reduceLT, Int.reduceEq, Int.reduceLT, Int.reduceLE, Int.reduceAdd, Int.reduceSub, Int.reduceNeg, reduceCtorEq, Nat.reduceShiftRight, Nat.reduceAnd, Nat.reduceBNe, g0, c0', ew, viaddr_sl hlt2, w0, hw, c1']
        have e2 : (trim0 l).length = k := by rw [← ht, e1, trim0_snoc, if_neg c1, ← e1, List.length_take]; omega
        rw [e2]
        refine settled_ov (Ext.refl s) ?_
        exact ov_sl hb _ _ _ _
  · simp only [go_sem, ↓reduceIte, Nat.reduceMod, Nat.reduceEqDiff, Nat.reduceAdd, Nat.reduceMul, Nat.reduceSub, Nat.reduceLeDiff, Nat.reduceLT, Int.reduceEq, Int.reduceLT, Int.reduceLE, Int.reduceAdd, Int.reduceSub, Int.reduceNeg, reduceCtorEq, Nat.reduceShiftRight, Nat.reduceAnd, Nat.reduceBNe]
abbrev Nss (s : St) (v : AV) (ls : List (List Nat)) : Prop := SlR s v 1 (fun r l => ∃ t w, r = w :: t ∧ Nats s w l) ls
theorem nss_at {s : St} {v : AV} {ls : List (List Nat)} (h : Nss s v ls) {i : Nat} (hi : i < ls.length) : ∃ w, Nats s w ls[i] ∧ ∀ σ, Ext s σ → vload false 1 (elp v i) σ = .ok w σ := by
  obtain ⟨t, w, h1, h2⟩ := h.el i hi
  rw [Nat.mul_one] at h1
  exact ⟨w, h2, fun σ hx => by rw [vload_x h.sl (by rw [h1]; simp) false 1 hx, h1, wrap1_one]⟩
def lim (l : List Nat) (i : Nat) : Nat := (l[i]?).getD 0
def colS (ls : List (List Nat)) (i : Nat) : Nat := (ls.map fun l => lim l i).sum
def valS (ls : List (List Nat)) : Nat := (ls.map val).sum
theorem val_take_lim (l : List Nat) (i : Nat) : val (l.take (i + 1)) = val (l.take i) + 1000000000 ^ i * lim l i := by
  by_cases h : i < l.length
  · rw [take_snoc h, val_snoc, List.length_take, Nat.min_eq_left (by omega)]
    unfold lim
    rw [List.getElem?_eq_getElem h]; rfl
  · rw [List.take_of_length_le (by omega), List.take_of_length_le (by omega)]
    unfold lim
    rw [List.getElem?_eq_none (by omega)]; rfl
theorem valS_take (ls : List (List Nat)) (i : Nat) : valS (ls.map (·.take (i + 1))) = valS (ls.map (·.take i)) + 1000000000 ^ i * colS ls i := by
  induction ls with
  | nil => rfl
  | cons l ls ih =>
    simp only [valS, colS, List.map_cons, List.sum_cons] at ih ⊢
    rw [ih, val_take_lim, Nat.mul_add]; omega
theorem colS_le {ls : List (List Nat)} (h : ∀ l ∈ ls, small l) (i : Nat) : colS ls i ≤ ls.length * 999999999 := by
  induction ls with
  | nil => simp [colS]
  | cons l ls ih =>
    have h1 := ih fun m hm => h m (List.mem_cons_of_mem _ hm)
    have h2 : lim l i ≤ 999999999 := by
      unfold lim
      by_cases hi : i < l.length
      · rw [List.getElem?_eq_getElem hi]
        have := h l List.mem_cons_self l[i] (List.getElem_mem hi)
        simp only [Option.getD_some]; omega
      · rw [List.getElem?_eq_none (by omega)]; simp
    simp only [colS, List.map_cons, List.sum_cons, List.length_cons] at h1 ⊢
    rw [Nat.add_mul]; omega
theorem colS_take {ls : List (List Nat)} {k : Nat} (h : k < ls.length) (i : Nat) : colS (ls.take (k + 1)) i = colS (ls.take k) i + lim ls[k] i := by
  unfold colS
  rw [← List.take_append_getElem h, List.map_append, List.sum_append]
  simp only [List.map_cons, List.map_nil, List.sum_cons, List.sum_nil, Nat.add_zero]
theorem colS_take_le {ls : List (List Nat)} (h : ∀ l ∈ ls, small l) (k i : Nat) : colS (ls.take k) i ≤ ls.length * 999999999 := by
  have h1 := colS_le (ls := ls.take k) (fun l hl => h l (List.mem_of_mem_take hl)) i
  have h2 : (ls.take k).length ≤ ls.length := by rw [List.length_take]; omega
  exact Nat.le_trans h1 (Nat.mul_le_mul h2 (Nat.le_refl _))
theorem valS_lt {ls : List (List Nat)} (h : ∀ l ∈ ls, small l) {n : Nat} (hn : ∀ l ∈ ls, l.length ≤ n) : valS ls ≤ ls.length * 1000000000 ^ n := by
  induction ls with
  | nil => simp [valS]
  | cons l ls ih =>
    have h1 := ih (fun m hm => h m (List.mem_cons_of_mem _ hm)) (fun m hm => hn m (List.mem_cons_of_mem _ hm))
    have h2 := val_lt (h l List.mem_cons_self)
    have h3 := Nat.pow_le_pow_right (n := 1000000000) (by omega) (hn l List.mem_cons_self)
    simp only [valS, List.map_cons, List.sum_cons, List.length_cons] at h1 ⊢
    rw [Nat.add_mul]; omega
def mostL (ls : List (List Nat)) : Nat := ls.foldl (fun m l => max m l.length) 0
theorem mostL_take {ls : List (List Nat)} {k : Nat} (h : k < ls.length) : mostL (ls.take (k + 1)) = max (mostL (ls.take k)) ls[k].length := by
  unfold mostL
  rw [← List.take_append_getElem h, List.foldl_append]
  simp only [List.foldl_cons, List.foldl_nil]
theorem mostL_ge (ls : List (List Nat)) : ∀ l ∈ ls, l.length ≤ mostL ls := by
  have key : ∀ (ls : List (List Nat)) (m : Nat), m ≤ ls.foldl (fun m l => max m l.length) m ∧ ∀ l ∈ ls, l.length ≤ ls.foldl (fun m l => max m l.length) m := by
    intro ls
    induction ls with
    | nil => intro m; exact ⟨Nat.le_refl _, fun l h => by cases h⟩
    | cons a ls ih =>
      intro m
      obtain ⟨h1, h2⟩ := ih (max m a.length)
      refine ⟨by rw [List.foldl_cons]; omega, fun l hl => ?_⟩
      rw [List.foldl_cons]
      rcases List.mem_cons.mp hl with rfl | hl
      · omega
      · exact h2 l hl
  exact (key ls 0).2
theorem mostL_le {ls : List (List Nat)} {n : Nat} (h : ∀ l ∈ ls, l.length ≤ n) : mostL ls ≤ n := by
  have key : ∀ (ls : List (List Nat)) (m : Nat), m ≤ n → (∀ l ∈ ls, l.length ≤ n) → ls.foldl (fun m l => max m l.length) m ≤ n := by
    intro ls
    induction ls with
    | nil => intro m h _; exact h
    | cons a ls ih =>
      intro m hm hl
      rw [List.foldl_cons]
      exact ih _ (by have := hl a List.mem_cons_self; omega) fun l h => hl l (List.mem_cons_of_mem _ h)
  exact key ls 0 (by omega) h
end Go.Proofs.YtfndnjmnakdglaaGreatDoor
namespace Go.Proofs.YtfndnjmnakdglaaGreatDoor
open Go Go.Vm
variable [Tel]
set_option linter.unusedSectionVars false
set_option linter.unusedVariables false
set_option linter.unusedSimpArgs false
theorem rem_u64 (a : Nat) (s : St) : vbin .rem (.int .u64 (a : Int)) (.int .u64 1000000000) s = .ok (.int .u64 ((a % 1000000000 : Nat) : Int)) s := by
  exact (vbin_rem s .u64 (a : Int) 1000000000 (by decide)).trans rfl
theorem quo_u64 {a : Nat} (h : a ≤ 18446744073709551615) (s : St) : vbin .quo (.int .u64 (a : Int)) (.int .u64 1000000000) s = .ok (.int .u64 ((a / 1000000000 : Nat) : Int)) s := by
  rw [vbin_quo s .u64 (a : Int) 1000000000 (by decide)]
  have e : Int.tdiv (a : Int) 1000000000 = ((a / 1000000000 : Nat) : Int) := rfl
  rw [e, wrap_u64 (by omega) (by omega)]
theorem set_mid (ds : List Nat) (n x : Nat) : (ds ++ List.replicate (n + 1) 0).set ds.length x = (ds ++ [x]) ++ List.replicate n 0 := by
  rw [List.set_append_right _ _ (Nat.le_refl _), Nat.sub_self, List.replicate_succ, List.set_cons_zero]; simp
def fixL : Nat → Nat → List Nat
  | 0, _ => []
  | n + 1, x => x % 1000000000 :: fixL n (x / 1000000000)
theorem fixL_eq (ds : List Nat) (h : small ds) : ds = fixL ds.length (val ds) := by
  induction ds with
  | nil => rfl
  | cons a l ih =>
    have h1 : a < 1000000000 := h a List.mem_cons_self
    have h2 := ih fun b hb => h b (List.mem_cons_of_mem _ hb)
    simp only [List.length_cons, fixL, val]
    have e1 : (a + 1000000000 * val l) % 1000000000 = a := by omega
    have e2 : (a + 1000000000 * val l) / 1000000000 = val l := by omega
    rw [e1, e2, ← h2]
theorem fixL_len (n : Nat) : ∀ x, (fixL n x).length = n := by
  induction n with
  | zero => intro x; rfl
  | succ n ih => intro x; simp [fixL, ih]
theorem fixL_small (n : Nat) : ∀ x, small (fixL n x) := by
  induction n with
  | zero => intro x a h; cases h
  | succ n ih =>
    intro x a h
    rcases List.mem_cons.mp h with rfl | h
    · omega
    · exact ih _ a h
theorem fixL_val (n : Nat) : ∀ x, x < 1000000000 ^ n → val (fixL n x) = x := by
  induction n with
  | zero => intro x h; simp at h; subst h; rfl
  | succ n ih =>
    intro x h
    rw [Nat.pow_succ] at h
    rw [fixL, val, ih _ (by omega)]; omega
theorem trim0_pre (l : List Nat) : trim0 l <+: l := by
  have h := List.dropWhile_suffix (fun a : Nat => decide (a = 0)) (l := l.reverse)
  have h2 := List.reverse_prefix.mpr h
  rw [List.reverse_reverse] at h2
  exact h2
theorem pre_at {a b : List Nat} (h : a <+: b) {i : Nat} (hi : i < a.length) : b[i]? = some a[i] := by
  obtain ⟨t, rfl⟩ := h
  rw [List.getElem?_append_left hi, List.getElem?_eq_getElem hi]
theorem nats_trim {s : St} (ds : List Nat) (hl : ds.length ≤ 140737488355328) (cap : Nat) (ex : Bool) : Nats s (.ts (cellsN ds) (trim0 ds).length cap ex) (trim0 ds) := by
  have := trim0_le ds
  refine nats_first _ (by omega) cap ex (ov_nats ds) fun i hi => ?_
  unfold cellsN
  rw [List.getElem?_map, pre_at (trim0_pre ds) hi]; rfl
theorem valS_take0 (ls : List (List Nat)) : valS (ls.map (·.take 0)) = 0 := by
  induction ls with
  | nil => rfl
  | cons l ls ih =>
    simp only [valS, List.map_cons, List.sum_cons, List.take_zero, val] at ih ⊢
    omega
theorem sum_ok (s : St) (v : AV) (ls : List (List Nat)) (hr : Room s) (hn : s.n.val ≤ 1000059000) (hv : Nss s v ls) (hs : ∀ l ∈ ls, small l) (hb : ∀ l ∈ ls, l.length ≤ 1000000) (hm : ls.length ≤ 1000) : ∃ r, CA F.nat_sum [v] s = .ok r s ∧ ∀ t, Nats t r (lims (valS ls)) := by
  have hmost := hv.most
  have hML := mostL_le hb
  have hvl := hv.vlen
  obtain ⟨M, hM⟩ : ∃ M, M = mostL ls := ⟨_, rfl⟩
  rw [← hM] at hML
  obtain ⟨D, hD⟩ : ∃ D, D = fixL (M + 1) (valS ls) := ⟨_, rfl⟩
  have hDl : D.length = M + 1 := by rw [hD, fixL_len]
  have hlt : valS ls < 1000000000 ^ (M + 1) := by
    have h4 := valS_lt hs (n := M) (fun l hl => by rw [hM]; exact mostL_ge ls l hl)
    have h6 : ls.length * 1000000000 ^ M ≤ 1000 * 1000000000 ^ M := Nat.mul_le_mul hm (Nat.le_refl _)
    have h7 : 0 < 1000000000 ^ M := Nat.pow_pos (by omega)
    rw [Nat.pow_succ]
    omega
  have hend : ∀ ds c, ds.length = M + 1 → small ds → val ds + 1000000000 ^ (M + 1) * c = valS ls → ds = D ∧ lims (valS ls) = trim0 ds := by
    intro ds c h1 h2 h3
    have hc : c = 0 := by
      rcases Nat.eq_zero_or_pos c with h0 | h0
      · exact h0
      · exfalso
        have h5 : 1000000000 ^ (M + 1) * 1 ≤ 1000000000 ^ (M + 1) * c := Nat.mul_le_mul (Nat.le_refl _) h0
        omega
    subst hc
    rw [Nat.mul_zero, Nat.add_zero] at h3
    refine ⟨by rw [hD, ← h1, ← h3]; exact fixL_eq ds h2, by rw [trim0_eq h2, h3]⟩
  refine ⟨.ts (cellsN D) (trim0 D).length (trim0 D).length false, ?_, fun t => ?_⟩
  rotate_left
  · have h2 : small D ∧ val D = valS ls := by rw [hD]; exact ⟨fixL_small _ _, fixL_val _ _ hlt⟩
    rw [← h2.2, ← trim0_eq h2.1]
    exact nats_trim D (by omega) _ _
  refine fn_of code_nat_sum (by simp) ?_
  simp only [go_sem, ↓reduceIte, Nat.reduceMod, Nat.reduceEqDiff, Nat.reduceAdd, Nat.reduceMul, Nat.reduceSub, Nat.reduceLeDiff, Nat.reduceLT, Int.reduceEq, Int.reduceLT, Int.reduceLE, Int.reduceAdd, Int.reduceSub, Int.reduceNeg, reduceCtorEq, Nat.reduceShiftRight, Nat.reduceAnd, Nat.reduceBNe, hvl]
  refine W_inv (fun k f τ => ∃ i : Nat, Sx s [] = τ ∧ k = ls.length - i ∧ i ≤ ls.length ∧ (vv 0).get f = v ∧ (vv 3).get f = .int .i64 (mostL (ls.take i) : Int) ∧ (vv 11).get f = v ∧ (vv 12).get f = .int .i64 (ls.length : Int) ∧ (vv 13).get f = .int .i64 (i : Int)) ?_ ⟨0, rfl, rfl, by omega, ?_⟩
  · rintro k f τ ⟨i, rfl, rfl, hi, g0, g3, g11, g12, g13⟩
    by_cases c1 : i < ls.length
    · obtain ⟨w, hw, hld⟩ := nss_at hv c1
      simp only [go_sem, ↓reduceIte, Nat.reduceMod, Nat.reduceEqDiff, Nat.reduceAdd, Nat.reduceMul, Nat.reduceSub, Nat.reduceLeDiff, Nat.reduceLT, Int.reduceEq, Int.reduceLT, Int.reduceLE, Int.reduceAdd, Int.reduceSub, Int.reduceNeg, reduceCtorEq, Nat.reduceShiftRight, Nat.reduceAnd, Nat.reduceBNe, g0, g3, g11, g12, g13, Int.ofNat_lt, c1, hv.ia c1, hld, hw.vlen]
      refine ⟨ls.length - (i + 1), by omega, i + 1, rfl, by omega, ?_⟩
      rw [wrap_i64 (by omega) (by omega), mostL_take c1]
      refine ⟨?_, ?_⟩ <;> congr 1; omega
    · have e : i = ls.length := by omega
      subst e
      have ew : IntKind.wrap .i64 ((M : Int) + 1) = ((M + 1 : Nat) : Int) := by rw [wrap_i64 (by omega) (by omega)]; omega
      have hmk : vmksl 4 [.int .u32 0] (.int .i64 ((M + 1 : Nat) : Int)) (.int .i64 ((M + 1 : Nat) : Int)) (Sx s []) = .ok (.sl (nm s 0) 0 (M + 1) (M + 1) 0) (Sx s [.cells (cellsN (List.replicate (M + 1) 0))]) := by
        rw [vmksl_eq (l := M + 1) (c := M + 1) (bytes := 4) hr (by simp) (by omega) (by unfold limit; omega) (by unfold limit; omega), cellsN_rep]; rfl
      have hx1 := ext_Sx (s := s) (l := [.cells (cellsN (List.replicate (M + 1) 0))]) hr (by simp)
      have hr1 := hr.Sx (l := [.cells (cellsN (List.replicate (M + 1) 0))]) (by simp; omega) (by simp)
      have hn1 := Sx_n (s := s) (l := [.cells (cellsN (List.replicate (M + 1) 0))]) hr (by simp)
      have o1 := Sx_obj? (s := s) (l := [.cells (cellsN (List.replicate (M + 1) 0))]) hr (by simp) (i := 0) rfl
      have v0 := nm_val hr (k := 0) (by omega)
      simp only [List.length_singleton] at hn1
      generalize Sx s [.cells (cellsN (List.replicate (M + 1) 0))] = σ0 at *
      simp only [go_sem, ↓reduceIte, Nat.reduceMod, Nat.reduceEqDiff, Nat.reduceAdd, Nat.reduceMul, Nat.reduceSub, Nat.reduceLeDiff, Nat.reduceLT, Int.reduceEq, Int.reduceLT, Int.reduceLE, Int.reduceAdd, Int.reduceSub, Int.reduceNeg, reduceCtorEq, Nat.reduceShiftRight, Nat.reduceAnd, Nat.reduceBNe, g0, g3, g11, g12, g13, Int.ofNat_lt, c1, List.take_length, ← hM, ew, hmk]
      generalize hb0 : nm s 0 = b at *
      refine W_inv (fun k f τ => ∃ (i : Nat) (σ : St) (ds : List Nat) (c : Nat), Sx σ [] = τ ∧ Room σ ∧ Ext s σ ∧ s.n.val + 1 ≤ σ.n.val ∧ k = M + 1 - i ∧ i ≤ M + 1 ∧ ds.length = i ∧ small ds ∧ val ds + 1000000000 ^ i * c = valS (ls.map (·.take i)) ∧ c ≤ ls.length ∧ σ.obj b = .cells (cellsN (ds ++ List.replicate (M + 1 - i) 0)) ∧
        (vv 0).get f = v ∧ (vv 6).get f = .sl b 0 (M + 1) (M + 1) 0 ∧ (vv 7).get f = .int .u64 (c : Int) ∧ (vv 26).get f = .int .i64 ((M + 1 : Nat) : Int) ∧ (vv 27).get f = .int .i64 (i : Int)) ?_ ⟨0, σ0, [], 0, Sx_nil _, hr1, hx1, by omega, rfl, by omega, rfl, (fun a h => by cases h), ?_, by omega, ?_, ?_⟩
      · rintro k f τ ⟨i, σ, ds, c, rfl, hr2, hx, hn2, rfl, hi2, hdl, hds, hval, hc, ho, g0, g6, g7, g26, g27⟩
        have w2 : b.val < σ.n.val := by omega
        by_cases c2 : i < M + 1
        · simp only [go_sem, ↓reduceIte, Nat.reduceMod, Nat.reduceEqDiff, Nat.reduceAdd, Nat.reduceMul, Nat.reduceSub, Nat.reduceLeDiff, Nat.reduceLT, Int.reduceEq, Int.reduceLT, Int.reduceLE, Int.reduceAdd, Int.reduceSub, Int.reduceNeg, reduceCtorEq, Nat.reduceShiftRight, Nat.reduceAnd, Nat.reduceBNe, g0, g6, g7, g26, g27, Int.ofNat_lt, c2, hvl]
          refine W_inv (fun k f τ => ∃ (j : Nat), Sx σ [] = τ ∧ k = ls.length - j ∧ j ≤ ls.length ∧
            (vv 0).get f = v ∧ (vv 6).get f = .sl b 0 (M + 1) (M + 1) 0 ∧ (vv 7).get f = .int .u64 ((c + colS (ls.take j) i : Nat) : Int) ∧ (vv 8).get f = .int .i64 (i : Int) ∧ (vv 26).get f = .int .i64 ((M + 1 : Nat) : Int) ∧ (vv 27).get f = .int .i64 (i : Int) ∧ (vv 30).get f = v ∧ (vv 31).get f = .int .i64 (ls.length : Int) ∧ (vv 32).get f = .int .i64 (j : Int)) ?_ ⟨0, rfl, rfl, by omega, ?_⟩
          · rintro k f τ ⟨j, rfl, rfl, hj, g0, g6, g7, g8, g26, g27, g30, g31, g32⟩
            by_cases c3 : j < ls.length
            · obtain ⟨w, hw, hld⟩ := nss_at (hv.ext hx _ fun r l ⟨t, w, h1, h2⟩ => ⟨t, w, h1, h2.x hx⟩) c3
              by_cases c4 : i < (ls[j]).length
              · simp only [go_sem, ↓reduceIte, Nat.reduceMod, Nat.reduceEqDiff, Nat.reduceAdd, Nat.reduceMul, Nat.reduceSub, Nat.reduceLeDiff, Nat.reduceLT, Int.reduceEq, Int.reduceLT, Int.reduceLE, Int.reduceAdd, Int.reduceSub, Int.reduceNeg, reduceCtorEq, Nat.reduceShiftRight, Nat.reduceAnd, Nat.reduceBNe, g0, g6, g7, g8, g26, g27, g30, g31, g32, Int.ofNat_lt, c3, hv.ia c3, hld, hw.vlen, c4, hw.ia c4, hw.u32 c4]
                refine ⟨ls.length - (j + 1), by omega, j + 1, rfl, by omega, ?_⟩
                have h1 := colS_take c3 i
                have h2 : lim ls[j] i = (ls[j])[i] := by unfold lim; rw [List.getElem?_eq_getElem c4]; rfl
                have h3 := colS_take_le hs (j + 1) i
                have h4 : ls.length * 999999999 ≤ 1000 * 999999999 := Nat.mul_le_mul hm (Nat.le_refl _)
                rw [h2] at h1
                rw [wrap_u64 (x := ((ls[j])[i] : Int)) (by omega) (by omega), wrap_u64 (by omega) (by omega), wrap_i64 (by omega) (by omega)]
                exact ⟨by congr 1; omega, rfl⟩
              · simp only [go_sem, ↓reduceIte, Nat.reduceMod, Nat.reduceEqDiff, Nat.reduceAdd, Nat.reduceMul, Nat.reduceSub, Nat.reduceLeDiff, Nat.reduceLT, Int.reduceEq, Int.reduceLT, Int.reduceLE, Int.reduceAdd, Int.reduceSub, Int.reduceNeg, reduceCtorEq, Nat.reduceShiftRight, Nat.reduceAnd, Nat.reduceBNe, g0, g6, g7, g8, g26, g27, g30, g31, g32, Int.ofNat_lt, c3, hv.ia c3, hld, hw.vlen, c4]
                refine ⟨ls.length - (j + 1), by omega, j + 1, rfl, by omega, ?_⟩
                have h1 := colS_take c3 i
                have h2 : lim ls[j] i = 0 := by unfold lim; rw [List.getElem?_eq_none (by omega)]; rfl
                rw [wrap_i64 (by omega) (by omega)]
                exact ⟨by congr 1; omega, rfl⟩
            · have e : j = ls.length := by omega
              subst e
              obtain ⟨x, hxe⟩ : ∃ x, x = c + colS ls i := ⟨_, rfl⟩
              have h3 := colS_le hs i
              have h4 : ls.length * 999999999 ≤ 1000 * 999999999 := Nat.mul_le_mul hm (Nat.le_refl _)
              have ew2 : IntKind.wrap .u32 ((x % 1000000000 : Nat) : Int) = ((x % 1000000000 : Nat) : Int) := wrap_u32 (by omega) (by omega)
              have e1 : M + 1 - i = (M + 1 - (i + 1)) + 1 := by omega
              have hst : vstore 1 (.ptr b i) (.int .u32 ((x % 1000000000 : Nat) : Int)) (Sx σ []) = .ok Vm.undef (Sx (σ.put b (.cells (cellsN ((ds ++ [x % 1000000000]) ++ List.replicate (M + 1 - (i + 1)) 0)))) []) := by
                have ho' : (Sx σ []).obj b = .cells (cellsN (ds ++ List.replicate (M + 1 - i) 0)) := ho
                rw [vstore_el ho' (one_int _ _) (by rw [cellsN_len]; simp; omega), cellsN_set, e1, ← set_mid, hdl]; rfl
              rw [List.take_length, ← hxe] at g7
              simp only [go_sem, ↓reduceIte, Nat.reduceMod, Nat.reduceEqDiff, Nat.reduceAdd, Nat.reduceMul, Nat.reduceSub, Nat.reduceLeDiff, Nat.reduceLT, Int.reduceEq, Int.reduceLT, Int.reduceLE, Int.reduceAdd, Int.reduceSub, Int.reduceNeg, reduceCtorEq, Nat.reduceShiftRight, Nat.reduceAnd, Nat.reduceBNe, g0, g6, g7, g8, g26, g27, g30, g31, g32, Int.ofNat_lt, c3, rem_u64, ew2, viaddr_sl c2, hst, quo_u64 (show x ≤ 18446744073709551615 by omega)]
              refine ⟨M + 1 - (i + 1), by omega, i + 1, _, ds ++ [x % 1000000000], x / 1000000000, Sx_nil _, hr2.put w2 _, hx.putO (by omega) _, (by show _ ≤ (σ.put b _).n.val; rw [put_n]; omega), rfl, by omega, by simp [hdl], ?_, ?_, ?_, put_self _ _ _, ?_⟩
              · intro a ha
                rcases List.mem_append.mp ha with ha | ha
                · exact hds a ha
                · simp only [List.mem_singleton] at ha; omega
              · rw [val_snoc, hdl, valS_take, ← hval, Nat.pow_succ, Nat.mul_assoc, Nat.add_assoc, ← Nat.mul_add, Nat.mod_add_div, hxe, Nat.mul_add]; omega
              · have h5 : ls.length * 999999999 + ls.length = ls.length * 1000000000 := by omega
                omega
              · rw [wrap_i64 (by omega) (by omega)]; exact ⟨rfl, rfl⟩
          · simp only [go_sem, ↓reduceIte, Nat.reduceMod, Nat.reduceEqDiff, Nat.reduceAdd, Nat.reduceMul, Nat.reduceSub, Nat.reduceLeDiff, Nat.reduceLT, Int.reduceEq, Int.reduceLT, Int.reduceLE, Int.reduceAdd, Int.reduceSub, Int.reduceNeg, reduceCtorEq, Nat.reduceShiftRight, Nat.reduceAnd, Nat.reduceBNe]
            exact ⟨g0, g6, by rw [g7]; simp [colS], g26, g27, rfl⟩
        · have e : i = M + 1 := by omega
          subst e
          have e3 : ls.map (·.take (M + 1)) = ls := by
            conv => rhs; rw [← List.map_id ls]
            refine List.map_congr_left fun l hl => ?_
            have := mostL_ge ls l hl
            rw [List.take_of_length_le (by omega)]; rfl
          rw [e3] at hval
          obtain ⟨e4, e5⟩ := hend ds c hdl hds hval
          rw [Nat.sub_self, List.replicate_zero, List.append_nil] at ho
          have ft := trim_ok σ b ds (M + 1) hr2 w2 (by omega) (by omega) ho
          rw [hdl] at ft
          rw [← e4]
          simp only [go_sem, ↓reduceIte, Nat.reduceMod, Nat.reduceEqDiff, Nat.reduceAdd, Nat.reduceMul, Nat.reduceSub, Nat.reduceLeDiff, Nat.reduceLT, Int.reduceEq, Int.reduceLT, Int.reduceLE, Int.reduceAdd, Int.reduceSub, Int.reduceNeg, reduceCtorEq, Nat.reduceShiftRight, Nat.reduceAnd, Nat.reduceBNe, g0, g6, g7, g26, g27, Int.ofNat_lt, c2, Sx_nil, ft]
          refine settled_fz hx ?_
          have hf := Fz.slN (n := s.n.val) (s := σ) b 0 (trim0 ds).length (M + 1) 0 (cellsN ds) (cellsN ds) (by omega) ho (by simp) (ov_row (ov_nats ds) σ)
          exact hf
      · have e3 := valS_take0 ls
        rw [e3]; rfl
      · rw [o1]; rfl
      · simp only [go_sem, ↓reduceIte, Nat.reduceMod, Nat.reduceEqDiff, Nat.reduceAdd, Nat.reduceMul, Nat.reduceSub, Nat.reduceLeDiff, Nat.reduceLT, Int.reduceEq, Int.reduceLT, Int.reduceLE, Int.reduceAdd, Int.reduceSub, Int.reduceNeg, reduceCtorEq, Nat.reduceShiftRight, Nat.reduceAnd, Nat.reduceBNe]
        exact ⟨g0, rfl, rfl⟩
  · simp only [go_sem, ↓reduceIte, Nat.reduceMod, Nat.reduceEqDiff, Nat.reduceAdd, Nat.reduceMul, Nat.reduceSub, Nat.reduceLeDiff, Nat.reduceLT, Int.reduceEq, Int.reduceLT, Int.reduceLE, Int.reduceAdd, Int.reduceSub, Int.reduceNeg, reduceCtorEq, Nat.reduceShiftRight, Nat.reduceAnd, Nat.reduceBNe]
    exact ⟨rfl, rfl⟩
end Go.Proofs.YtfndnjmnakdglaaGreatDoor
namespace Go.Proofs.YtfndnjmnakdglaaGreatDoor
open Go Go.Vm
variable [Tel]
set_option linter.unusedSectionVars false
set_option linter.unusedVariables false
set_option linter.unusedSimpArgs false
theorem hd_of {l : List Nat} (h : natIs l = true) : hd l = l := by unfold hd; rw [if_pos h]
theorem vh_of {l : List Nat} (h : natIs l = true) : vh l = val l := by unfold vh; rw [hd_of h]
theorem nss_two {s : St} {L : List AO} (hr : Room s) (hl : L.length ≤ 5000) {i : Nat} {v w : AV} {l m : List Nat} (hi : L[i]? = some (.cells [v, w])) (hv : Nats (Sx s L) v l) (hw : Nats (Sx s L) w m) : Nss (Sx s L) (.sl (nm s i) 0 2 2 0) [l, m] := by
  obtain ⟨h1, h2, h3⟩ := isl_lit hr hl hi (n := 2) (by unfold limit; omega) 2 0
  refine ⟨h1, rfl, fun j hj => ?_⟩
  rw [h2]
  match j, hj with
  | 0, _ => exact ⟨[w], v, rfl, hv⟩
  | 1, _ => exact ⟨[], w, rfl, hw⟩
theorem add_ok (s : St) (v w : AV) (l m : List Nat) (hr : Room s) (hn : s.n.val ≤ 1000058000) (h1 : l.length ≤ 1000000) (h2 : m.length ≤ 1000000) (hv : Nats s v l) (hw : Nats s w m) : ∃ r, CA F.nat_Add [v, w] s = .ok r s ∧ ∀ t, Nats t r (lims (vh l + vh m)) := by
  have f1 := held_ok (Sx s []) v l hv
  have f2 := held_ok (Sx s []) w m hw
  have r1 := held_rep hv
  have r2 := held_rep hw
  have i1 := natIs_small (hd_is l)
  have i2 := natIs_small (hd_is m)
  have l1 := hd_len l
  have l2 := hd_len m
  unfold vh
  generalize (if natIs l = true then v else .nils) = v' at *
  generalize (if natIs m = true then w else .nils) = w' at *
  have hx := ext_Sx (s := s) (l := [.cells [v', w']]) hr (by simp)
  obtain ⟨r, h3, h4⟩ := sum_ok (Sx s [.cells [v', w']]) (.sl (nm s 0) 0 2 2 0) [hd l, hd m] (hr.Sx (by simp; omega) (by simp)) (by rw [Sx_n hr (by simp)]; simp; omega) (nss_two hr (by simp) rfl (r1.x hx) (r2.x hx))
    (by intro a ha; simp at ha; rcases ha with rfl | rfl <;> assumption) (by intro a ha; simp at ha; rcases ha with rfl | rfl <;> omega) (by simp)
  refine ⟨r, ?_, ?_⟩
  rotate_left
  · have e : valS [hd l, hd m] = val (hd l) + val (hd m) := by simp [valS]
    rw [e] at h4; exact h4
  refine fn_of code_nat_Add (by simp) ?_
  simp only [go_sem, ↓reduceIte, Nat.reduceMod, Nat.reduceEqDiff, Nat.reduceAdd, Nat.reduceMul, Nat.reduceSub, Nat.reduceLeDiff, Nat.reduceLT, Int.reduceEq, Int.reduceLT, Int.reduceLE, Int.reduceAdd, Int.reduceSub, Int.reduceNeg, reduceCtorEq, Nat.reduceShiftRight, Nat.reduceAnd, Nat.reduceBNe, hr, f1, f2, r1.one, r2.one, h3]
  exact settled_ov hx (h4 s).sl.ov
theorem val_app_le {a b : List Nat} (hb : natIs b = true) (ha : natIs a = true) (h : val b < val a) : b.length ≤ a.length := by
  rcases Nat.lt_or_ge a.length b.length with h1 | h1
  · have := val_shorter ha hb h1; omega
  · exact h1
theorem sub_ok (s : St) (v w : AV) (l m : List Nat) (hr : Room s) (hn : s.n.val + 9 * l.length + 20 ≤ 1000059000) (h1 : l.length ≤ 1000000) (hv : Nats s v l) (hw : Nats s w m) : ∃ r, CA F.nat_Sub [v, w] s = .ok r s ∧ ∀ t, Nats t r (lims (vh l - vh m)) := by
  have f1 := held_ok (Sx s []) v l hv
  have f2 := held_ok (Sx s []) w m hw
  have r1 := held_rep hv
  have r2 := held_rep hw
  have i1 := hd_is l
  have i2 := hd_is m
  have l1 := hd_len l
  have q1 := natIs_small i1
  have q2 := natIs_small i2
  unfold vh
  generalize (if natIs l = true then v else .nils) = v' at *
  generalize (if natIs m = true then w else .nils) = w' at *
  generalize hd l = A at *
  generalize hd m = B at *
  have fc := cmp_ok (Sx s []) v' w' A B hr (by show s.n.val + _ + _ ≤ _; omega) r1 r2
  rw [vh_of i1, vh_of i2] at fc
  by_cases c1 : val A ≤ val B
  · have c1' : cmpI (val A) (val B) ≤ 0 := by unfold cmpI; split <;> omega
    refine ⟨.nils, ?_, fun t => by rw [Nat.sub_eq_zero_of_le c1, lims_0]; exact nats_nil t⟩
    refine fn_of code_nat_Sub (by simp) ?_
    simp only [go_sem, ↓reduceIte, Nat.reduceMod, Nat.reduceEqDiff, Nat.reduceAdd, Nat.reduceMul, Nat.reduceSub, Nat.reduceLeDiff, Nat.reduceLT, Int.reduceEq, Int.reduceLT, Int.reduceLE, Int.reduceAdd, Int.reduceSub, Int.reduceNeg, reduceCtorEq, Nat.reduceShiftRight, Nat.reduceAnd, Nat.reduceBNe, f1, f2, fc, c1']
    exact settled_ov (Ext.refl s) (ov_nils _)
  have c1' : ¬ cmpI (val A) (val B) ≤ 0 := by unfold cmpI; rw [if_neg (by omega), if_pos (by omega)]; omega
  have hBA := val_app_le i2 i1 (by omega : val B < val A)
  obtain ⟨n, hnA⟩ : ∃ n, n = A.length := ⟨_, rfl⟩
  obtain ⟨D, hD⟩ : ∃ D, D = fixL n (val A - val B) := ⟨_, rfl⟩
  have hDl : D.length = n := by rw [hD, fixL_len]
  have hlt := val_lt q1
  have hDv : val D = val A - val B := by rw [hD]; exact fixL_val _ _ (by rw [hnA]; omega)
  have hDs : small D := by rw [hD]; exact fixL_small _ _
  refine ⟨.ts (cellsN D) (trim0 D).length (trim0 D).length false, ?_, fun t => by rw [← hDv, ← trim0_eq hDs]; exact nats_trim D (by omega) _ _⟩
  have hmk : vmksl 4 [.int .u32 0] (.int .i64 (n : Int)) (.int .i64 (n : Int)) (Sx s []) = .ok (.sl (nm s 0) 0 n n 0) (Sx s [.cells (cellsN (List.replicate n 0))]) := by
    rw [vmksl_eq (l := n) (c := n) (bytes := 4) hr (by simp) (by omega) (by unfold limit; omega) (by unfold limit; omega), cellsN_rep]; rfl
  have hx1 := ext_Sx (s := s) (l := [.cells (cellsN (List.replicate n 0))]) hr (by simp)
  have hr1 := hr.Sx (l := [.cells (cellsN (List.replicate n 0))]) (by simp; omega) (by simp)
  have hn1 := Sx_n (s := s) (l := [.cells (cellsN (List.replicate n 0))]) hr (by simp)
  have o1 := Sx_obj? (s := s) (l := [.cells (cellsN (List.replicate n 0))]) hr (by simp) (i := 0) rfl
  have v0 := nm_val hr (k := 0) (by omega)
  simp only [List.length_singleton] at hn1
  generalize Sx s [.cells (cellsN (List.replicate n 0))] = σ0 at *
  refine fn_of code_nat_Sub (by simp) ?_
  simp only [go_sem, ↓reduceIte, Nat.reduceMod, Nat.reduceEqDiff, Nat.reduceAdd, Nat.reduceMul, Nat.reduceSub, Nat.reduceLeDiff, Nat.reduceLT, Int.reduceEq, Int.reduceLT, Int.reduceLE, Int.reduceAdd, Int.reduceSub, Int.reduceNeg, reduceCtorEq, Nat.reduceShiftRight, Nat.reduceAnd, Nat.reduceBNe, f1, f2, fc, c1', r1.vlen, ← hnA, hmk]
  generalize hb0 : nm s 0 = b at *
  refine W_inv (fun k f τ => ∃ (i : Nat) (σ : St) (ds : List Nat) (c : Nat), Sx σ [] = τ ∧ Room σ ∧ Ext s σ ∧ s.n.val + 1 ≤ σ.n.val ∧ k = n - i ∧ i ≤ n ∧ ds.length = i ∧ small ds ∧ val (A.take i) + 1000000000 ^ i * c = val ds + val (B.take i) ∧ c ≤ 1 ∧ σ.obj b = .cells (cellsN (ds ++ List.replicate (n - i) 0)) ∧
    (vv 1).get f = w' ∧ (vv 5).get f = .sl b 0 n n 0 ∧ (vv 6).get f = .int .u32 (c : Int) ∧ (vv 21).get f = v' ∧ (vv 22).get f = .int .i64 (n : Int) ∧ (vv 23).get f = .int .i64 (i : Int)) ?_ ⟨0, σ0, [], 0, Sx_nil _, hr1, hx1, by omega, rfl, by omega, rfl, (fun a h => by cases h), rfl, by omega, (by rw [o1]; rfl), ?_⟩
  · rintro k f τ ⟨i, σ, ds, c, rfl, hr2, hx, hn2, rfl, hi2, hdl, hds, hval, hc, ho, g1, g5, g6, g21, g22, g23⟩
    have w2 : b.val < σ.n.val := by omega
    have ho' : (Sx σ []).obj b = .cells (cellsN (ds ++ List.replicate (n - i) 0)) := ho
    have hx' : Ext s (Sx σ []) := hx
    by_cases c2 : i < n
    · have c2' : i < A.length := by omega
      have hA := q1 A[i] (List.getElem_mem c2')
      have e1 : n - i = (n - (i + 1)) + 1 := by omega
      have hst : ∀ x : Nat, vstore 1 (.ptr b i) (.int .u32 (x : Int)) (Sx σ []) = .ok Vm.undef (Sx (σ.put b (.cells (cellsN ((ds ++ [x]) ++ List.replicate (n - (i + 1)) 0)))) []) := by
        intro x
        rw [vstore_el ho' (one_int _ _) (by rw [cellsN_len]; simp; omega), cellsN_set, e1, ← set_mid, hdl]; rfl
      have hAt : val (A.take (i + 1)) = val (A.take i) + 1000000000 ^ i * A[i] := by rw [take_snoc c2', val_snoc, List.length_take, Nat.min_eq_left (by omega)]
      have hBt := val_take_lim B i
      have hBl : lim B i ≤ 999999999 := by
        unfold lim
        by_cases h : i < B.length
        · rw [List.getElem?_eq_getElem h]; have := q2 B[i] (List.getElem_mem h); simp only [Option.getD_some]; omega
        · rw [List.getElem?_eq_none (by omega)]; simp
      obtain ⟨x, hx0⟩ : ∃ x, x = c + lim B i := ⟨_, rfl⟩
      have hfin : ∀ (d c' : Nat), A[i] + 1000000000 * c' = d + x → d < 1000000000 → small (ds ++ [d]) ∧ val (A.take (i + 1)) + 1000000000 ^ (i + 1) * c' = val (ds ++ [d]) + val (B.take (i + 1)) := by
        intro d c' e1 e2
        refine ⟨fun a ha => ?_, ?_⟩
        · rcases List.mem_append.mp ha with ha | ha
          · exact hds a ha
          · simp only [List.mem_singleton] at ha; omega
        · rw [val_snoc, hdl, hAt, hBt, Nat.pow_succ, Nat.mul_assoc]
          have e4 : 1000000000 ^ i * (A[i] + 1000000000 * c') = 1000000000 ^ i * (d + (c + lim B i)) := by rw [e1, hx0]
          rw [Nat.mul_add, Nat.mul_add, Nat.mul_add] at e4
          omega
      have eb1 : IntKind.wrap .u32 ((A[i] : Int) + 1000000000) = ((A[i] + 1000000000 : Nat) : Int) := by rw [wrap_u32 (by omega) (by omega)]; omega
      have eb2 : A[i] < x → IntKind.wrap .u32 (((A[i] + 1000000000 : Nat) : Int) - (x : Int)) = ((A[i] + 1000000000 - x : Nat) : Int) := by intro h; rw [wrap_u32 (by omega) (by omega)]; omega
      have es : ¬ A[i] < x → IntKind.wrap .u32 ((A[i] : Int) - (x : Int)) = ((A[i] - x : Nat) : Int) := by intro h; rw [wrap_u32 (by omega) (by omega)]; omega
      by_cases c4 : i < B.length
      · have hlB : lim B i = B[i] := by unfold lim; rw [List.getElem?_eq_getElem c4]; rfl
        have ewx : IntKind.wrap .u32 ((c : Int) + (B[i] : Int)) = (x : Int) := by rw [wrap_u32 (by omega) (by omega)]; omega
        by_cases c5 : A[i] < x
        · have c5' : (A[i] : Int) < (x : Int) := by omega
          simp only [go_sem, ↓reduceIte, Nat.reduceMod, Nat.reduceEqDiff, Nat.reduceAdd, Nat.reduceMul, Nat.reduceSub, Nat.reduceLeDiff, Nat.reduceLT, Int.reduceEq, Int.reduceLT, Int.reduceLE, Int.reduceAdd, Int.reduceSub, Int.reduceNeg, reduceCtorEq, Nat.reduceShiftRight, Nat.reduceAnd, Nat.reduceBNe, g1, g5, g6, g21, g22, g23, Int.ofNat_lt, c2, r1.ia c2', (r1.u32 c2' hx'), r2.vlen, c4, r2.ia c4, (r2.u32 c4 hx'), ewx, viaddr_sl c2, c5', eb1, eb2 c5, hst]
          refine ⟨n - (i + 1), by omega, i + 1, _, ds ++ [A[i] + 1000000000 - x], 1, Sx_nil _, hr2.put w2 _, hx.putO (by omega) _, (by show _ ≤ (σ.put b _).n.val; rw [put_n]; omega), rfl, by omega, by simp [hdl], (hfin (A[i] + 1000000000 - x) 1 (by omega) (by omega)).1, (hfin (A[i] + 1000000000 - x) 1 (by omega) (by omega)).2, by omega, put_self _ _ _, ?_⟩
          rw [wrap_i64 (by omega) (by omega)]; exact ⟨rfl, rfl⟩
        · have c5' : ¬ (A[i] : Int) < (x : Int) := by omega
          simp only [go_sem, ↓reduceIte, Nat.reduceMod, Nat.reduceEqDiff, Nat.reduceAdd, Nat.reduceMul, Nat.reduceSub, Nat.reduceLeDiff, Nat.reduceLT, Int.reduceEq, Int.reduceLT, Int.reduceLE, Int.reduceAdd, Int.reduceSub, Int.reduceNeg, reduceCtorEq, Nat.reduceShiftRight, Nat.reduceAnd, Nat.reduceBNe, g1, g5, g6, g21, g22, g23, Int.ofNat_lt, c2, r1.ia c2', (r1.u32 c2' hx'), r2.vlen, c4, r2.ia c4, (r2.u32 c4 hx'), ewx, viaddr_sl c2, c5', es c5, hst]
          refine ⟨n - (i + 1), by omega, i + 1, _, ds ++ [A[i] - x], 0, Sx_nil _, hr2.put w2 _, hx.putO (by omega) _, (by show _ ≤ (σ.put b _).n.val; rw [put_n]; omega), rfl, by omega, by simp [hdl], (hfin (A[i] - x) 0 (by omega) (by omega)).1, (hfin (A[i] - x) 0 (by omega) (by omega)).2, by omega, put_self _ _ _, ?_⟩
          rw [wrap_i64 (by omega) (by omega)]; exact ⟨rfl, rfl⟩
      · have hlB : lim B i = 0 := by unfold lim; rw [List.getElem?_eq_none (by omega)]; rfl
        have hxc : c = x := by omega
        rw [hxc] at g6
        by_cases c5 : A[i] < x
        · have c5' : (A[i] : Int) < (x : Int) := by omega
          simp only [go_sem, ↓reduceIte, Nat.reduceMod, Nat.reduceEqDiff, Nat.reduceAdd, Nat.reduceMul, Nat.reduceSub, Nat.reduceLeDiff, Nat.reduceLT, Int.reduceEq, Int.reduceLT, Int.reduceLE, Int.reduceAdd, Int.reduceSub, Int.reduceNeg, reduceCtorEq, Nat.reduceShiftRight, Nat.reduceAnd, Nat.reduceBNe, g1, g5, g6, g21, g22, g23, Int.ofNat_lt, c2, r1.ia c2', (r1.u32 c2' hx'), r2.vlen, c4, viaddr_sl c2, c5', eb1, eb2 c5, hst]
          refine ⟨n - (i + 1), by omega, i + 1, _, ds ++ [A[i] + 1000000000 - x], 1, Sx_nil _, hr2.put w2 _, hx.putO (by omega) _, (by show _ ≤ (σ.put b _).n.val; rw [put_n]; omega), rfl, by omega, by simp [hdl], (hfin (A[i] + 1000000000 - x) 1 (by omega) (by omega)).1, (hfin (A[i] + 1000000000 - x) 1 (by omega) (by omega)).2, by omega, put_self _ _ _, ?_⟩
          rw [wrap_i64 (by omega) (by omega)]; exact ⟨rfl, rfl⟩
        · have c5' : ¬ (A[i] : Int) < (x : Int) := by omega
          simp only [go_sem, ↓reduceIte, Nat.reduceMod, Nat.reduceEqDiff, Nat.reduceAdd, Nat.reduceMul, Nat.reduceSub, Nat.reduceLeDiff, Nat.reduceLT, Int.reduceEq, Int.reduceLT, Int.reduceLE, Int.reduceAdd, Int.reduceSub, Int.reduceNeg, reduceCtorEq, Nat.reduceShiftRight, Nat.reduceAnd, Nat.reduceBNe, g1, g5, g6, g21, g22, g23, Int.ofNat_lt, c2, r1.ia c2', (r1.u32 c2' hx'), r2.vlen, c4, viaddr_sl c2, c5', es c5, hst]
          refine ⟨n - (i + 1), by omega, i + 1, _, ds ++ [A[i] - x], 0, Sx_nil _, hr2.put w2 _, hx.putO (by omega) _, (by show _ ≤ (σ.put b _).n.val; rw [put_n]; omega), rfl, by omega, by simp [hdl], (hfin (A[i] - x) 0 (by omega) (by omega)).1, (hfin (A[i] - x) 0 (by omega) (by omega)).2, by omega, put_self _ _ _, ?_⟩
          rw [wrap_i64 (by omega) (by omega)]; exact ⟨rfl, rfl⟩
    · have e : i = n := by omega
      subst e
      have e3 : A.take i = A := by rw [List.take_of_length_le (by omega)]
      have e4 : B.take i = B := by rw [List.take_of_length_le (by omega)]
      rw [e3, e4] at hval
      have h5 := val_lt hds
      rw [hdl] at h5
      have hc0 : c = 0 := by
        rcases Nat.eq_zero_or_pos c with h0 | h0
        · exact h0
        · exfalso
          have : c = 1 := by omega
          subst this
          omega
      have e5 : ds = D := by
        rw [fixL_eq ds hds, hdl, hD]; congr 1
        subst hc0; omega
      rw [Nat.sub_self, List.replicate_zero, List.append_nil] at ho
      have ft := trim_ok σ b ds i hr2 w2 (by omega) (by omega) ho
      rw [hdl] at ft
      rw [← e5]
      simp only [go_sem, ↓reduceIte, Nat.reduceMod, Nat.reduceEqDiff, Nat.reduceAdd, Nat.reduceMul, Nat.reduceSub, Nat.reduceLeDiff, Nat.reduceLT, Int.reduceEq, Int.reduceLT, Int.reduceLE, Int.reduceAdd, Int.reduceSub, Int.reduceNeg, reduceCtorEq, Nat.reduceShiftRight, Nat.reduceAnd, Nat.reduceBNe, g1, g5, g6, g21, g22, g23, Int.ofNat_lt, c2, Sx_nil, ft]
      refine settled_fz hx ?_
      exact Fz.slN (n := s.n.val) (s := σ) b 0 (trim0 ds).length i 0 (cellsN ds) (cellsN ds) (by omega) ho (by simp) (ov_row (ov_nats ds) σ)
  · simp only [go_sem, ↓reduceIte, Nat.reduceMod, Nat.reduceEqDiff, Nat.reduceAdd, Nat.reduceMul, Nat.reduceSub, Nat.reduceLeDiff, Nat.reduceLT, Int.reduceEq, Int.reduceLT, Int.reduceLE, Int.reduceAdd, Int.reduceSub, Int.reduceNeg, reduceCtorEq, Nat.reduceShiftRight, Nat.reduceAnd, Nat.reduceBNe]
    exact ⟨rfl, rfl⟩
end Go.Proofs.YtfndnjmnakdglaaGreatDoor
namespace Go.Proofs.YtfndnjmnakdglaaGreatDoor
open Go Go.Vm
variable [Tel]
set_option linter.unusedSectionVars false
set_option linter.unusedVariables false
set_option linter.unusedSimpArgs false
def zadd0 (x y : Z) : Z :=
  if x.neg = y.neg then ⟨x.neg && decide (lims (val x.mag + val y.mag) ≠ []), lims (val x.mag + val y.mag)⟩
  else if val y.mag < val x.mag then ⟨x.neg && decide (lims (val x.mag - val y.mag) ≠ []), lims (val x.mag - val y.mag)⟩
  else ⟨y.neg && decide (lims (val y.mag - val x.mag) ≠ []), lims (val y.mag - val x.mag)⟩
def zadd (z w : Z) : Z := zadd0 (zh z) (zh w)
theorem zh_nat (z : Z) : natIs (zh z).mag = true := by
  unfold zh
  cases h : zIs z
  · rfl
  · unfold zIs at h
    simp only [Bool.and_eq_true] at h
    exact h.1
theorem zh_len (z : Z) : (zh z).mag.length ≤ z.mag.length := by unfold zh; split <;> simp
theorem whole_Add_ok (s : St) (n m n2 m2 : AV) (z w : Z) (hr : Room s) (hn : s.n.val + 9 * z.mag.length + 9 * w.mag.length + 200 ≤ 1000058000) (h1 : z.mag.length ≤ 1000000) (h2 : w.mag.length ≤ 1000000) (hz : RZ s n m z) (hw : RZ s n2 m2 w) : ∃ r, CA F.whole_Add [.agg [n, m], .agg [n2, m2]] s = .ok (.agg [.bool (zadd z w).neg, r]) s ∧ ∀ t, Nats t r (zadd z w).mag := by
  obtain ⟨L0, hL0⟩ : ∃ L0 : List AO, L0 = [.cells [n, m], .cells [n2, m2], .cells [.bool false, .nils], .dead, .dead, .dead, .dead, .dead, .dead, .dead, .dead] := ⟨_, rfl⟩
  have hl0 : L0.length = 11 := by rw [hL0]; rfl
  have hx := ext_Sx (s := s) (l := L0) hr (by omega)
  have hr0 := hr.Sx (l := L0) (by omega) (by omega)
  have hn0 := Sx_n (s := s) (l := L0) hr (by omega)
  have fa := of_ok (Sx s L0) n m z hr0 (by omega) (hz.x hx)
  have fb := of_ok (Sx s L0) n2 m2 w hr0 (by omega) (hw.x hx)
  have hz1 := zh_rep hz
  have hw1 := zh_rep hw
  have lz := zh_len z
  have lw := zh_len w
  have nz := zh_nat z
  have nw := zh_nat w
  rw [if_cells2] at fa fb
  rw [hL0] at fa fb
  unfold zadd
  generalize zh z = x at *
  generalize zh w = y at *
  generalize (if zIs z = true then n else AV.bool false) = n' at *
  generalize (if zIs z = true then m else AV.nils) = m' at *
  generalize (if zIs w = true then n2 else AV.bool false) = n2' at *
  generalize (if zIs w = true then m2 else AV.nils) = m2' at *
  obtain ⟨xn, xm⟩ := x
  obtain ⟨yn, ym⟩ := y
  obtain ⟨rfl, hz2⟩ := hz1
  obtain ⟨rfl, hw2⟩ := hw1
  simp only at hz2 hw2 lz lw nz nw
  clear hL0 hx hr0 hn0
  obtain ⟨L, hL⟩ : ∃ L : List AO, L = [.cells [n, m], .cells [n2, m2], .cells [.bool false, .nils], .dead, .dead, .dead, .dead, .cells [m', .bool xn], .cells [m2', .bool yn], .dead, .dead, .dead, .dead, .dead, .dead, .dead, .dead, .dead, .dead, .dead, .dead, .dead, .dead, .dead] := ⟨_, rfl⟩
  have hl : L.length = 24 := by rw [hL]; rfl
  have hx := ext_Sx (s := s) (l := L) hr (by omega)
  have hr1 := hr.Sx (l := L) (by omega) (by omega)
  have hn1 := Sx_n (s := s) (l := L) hr (by omega)
  obtain ⟨r, ha1, ha2⟩ := add_ok (Sx s L) m' m2' xm ym hr1 (by omega) (by omega) (by omega) (hz2.x hx) (hw2.x hx)
  rw [vh_of nz, vh_of nw] at ha2
  by_cases c1 : xn = yn
  · have ew := whole_ok (Sx s L) r _ yn hr1 (by omega) (ha2 _)
    subst c1
    refine ⟨r, ?_, fun t => ?_⟩
    rotate_left
    · unfold zadd0; rw [if_pos rfl]; exact ha2 t
    have e0 : (zadd0 ⟨xn, xm⟩ ⟨xn, ym⟩).neg = (xn && decide (lims (val xm + val ym) ≠ [])) := by unfold zadd0; rw [if_pos rfl]
    rw [e0]
    rw [hL] at ha1 ew
    refine fn_of code_whole_Add (by simp) ?_
    simp only [go_sem, ↓reduceIte, Nat.reduceMod, Nat.reduceEqDiff, Nat.reduceAdd, Nat.reduceMul, Nat.reduceSub, Nat.reduceLeDiff, Nat.reduceLT, Int.reduceEq, Int.reduceLT, Int.reduceLE, Int.reduceAdd, Int.reduceSub, Int.reduceNeg, reduceCtorEq, Nat.reduceShiftRight, Nat.reduceAnd, Nat.reduceBNe, hr]
    refine W_drawn hr _ (by simp) ?_
    simp only [go_sem, ↓reduceIte, Nat.reduceMod, Nat.reduceEqDiff, Nat.reduceAdd, Nat.reduceMul, Nat.reduceSub, Nat.reduceLeDiff, Nat.reduceLT, Int.reduceEq, Int.reduceLT, Int.reduceLE, Int.reduceAdd, Int.reduceSub, Int.reduceNeg, reduceCtorEq, Nat.reduceShiftRight, Nat.reduceAnd, Nat.reduceBNe, hr, fa, fb, hz2.one, hw2.one]
    refine W_drawn hr _ (by simp) ?_
    simp only [go_sem, ↓reduceIte, Nat.reduceMod, Nat.reduceEqDiff, Nat.reduceAdd, Nat.reduceMul, Nat.reduceSub, Nat.reduceLeDiff, Nat.reduceLT, Int.reduceEq, Int.reduceLT, Int.reduceLE, Int.reduceAdd, Int.reduceSub, Int.reduceNeg, reduceCtorEq, Nat.reduceShiftRight, Nat.reduceAnd, Nat.reduceBNe, hr, ha1, (ha2 s).one, ew]
    exact settled_ov (ext_Sx hr (by simp)) (ov2 (ov_bool _ _) (ha2 s).sl.ov)
  · obtain ⟨L1, hL1⟩ : ∃ L : List AO, L = [.cells [n, m], .cells [n2, m2], .cells [.bool false, .nils], .dead, .dead, .dead, .dead, .cells [m', .bool xn], .cells [m2', .bool yn], .dead, .dead] := ⟨_, rfl⟩
    have hl1 : L1.length = 11 := by rw [hL1]; rfl
    have hx1 := ext_Sx (s := s) (l := L1) hr (by omega)
    have hr2 := hr.Sx (l := L1) (by omega) (by omega)
    have hn2 := Sx_n (s := s) (l := L1) hr (by omega)
    have fo := over_ok (Sx s L1) m' m2' xm ym hr2 (by omega) (hz2.x hx1) (hw2.x hx1)
    rw [vh_of nz, vh_of nw, hL1] at fo
    clear hL1 hx1 hr2 hn2 ha1 ha2
    by_cases c2 : val ym < val xm
    · obtain ⟨r, ha1, ha2⟩ := sub_ok (Sx s L) m' m2' xm ym hr1 (by omega) (by omega) (hz2.x hx) (hw2.x hx)
      rw [vh_of nz, vh_of nw] at ha2
      have ew := whole_ok (Sx s L) r _ xn hr1 (by omega) (ha2 _)
      have e1 : zadd0 ⟨xn, xm⟩ ⟨yn, ym⟩ = ⟨xn && decide (lims (val xm - val ym) ≠ []), lims (val xm - val ym)⟩ := by unfold zadd0; rw [if_neg c1, if_pos c2]
      rw [e1]
      refine ⟨r, ?_, ha2⟩
      rw [hL] at ha1 ew
      refine fn_of code_whole_Add (by simp) ?_
      simp only [go_sem, ↓reduceIte, Nat.reduceMod, Nat.reduceEqDiff, Nat.reduceAdd, Nat.reduceMul, Nat.reduceSub, Nat.reduceLeDiff, Nat.reduceLT, Int.reduceEq, Int.reduceLT, Int.reduceLE, Int.reduceAdd, Int.reduceSub, Int.reduceNeg, reduceCtorEq, Nat.reduceShiftRight, Nat.reduceAnd, Nat.reduceBNe, hr]
      refine W_drawn hr _ (by simp) ?_
      simp only [go_sem, ↓reduceIte, Nat.reduceMod, Nat.reduceEqDiff, Nat.reduceAdd, Nat.reduceMul, Nat.reduceSub, Nat.reduceLeDiff, Nat.reduceLT, Int.reduceEq, Int.reduceLT, Int.reduceLE, Int.reduceAdd, Int.reduceSub, Int.reduceNeg, reduceCtorEq, Nat.reduceShiftRight, Nat.reduceAnd, Nat.reduceBNe, hr, fa, fb, hz2.one, hw2.one, c1, fo, c2]
      refine W_drawn hr _ (by simp) ?_
      simp only [go_sem, ↓reduceIte, Nat.reduceMod, Nat.reduceEqDiff, Nat.reduceAdd, Nat.reduceMul, Nat.reduceSub, Nat.reduceLeDiff, Nat.reduceLT, Int.reduceEq, Int.reduceLT, Int.reduceLE, Int.reduceAdd, Int.reduceSub, Int.reduceNeg, reduceCtorEq, Nat.reduceShiftRight, Nat.reduceAnd, Nat.reduceBNe, hr, ha1, (ha2 s).one, ew]
      exact settled_ov (ext_Sx hr (by simp)) (ov2 (ov_bool _ _) (ha2 s).sl.ov)
    · obtain ⟨r, ha1, ha2⟩ := sub_ok (Sx s L) m2' m' ym xm hr1 (by omega) (by omega) (hw2.x hx) (hz2.x hx)
      rw [vh_of nz, vh_of nw] at ha2
      have ew := whole_ok (Sx s L) r _ yn hr1 (by omega) (ha2 _)
      have e1 : zadd0 ⟨xn, xm⟩ ⟨yn, ym⟩ = ⟨yn && decide (lims (val ym - val xm) ≠ []), lims (val ym - val xm)⟩ := by unfold zadd0; rw [if_neg c1, if_neg c2]
      rw [e1]
      refine ⟨r, ?_, ha2⟩
      rw [hL] at ha1 ew
      refine fn_of code_whole_Add (by simp) ?_
      simp only [go_sem, ↓reduceIte, Nat.reduceMod, Nat.reduceEqDiff, Nat.reduceAdd, Nat.reduceMul, Nat.reduceSub, Nat.reduceLeDiff, Nat.reduceLT, Int.reduceEq, Int.reduceLT, Int.reduceLE, Int.reduceAdd, Int.reduceSub, Int.reduceNeg, reduceCtorEq, Nat.reduceShiftRight, Nat.reduceAnd, Nat.reduceBNe, hr]
      refine W_drawn hr _ (by simp) ?_
      simp only [go_sem, ↓reduceIte, Nat.reduceMod, Nat.reduceEqDiff, Nat.reduceAdd, Nat.reduceMul, Nat.reduceSub, Nat.reduceLeDiff, Nat.reduceLT, Int.reduceEq, Int.reduceLT, Int.reduceLE, Int.reduceAdd, Int.reduceSub, Int.reduceNeg, reduceCtorEq, Nat.reduceShiftRight, Nat.reduceAnd, Nat.reduceBNe, hr, fa, fb, hz2.one, hw2.one, c1, fo, c2]
      refine W_drawn hr _ (by simp) ?_
      simp only [go_sem, ↓reduceIte, Nat.reduceMod, Nat.reduceEqDiff, Nat.reduceAdd, Nat.reduceMul, Nat.reduceSub, Nat.reduceLeDiff, Nat.reduceLT, Int.reduceEq, Int.reduceLT, Int.reduceLE, Int.reduceAdd, Int.reduceSub, Int.reduceNeg, reduceCtorEq, Nat.reduceShiftRight, Nat.reduceAnd, Nat.reduceBNe, hr, ha1, (ha2 s).one, ew]
      exact settled_ov (ext_Sx hr (by simp)) (ov2 (ov_bool _ _) (ha2 s).sl.ov)
theorem zadd_zero (z : Z) : zadd z ⟨false, []⟩ = zh z := by
  have h2 : zh ⟨false, []⟩ = ⟨false, []⟩ := rfl
  have h3 := zh_nat z
  have h4 : (zh z).neg = true → (zh z).mag ≠ [] := by
    unfold zh
    cases h : zIs z
    · intro e; cases e
    · intro e
      unfold zIs at h
      simp only [Bool.and_eq_true, Bool.or_eq_true, Bool.not_eq_true', decide_eq_true_eq] at h
      rcases h.2 with h5 | h5
      · rw [if_pos rfl, h5] at e; cases e
      · exact h5
  unfold zadd
  rw [h2]
  generalize zh z = x at *
  obtain ⟨xn, xm⟩ := x
  simp only at h3 h4
  unfold zadd0
  simp only [val, Nat.add_zero, Nat.sub_zero, lims_val h3]
  cases xn
  · simp
  · have h5 := h4 rfl
    have h6 : 0 < val xm := by
      have := mt (val_zero h3).mp h5; omega
    simp [h5, h6]
theorem splice1_2 (a b z0 z1 z2 z3 z4 z5 : AV) : splice 1 [a, b] [z0, z1, z2, z3, z4, z5] = [z0, a, b, z3, z4, z5] := rfl
def numT (z : Z) : T := .mk 1 (zh z) [] 2 []
theorem num_rep {s : St} {n m : AV} {z : Z} (hz : RZ s n m z) : RT6 s [.int .i64 1, n, m, .str [], .int .i64 2, .nils] (.mk 1 z [] 2 []) := ⟨n, m, .nils, rfl, hz, ts_nil s⟩
theorem Num_ok (s : St) (n m : AV) (z : Z) (hr : Room s) (hn : s.n.val + 9 * z.mag.length ≤ 1000050000) (h1 : z.mag.length ≤ 1000000) (hz : RZ s n m z) : ∃ cs, CA F.term_Num [.agg [n, m]] s = .ok (.agg cs) s ∧ ∀ t, RT6 t cs (numT z) := by
  have hx := ext_Sx (s := s) (l := [.cells [n, m], .cells [.int .i64 0, .bool false, .nils, .str [], .int .i64 0, .nils]]) hr (by simp)
  obtain ⟨r, hf, h2⟩ := whole_Add_ok (Sx s [.cells [n, m], .cells [.int .i64 0, .bool false, .nils, .str [], .int .i64 0, .nils]]) n m (.bool false) .nils z ⟨false, []⟩ (hr.Sx (by simp; omega) (by simp)) (by rw [Sx_n hr (by simp)]; simp; omega) h1 (by simp) (hz.x hx) ⟨rfl, nats_nil _⟩
  rw [zadd_zero] at hf h2
  refine ⟨[.int .i64 1, .bool (zh z).neg, r, .str [], .int .i64 2, .nils], ?_, fun t => num_rep ⟨rfl, h2 t⟩⟩
  refine fn_of code_term_Num (by simp) ?_
  simp only [go_sem, ↓reduceIte, Nat.reduceMod, Nat.reduceEqDiff, Nat.reduceAdd, Nat.reduceMul, Nat.reduceSub, Nat.reduceLeDiff, Nat.reduceLT, Int.reduceEq, Int.reduceLT, Int.reduceLE, Int.reduceAdd, Int.reduceSub, Int.reduceNeg, reduceCtorEq, Nat.reduceShiftRight, Nat.reduceAnd, Nat.reduceBNe, hr, hf, splice1_2]
  refine settled_ov (ext_Sx hr (by simp)) (ov_agg ?_)
  intro c hc
  simp at hc
  rcases hc with rfl | rfl | rfl | rfl | rfl | rfl
  · exact ov_int _ _ _
  · exact ov_bool _ _
  · exact (h2 s).sl.ov
  · exact ov_str _ _
  · exact ov_int _ _ _
  · exact ov_nils _
end Go.Proofs.YtfndnjmnakdglaaGreatDoor
namespace Go.Proofs.YtfndnjmnakdglaaGreatDoor
open Go Go.Vm
variable [Tel]
set_option linter.unusedSectionVars false
set_option linter.unusedVariables false
set_option linter.unusedSimpArgs false
mutual
def fewN : T → Bool
  | .mk _ n a _ ks => decide (a.length ≤ 30) && (decide (n.mag.length ≤ 4) && fewNs ks)
def fewNs : List T → Bool
  | [] => true
  | t :: l => fewN t && fewNs l
end
theorem fewN_eq (t : T) : fewN t = (decide (t.name.length ≤ 30) && (decide (t.n.mag.length ≤ 4) && fewNs t.kids)) := by cases t; rfl
theorem fewNs_all : ∀ (l : List T), (∀ i (h : i < l.length), fewN l[i] = true) → fewNs l = true
  | [], _ => rfl
  | t :: l, h => by
    rw [fewNs, Bool.and_eq_true]
    exact ⟨h 0 (by simp), fewNs_all l fun i hi => h (i + 1) (by simpa using hi)⟩
theorem fewNs_not : ∀ (l : List T) (i : Nat) (h : i < l.length), fewN l[i] = false → fewNs l = false
  | t :: l, 0, _, h => by rw [fewNs]; rw [List.getElem_cons_zero] at h; rw [h, Bool.false_and]
  | t :: l, i + 1, hi, h => by rw [fewNs, fewNs_not l i (by simpa using hi) (by simpa using h), Bool.and_false]
theorem fewNames_ok : ∀ (n : Nat) (t : T), t.size ≤ n → ∀ (s : St) (cs : List AV), Room s → s.n.val + t.size ≤ 1000059000 → RT6 s cs t → CA F.law13_fewNames [.agg cs] s = .ok (.bool (fewN t)) s := by
  intro n
  induction n with
  | zero => intro t h; have := T.size_kids t; omega
  | succ n ih =>
    intro t hln s cs hr hn h
    obtain ⟨ng, mg, kv, rfl, hz, hk⟩ := h.ex
    have hsz := T.size_kids t
    have hm := hk.most
    have hx1 := ext_Sx (s := s) (l := [.cells [.int .i64 t.op, ng, mg, .str t.name, .int .i64 t.sort, kv]]) hr (by simp)
    have hr1 := hr.Sx (l := [.cells [.int .i64 t.op, ng, mg, .str t.name, .int .i64 t.sort, kv]]) (by simp; omega) (by simp)
    have hn1 := Sx_n (s := s) (l := [.cells [.int .i64 t.op, ng, mg, .str t.name, .int .i64 t.sort, kv]]) hr (by simp)
    simp only [List.length_singleton] at hn1
    rw [fewN_eq]
    by_cases d1 : 30 < t.name.length
    · have d1' : (30 : Int) < (t.name.length : Int) := by omega
      have e : decide (t.name.length ≤ 30) = false := by simp; omega
      rw [e, Bool.false_and]
      refine fn_of code_law13_fewNames (by simp) ?_
      simp only [go_sem, ↓reduceIte, Nat.reduceMod, Nat.reduceEqDiff, Nat.reduceAdd, Nat.reduceMul, Nat.reduceSub, Nat.reduceLeDiff, Nat.reduceLT, Int.reduceEq, Int.reduceLT, Int.reduceLE, Int.reduceAdd, Int.reduceSub, Int.reduceNeg, reduceCtorEq, Nat.reduceShiftRight, Nat.reduceAnd, Nat.reduceBNe, hr, d1']
      exact settled_bool (ext_Sx hr (by simp)) rfl
    have d1' : ¬ (30 : Int) < (t.name.length : Int) := by omega
    have e1 : decide (t.name.length ≤ 30) = true := by simp; omega
    rw [e1, Bool.true_and]
    by_cases d2 : 4 < t.n.mag.length
    · have d2' : (4 : Int) < (t.n.mag.length : Int) := by omega
      have e : decide (t.n.mag.length ≤ 4) = false := by simp; omega
      rw [e, Bool.false_and]
      refine fn_of code_law13_fewNames (by simp) ?_
      simp only [go_sem, ↓reduceIte, Nat.reduceMod, Nat.reduceEqDiff, Nat.reduceAdd, Nat.reduceMul, Nat.reduceSub, Nat.reduceLeDiff, Nat.reduceLT, Int.reduceEq, Int.reduceLT, Int.reduceLE, Int.reduceAdd, Int.reduceSub, Int.reduceNeg, reduceCtorEq, Nat.reduceShiftRight, Nat.reduceAnd, Nat.reduceBNe, hr, d1', hz.mag.vlen, d2']
      exact settled_bool (ext_Sx hr (by simp)) rfl
    have d2' : ¬ (4 : Int) < (t.n.mag.length : Int) := by omega
    have e2 : decide (t.n.mag.length ≤ 4) = true := by simp; omega
    rw [e2, Bool.true_and]
    refine fn_of code_law13_fewNames (by simp) ?_
    simp only [go_sem, ↓reduceIte, Nat.reduceMod, Nat.reduceEqDiff, Nat.reduceAdd, Nat.reduceMul, Nat.reduceSub, Nat.reduceLeDiff, Nat.reduceLT, Int.reduceEq, Int.reduceLT, Int.reduceLE, Int.reduceAdd, Int.reduceSub, Int.reduceNeg, reduceCtorEq, Nat.reduceShiftRight, Nat.reduceAnd, Nat.reduceBNe, hr, d1', hz.mag.vlen, d2']
    refine W_inv (fun k f τ => ∃ i : Nat, Sx s [.cells [.int .i64 t.op, ng, mg, .str t.name, .int .i64 t.sort, kv]] = τ ∧ k = t.kids.length - i ∧ i ≤ t.kids.length ∧ (∀ j (h : j < t.kids.length), j < i → fewN t.kids[j] = true) ∧ (vv 1).get f = .ptr (nm s 0) 0 ∧ (vv 3).get f = .int .i64 (i : Int)) ?_ ⟨0, rfl, rfl, by omega, (fun j _ h => absurd h (by omega)), ?_⟩
    · rintro k f τ ⟨i, rfl, rfl, hi, ha, g1, g3⟩
      by_cases c1 : i < t.kids.length
      · obtain ⟨ds, hat⟩ := (hk.x hx1).at c1
        have hs1 := T.size_at c1
        have fi := ih t.kids[i] (by omega) _ ds hr1 (by omega) hat.t6
        cases d : fewN t.kids[i]
        · simp only [go_sem, ↓reduceIte, Nat.reduceMod, Nat.reduceEqDiff, Nat.reduceAdd, Nat.reduceMul, Nat.reduceSub, Nat.reduceLeDiff, Nat.reduceLT, Int.reduceEq, Int.reduceLT, Int.reduceLE, Int.reduceAdd, Int.reduceSub, Int.reduceNeg, reduceCtorEq, Nat.reduceShiftRight, Nat.reduceAnd, Nat.reduceBNe, hr, g1, g3, Int.ofNat_lt, c1, hk.vlen, hk.ia c1, hat.ld, fi, d, Bool.not_false]
          exact settled_bool (ext_Sx hr (by simp)) (by rw [fewNs_not _ i c1 d])
        · simp only [go_sem, ↓reduceIte, Nat.reduceMod, Nat.reduceEqDiff, Nat.reduceAdd, Nat.reduceMul, Nat.reduceSub, Nat.reduceLeDiff, Nat.reduceLT, Int.reduceEq, Int.reduceLT, Int.reduceLE, Int.reduceAdd, Int.reduceSub, Int.reduceNeg, reduceCtorEq, Nat.reduceShiftRight, Nat.reduceAnd, Nat.reduceBNe, hr, g1, g3, Int.ofNat_lt, c1, hk.vlen, hk.ia c1, hat.ld, fi, d, Bool.not_true]
          refine ⟨t.kids.length - (i + 1), by omega, i + 1, rfl, by omega, ?_, ?_⟩
          · intro j h1 h2
            by_cases e : j = i
            · subst e; exact d
            · exact ha j h1 (by omega)
          · rw [wrap_i64 (by omega) (by omega)]; congr 1
      · simp only [go_sem, ↓reduceIte, Nat.reduceMod, Nat.reduceEqDiff, Nat.reduceAdd, Nat.reduceMul, Nat.reduceSub, Nat.reduceLeDiff, Nat.reduceLT, Int.reduceEq, Int.reduceLT, Int.reduceLE, Int.reduceAdd, Int.reduceSub, Int.reduceNeg, reduceCtorEq, Nat.reduceShiftRight, Nat.reduceAnd, Nat.reduceBNe, hr, g1, g3, Int.ofNat_lt, c1, hk.vlen]
        exact settled_bool (ext_Sx hr (by simp)) (fewNs_all _ fun j hj => ha j hj (by omega)).symm
    · simp only [go_sem, ↓reduceIte, Nat.reduceMod, Nat.reduceEqDiff, Nat.reduceAdd, Nat.reduceMul, Nat.reduceSub, Nat.reduceLeDiff, Nat.reduceLT, Int.reduceEq, Int.reduceLT, Int.reduceLE, Int.reduceAdd, Int.reduceSub, Int.reduceNeg, reduceCtorEq, Nat.reduceShiftRight, Nat.reduceAnd, Nat.reduceBNe]
      rfl
def fewT (t : T) : Bool := decide (t.size ≤ 120) && fewN t
theorem fewTerm_ok (t : T) (s : St) (cs : List AV) (hr : Room s) (hn : s.n.val ≤ 1000058000) (h : RT6 s cs t) : CA F.law13_fewTerm [.agg cs] s = .ok (.bool (fewT t)) s := by
  obtain ⟨ng, mg, kv, rfl, hz, hk⟩ := h.ex
  have hx1 := ext_Sx (s := s) (l := [.cells [.int .i64 t.op, ng, mg, .str t.name, .int .i64 t.sort, kv]]) hr (by simp)
  have hr1 := hr.Sx (l := [.cells [.int .i64 t.op, ng, mg, .str t.name, .int .i64 t.sort, kv]]) (by simp; omega) (by simp)
  have hn1 := Sx_n (s := s) (l := [.cells [.int .i64 t.op, ng, mg, .str t.name, .int .i64 t.sort, kv]]) hr (by simp)
  simp only [List.length_singleton] at hn1
  have f1 := ref_Count_ok _ _ t hr1 (by omega) (h.x hx1)
  unfold fewT
  by_cases d1 : t.size ≤ 120
  · have d1' : min (t.size : Int) 401 ≤ 120 := by omega
    have f2 := fewNames_ok _ t (Nat.le_refl _) _ _ hr1 (by omega) (h.x hx1)
    refine fn_of code_law13_fewTerm (by simp) ?_
    simp only [go_sem, ↓reduceIte, Nat.reduceMod, Nat.reduceEqDiff, Nat.reduceAdd, Nat.reduceMul, Nat.reduceSub, Nat.reduceLeDiff, Nat.reduceLT, Int.reduceEq, Int.reduceLT, Int.reduceLE, Int.reduceAdd, Int.reduceSub, Int.reduceNeg, reduceCtorEq, Nat.reduceShiftRight, Nat.reduceAnd, Nat.reduceBNe, hr, f1, f2, d1']
    exact settled_bool (ext_Sx hr (by simp)) (by simp [d1])
  · have d1' : ¬ min (t.size : Int) 401 ≤ 120 := by omega
    refine fn_of code_law13_fewTerm (by simp) ?_
    simp only [go_sem, ↓reduceIte, Nat.reduceMod, Nat.reduceEqDiff, Nat.reduceAdd, Nat.reduceMul, Nat.reduceSub, Nat.reduceLeDiff, Nat.reduceLT, Int.reduceEq, Int.reduceLT, Int.reduceLE, Int.reduceAdd, Int.reduceSub, Int.reduceNeg, reduceCtorEq, Nat.reduceShiftRight, Nat.reduceAnd, Nat.reduceBNe, hr, f1, d1']
    exact settled_bool (ext_Sx hr (by simp)) (by simp [d1])
mutual
theorem fewN_tame : ∀ t : T, fewN t = true → t.tame
  | .mk _ n a _ ks, h => by
    rw [fewN] at h
    simp only [Bool.and_eq_true, decide_eq_true_eq] at h
    exact ⟨by omega, by omega, fewNs_tames ks h.2.2⟩
theorem fewNs_tames : ∀ l : List T, fewNs l = true → T.tames l
  | [], _ => trivial
  | t :: l, h => by
    rw [fewNs, Bool.and_eq_true] at h
    exact ⟨fewN_tame t h.1, fewNs_tames l h.2⟩
end
end Go.Proofs.YtfndnjmnakdglaaGreatDoor
namespace Go.Proofs.YtfndnjmnakdglaaGreatDoor
open Go Go.Vm
variable [Tel]
set_option linter.unusedSectionVars false
set_option linter.unusedVariables false
set_option linter.unusedSimpArgs false
theorem lims_one {n : Nat} (h0 : n ≠ 0) (h : n < 1000000000) : lims n = [n] := by
  rw [lims_pos h0, show n / 1000000000 = 0 by omega, lims_0, Nat.mod_eq_of_lt h]
theorem con_rep (s : St) (l : List UInt8) (k : Int) : RT6 s [.int .i64 4, .bool false, .nils, .str l, .int .i64 k, .nils] (.mk 4 ⟨false, []⟩ l k []) := ⟨_, _, .nils, rfl, ⟨rfl, nats_nil s⟩, ts_nil s⟩
theorem isT_make {op : Int} {l : List T} (h : makeE op l = 0) : isT (.mk op ⟨false, []⟩ [] (resSort op l) l) = true := by
  unfold makeE at h
  by_cases c1 : madeB op = false
  · rw [if_pos c1] at h; omega
  rw [if_neg c1] at h
  by_cases c2 : kidsOk op l.length = false
  · rw [if_pos c2] at h; omega
  rw [if_neg c2] at h
  by_cases c3 : l.all isT = false
  · rw [if_pos c3] at h; omega
  rw [if_neg c3, check_le] at h
  by_cases c4 : wrongE op l ≠ 0
  · rw [if_pos c4] at h; exact absurd h c4
  rw [if_neg c4] at h
  by_cases c5 : 400 < 1 + T.sizes l
  · rw [if_pos c5] at h; omega
  have c4' : wrongE op l = 0 := Decidable.not_not.mp c4
  have c1' : madeB op = true := by simpa using c1
  have c2' : kidsOk op l.length = true := by simpa using c2
  have c3' : l.all isT = true := by simpa using c3
  have hns : isNs l = true := by
    rw [isNs_all, List.all_eq_true]
    intro t ht
    have := List.all_eq_true.mp c3' t ht
    unfold isT at this
    rw [Bool.and_eq_true] at this
    exact this.2
  have hop : 5 ≤ op ∧ op ≤ 22 := by unfold madeB at c1'; simpa using c1'
  unfold isT
  rw [isN_eq]
  have hsz : (T.mk op ⟨false, []⟩ [] (resSort op l) l).size = 1 + T.sizes l := T.size_kids _
  rw [hsz, show decide (1 + T.sizes l ≤ 400) = true by simp; omega, show isNs (T.mk op ⟨false, []⟩ [] (resSort op l) l).kids = true from hns]
  unfold nodeOk
  simp only [T.op, T.n, T.name, T.sort, T.kids, plainB]
  rw [if_neg (by omega), if_neg (by omega), if_neg (by omega), c1', c2']
  simp [c4']
end Go.Proofs.YtfndnjmnakdglaaGreatDoor
namespace Go.Proofs.YtfndnjmnakdglaaGreatDoor
open Go Go.Vm
variable [Tel]
set_option linter.unusedSectionVars false
set_option linter.unusedVariables false
set_option linter.unusedSimpArgs false
theorem lims_len1 {n : Nat} (h : n < 1000000000) : (lims n).length ≤ 1 := by
  by_cases h0 : n = 0
  · rw [h0, lims_0]; simp
  · rw [lims_one h0 h]; simp
theorem splice0_12 (a0 a1 a2 a3 a4 a5 z0 z1 z2 z3 z4 z5 z6 z7 z8 z9 z10 z11 : AV) : splice 0 [a0, a1, a2, a3, a4, a5] [z0, z1, z2, z3, z4, z5, z6, z7, z8, z9, z10, z11] = [a0, a1, a2, a3, a4, a5, z6, z7, z8, z9, z10, z11] := rfl
theorem splice6_12 (a0 a1 a2 a3 a4 a5 z0 z1 z2 z3 z4 z5 z6 z7 z8 z9 z10 z11 : AV) : splice 6 [a0, a1, a2, a3, a4, a5] [z0, z1, z2, z3, z4, z5, z6, z7, z8, z9, z10, z11] = [z0, z1, z2, z3, z4, z5, a0, a1, a2, a3, a4, a5] := rfl
end Go.Proofs.YtfndnjmnakdglaaGreatDoor
