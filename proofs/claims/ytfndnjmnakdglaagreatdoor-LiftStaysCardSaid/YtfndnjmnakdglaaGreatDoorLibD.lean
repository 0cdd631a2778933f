/- Functions of the program: whether terms are any. No condition. -/
import Derived.Test.YtfndnjmnakdglaaGreatDoorLibC
namespace Go.Proofs.YtfndnjmnakdglaaGreatDoor
open Go Go.Vm
variable [Tel]
set_option linter.unusedSectionVars false
set_option linter.unusedVariables false
set_option linter.unusedSimpArgs false
theorem ints_ts {s : St} (l : List Int) (hl : l.length ≤ 140737488355328) (cap : Nat) (ex : Bool) : Ints s (.ts (cellsI l) l.length cap ex) l := by
  refine ⟨.ts _ _ _ _ hl (fun c hc => ?_), rfl, fun i hi => ?_⟩
  · obtain ⟨n, _, rfl⟩ := List.mem_map.mp hc; exact ov_int _ _ _
  · show ∃ t, (cellsI l).drop (i * 1) = _
    rw [Nat.mul_one, List.drop_eq_getElem_cons (by simpa [cellsI] using hi)]
    exact ⟨(cellsI l).drop (i + 1), by simp [cellsI]⟩
theorem ints_nil (s : St) : Ints s .nils [] := ⟨.nils, rfl, fun i h => by simp at h⟩
structure OwnI (n : Nat) (σ : St) (av : AV) (l : List Int) (b3 b2 b1 : Vm.Id) : Prop where
  h : (av = .nils ∧ l = []) ∨ ∃ b : Vm.Id, av = .sl b 0 l.length l.length 1 ∧ l ≠ [] ∧ σ.obj b = .cells (cellsI l) ∧ b.val < σ.n.val ∧ n ≤ b.val ∧ b.val ≠ b3.val ∧ b.val ≠ b2.val ∧ b.val ≠ b1.val
theorem OwnI.one {n : Nat} {σ : St} {av : AV} {l : List Int} {b3 b2 b1 : Vm.Id} (h : OwnI n σ av l b3 b2 b1) : av.one = true := by
  rcases h.h with ⟨rfl, _⟩ | ⟨b, rfl, _⟩ <;> rfl
theorem avI_ints (t : St) (l : List Int) (hl : l.length ≤ 140737488355328) : Ints t (avI l) l := by
  unfold avI
  by_cases h : l = []
  · subst h; exact ints_nil t
  · rw [if_neg h]; exact ints_ts l hl _ _
theorem OwnI.fz {n : Nat} {σ σ' : St} {av : AV} {l : List Int} {b3 b2 b1 : Vm.Id} (h : OwnI n σ av l b3 b2 b1) (hs : ∀ b : Vm.Id, b.val ≠ b2.val → b.val < σ.n.val → σ'.obj b = σ.obj b) : Fz n σ' av (avI l) := by
  unfold avI
  rcases h.h with ⟨rfl, rfl⟩ | ⟨b, rfl, hne, h1, h2, h3, h4, h5, h6⟩
  · exact .nils
  · rw [if_neg hne]
    refine .slN b 0 l.length l.length 1 (cellsI l) (cellsI l) h3 (by rw [hs b h5 h2]; exact h1) rfl (fun j c d hc hd => ?_)
    have hc' : (cellsI l)[j]? = some c := hc
    rw [hd] at hc'; cases hc'
    obtain ⟨m, _, rfl⟩ := List.mem_map.mp (List.mem_of_getElem? hd)
    exact .int _ _
theorem fz_agg3 {n : Nat} {s : St} {a b c a' b' c' : AV} (h1 : Fz n s a a') (h2 : Fz n s b b') (h3 : Fz n s c c') : Fz n s (.agg [a, b, c]) (.agg [a', b', c']) := .agg _ _ rfl (fzl_cons h1 (fzl_cons h2 (fzl_cons h3 (fzl_nil n s))))
theorem Sig_ok (s : St) (cs : List AV) (t : T) (hr : Room s) (hn : s.n.val + 4 * t.kids.length ≤ 1000050000) (hkl : t.kids.length ≤ 1000) (h : RT6 s cs t) : CA F.term_Sig [.agg cs] s = .ok (.agg [.str t.name, avI (t.kids.map T.sort), .int .i64 t.sort]) s := by
  obtain ⟨ng, mg, kv, rfl, hz, hk⟩ := h.ex
  generalize t.kids = l at *
  have hm := hk.most
  have hxa := ext_Sx (s := s) (l := [.cells [.int .i64 t.op, ng, mg, .str t.name, .int .i64 t.sort, kv], .cells [.str [], .nils, .int .i64 0], .cells [.str t.name, .nils, .int .i64 t.sort]]) hr (by simp)
  have hna := Sx_n (s := s) (l := [.cells [.int .i64 t.op, ng, mg, .str t.name, .int .i64 t.sort, kv], .cells [.str [], .nils, .int .i64 0], .cells [.str t.name, .nils, .int .i64 t.sort]]) hr (by simp)
  simp only [List.length_cons, List.length_nil] at hna
  have v1 := nm_val hr (k := 1) (by omega)
  have v2 := nm_val hr (k := 2) (by omega)
  have v0 := nm_val hr (k := 0) (by omega)
  have q3 := Sx_obj? (s := s) (l := [.cells [.int .i64 t.op, ng, mg, .str t.name, .int .i64 t.sort, kv], .cells [.str [], .nils, .int .i64 0], .cells [.str t.name, .nils, .int .i64 t.sort]]) hr (by simp) (i := 2) rfl
  have q2 := Sx_obj? (s := s) (l := [.cells [.int .i64 t.op, ng, mg, .str t.name, .int .i64 t.sort, kv], .cells [.str [], .nils, .int .i64 0], .cells [.str t.name, .nils, .int .i64 t.sort]]) hr (by simp) (i := 1) rfl
  refine fn_of code_term_Sig (by simp) ?_
  simp only [go_sem, ↓reduceIte, Nat.reduceMod, Nat.reduceEqDiff, Nat.reduceAdd, Nat.reduceMul, Nat.reduceSub, Nat.reduceLeDiff, Nat.reduceLT, Int.reduceEq, Int.reduceLT, Int.reduceLE, Int.reduceAdd, Int.reduceSub, Int.reduceNeg, reduceCtorEq, Nat.reduceShiftRight, Nat.reduceAnd, Nat.reduceBNe, hr, hk.one, hk.vlen]
  generalize nm s 2 = b3 at *
  generalize nm s 1 = b2 at *
  generalize nm s 0 = b1 at *
  refine W_inv (fun k f τ => ∃ (i : Nat) (σ : St) (av : AV), Sx σ [] = τ ∧ Room σ ∧ Ext s σ ∧ s.n.val + 3 ≤ σ.n.val ∧ σ.n.val ≤ s.n.val + 3 + 3 * i ∧ k = l.length - i ∧ i ≤ l.length ∧ σ.obj b3 = .cells [.str t.name, av, .int .i64 t.sort] ∧ (∃ z, σ.obj b2 = .cells z ∧ z.length = 3) ∧ OwnI s.n.val σ av ((l.take i).map T.sort) b3 b2 b2 ∧
    (vv 2).get f = .ptr b2 0 ∧ (vv 3).get f = .ptr b3 0 ∧ (vv 12).get f = kv ∧ (vv 13).get f = .int .i64 (l.length : Int) ∧ (vv 14).get f = .int .i64 (i : Int)) ?_ ⟨0, _, .nils, Sx_nil _, hr.Sx (by simp; omega) (by simp), hxa, by omega, by omega, rfl, by omega, ?_, ?_, ?_, ?_⟩
  · rintro k f τ ⟨i, σ, av, rfl, hr1, hx, hn0, hn1, rfl, hi, o3, ⟨z, o2, hz3⟩, own, g2, g3, g12, g13, g14⟩
    have hk1 := hk.x hx
    have w3 : b3.val < σ.n.val := by omega
    have w2 : b2.val < σ.n.val := by omega
    have n23 : b2.val ≠ b3.val := by omega
    by_cases c1 : i < l.length
    · obtain ⟨cs, hat⟩ := hk1.at c1
      obtain ⟨ng', mg', kv', rfl, hz', hkv'⟩ := hat.t6.ex
      have e1 : (l.take (i + 1)).map T.sort = (l.take i).map T.sort ++ [l[i].sort] := by rw [← List.take_append_getElem c1, List.map_append]; rfl
      rcases own.h with ⟨rfl, hl0⟩ | ⟨b, rfl, hne, h1, h2, h3, h4, h5, _⟩
      · have hap := vapp_one0 (s := σ) (L := [.cells [.int .i64 l[i].op, ng', mg', .str l[i].name, .int .i64 l[i].sort, kv'], .cells [.int .i64 l[i].sort]]) (bytes := 8) hr1 (by simp) (i := 1) rfl (by unfold limit; omega)
        simp only [go_sem, ↓reduceIte, Nat.reduceMod, Nat.reduceEqDiff, Nat.reduceAdd, Nat.reduceMul, Nat.reduceSub, Nat.reduceLeDiff, Nat.reduceLT, Int.reduceEq, Int.reduceLT, Int.reduceLE, Int.reduceAdd, Int.reduceSub, Int.reduceNeg, reduceCtorEq, Nat.reduceShiftRight, Nat.reduceAnd, Nat.reduceBNe, g2, g3, g12, g13, g14, Int.ofNat_lt, c1, hr1, hk1.ia c1, hat.ld, w3, o3, hap]
        refine ⟨l.length - (i + 1), by omega, i + 1, _, .sl (nm σ 2) 0 1 1 1, Sx_nil _, (hr1.put w3 _).Sx (by rw [put_n]; simp; omega) (by simp), (hx.put (by omega) _).trans (ext_Sx (hr1.put w3 _) (by simp)), ?_, ?_, rfl, by omega, ?_, ⟨z, ?_, hz3⟩, ?_, ?_⟩
        · rw [Sx_n (hr1.put w3 _) (by simp), put_n]; simp; omega
        · rw [Sx_n (hr1.put w3 _) (by simp), put_n]; simp; omega
        · rw [Sx_old (hr1.put w3 _) (by simp) (by rw [put_n]; exact w3), put_self]
        · rw [Sx_old (hr1.put w3 _) (by simp) (by rw [put_n]; exact w2), put_ne n23]; exact o2
        · rw [e1, hl0, List.nil_append]
          have vn := nm_val hr1 (k := 2) (by omega)
          refine ⟨.inr ⟨nm σ 2, rfl, by simp, ?_, ?_, by omega, by omega, by omega, by omega⟩⟩
          · have hob := Sx_obj? (s := σ.put b3 (.cells [.str t.name, .sl (nm σ 2) 0 1 1 1, .int .i64 t.sort])) (l := [.cells [.int .i64 l[i].op, ng', mg', .str l[i].name, .int .i64 l[i].sort, kv'], .cells [.int .i64 l[i].sort], .cells [.int .i64 l[i].sort]]) (hr1.put w3 _) (by simp) (i := 2) rfl
            rw [nm_put] at hob; exact hob
          · rw [vn, Sx_n (hr1.put w3 _) (by simp), put_n]; simp
        · rw [wrap_i64 (by omega) (by omega)]; congr 1
      · have hlen : ((l.take i).map T.sort).length = i := by simp; omega
        have ci : (cellsI ((l.take i).map T.sort)).length = i := by simp [cellsI]; omega
        have o3' := o3
        rw [hlen] at o3'
        have hap := vapp_one (s := σ) (L := [.cells [.int .i64 l[i].op, ng', mg', .str l[i].name, .int .i64 l[i].sort, kv'], .cells [.int .i64 l[i].sort]]) (bytes := 8) (len := i) hr1 (by simp) h2 h1 ci (i := 1) rfl (by unfold limit; omega) (by unfold limit; omega)
        have hrb := hr1.put h2 .dead
        have w3b : b3.val < (σ.put b .dead).n.val := by rw [put_n]; exact w3
        have n3b : b3.val ≠ b.val := fun e => h4 e.symm
        have n2b : b2.val ≠ b.val := fun e => h5 e.symm
        simp only [go_sem, ↓reduceIte, Nat.reduceMod, Nat.reduceEqDiff, Nat.reduceAdd, Nat.reduceMul, Nat.reduceSub, Nat.reduceLeDiff, Nat.reduceLT, Int.reduceEq, Int.reduceLT, Int.reduceLE, Int.reduceAdd, Int.reduceSub, Int.reduceNeg, reduceCtorEq, Nat.reduceShiftRight, Nat.reduceAnd, Nat.reduceBNe, g2, g3, g12, g13, g14, Int.ofNat_lt, c1, hr1, hk1.ia c1, hat.ld, w3, h2, o3', hap, put_ne n3b]
        refine ⟨l.length - (i + 1), by omega, i + 1, _, .sl (nm σ 2) 0 (i + 1) (i + 1) 1, Sx_nil _, (hrb.put w3b _).Sx (by rw [put_n, put_n]; simp; omega) (by simp), ((hx.put (by omega) _).put (by omega) _).trans (ext_Sx (hrb.put w3b _) (by simp)), ?_, ?_, rfl, by omega, ?_, ⟨z, ?_, hz3⟩, ?_, ?_⟩
        · rw [Sx_n (hrb.put w3b _) (by simp), put_n, put_n]; simp; omega
        · rw [Sx_n (hrb.put w3b _) (by simp), put_n, put_n]; simp; omega
        · rw [Sx_old (hrb.put w3b _) (by simp) (by rw [put_n]; exact w3b), put_self]
        · rw [Sx_old (hrb.put w3b _) (by simp) (by rw [put_n, put_n]; exact w2), put_ne n23, put_ne n2b]; exact o2
        · rw [e1]
          have vn := nm_val hr1 (k := 2) (by omega)
          refine ⟨.inr ⟨nm σ 2, ?_, by simp, ?_, ?_, by omega, by omega, by omega, by omega⟩⟩
          · rw [List.length_append, hlen]; rfl
          · have hob := Sx_obj? (s := (σ.put b .dead).put b3 (.cells [.str t.name, .sl (nm σ 2) 0 (i + 1) (i + 1) 1, .int .i64 t.sort])) (l := [.cells [.int .i64 l[i].op, ng', mg', .str l[i].name, .int .i64 l[i].sort, kv'], .cells [.int .i64 l[i].sort], .cells (cellsI ((l.take i).map T.sort) ++ [.int .i64 l[i].sort])]) (hrb.put w3b _) (by simp) (i := 2) rfl
            rw [nm_put, nm_put] at hob
            rw [show cellsI ((l.take i).map T.sort ++ [l[i].sort]) = cellsI ((l.take i).map T.sort) ++ [.int .i64 l[i].sort] by simp [cellsI]]
            exact hob
          · rw [vn, Sx_n (hrb.put w3b _) (by simp), put_n, put_n]; simp
        · rw [wrap_i64 (by omega) (by omega)]; congr 1
    · have e : i = l.length := by omega
      subst e
      rw [List.take_length] at own
      have hav := own.one
      simp only [go_sem, ↓reduceIte, Nat.reduceMod, Nat.reduceEqDiff, Nat.reduceAdd, Nat.reduceMul, Nat.reduceSub, Nat.reduceLeDiff, Nat.reduceLT, Int.reduceEq, Int.reduceLT, Int.reduceLE, Int.reduceAdd, Int.reduceSub, Int.reduceNeg, reduceCtorEq, Nat.reduceShiftRight, Nat.reduceAnd, Nat.reduceBNe, g2, g3, g12, g13, g14, Int.ofNat_lt, c1, hr1, w3, w2, o3, o2, hz3]
      refine settled_fz ((hx.put (by omega) _).trans (ext_Sx (hr1.put w2 _) (by simp))) (fz_agg3 (.str _) ?_ (.int _ _))
      exact own.fz (fun b hb hb2 => by rw [Sx_old (hr1.put w2 _) (by simp) (by rw [put_n]; exact hb2), put_ne hb])
  · exact q3
  · exact ⟨_, q2, rfl⟩
  · exact ⟨.inl ⟨rfl, by simp⟩⟩
  · simp only [go_sem, ↓reduceIte, Nat.reduceMod, Nat.reduceEqDiff, Nat.reduceAdd, Nat.reduceMul, Nat.reduceSub, Nat.reduceLeDiff, Nat.reduceLT, Int.reduceEq, Int.reduceLT, Int.reduceLE, Int.reduceAdd, Int.reduceSub, Int.reduceNeg, reduceCtorEq, Nat.reduceShiftRight, Nat.reduceAnd, Nat.reduceBNe]
    rfl
end Go.Proofs.YtfndnjmnakdglaaGreatDoor
namespace Go.Proofs.YtfndnjmnakdglaaGreatDoor
open Go Go.Vm
variable [Tel]
set_option linter.unusedSectionVars false
set_option linter.unusedVariables false
set_option linter.unusedSimpArgs false
def plainB (t : T) : Bool := !t.n.neg && decide (t.n.mag = []) && decide (t.name = [])
def madeB (op : Int) : Bool := decide (5 ≤ op ∧ op ≤ 22)
def nodeOk (t : T) : Bool :=
  if t.op = 1 then zIs t.n && (decide (t.name = []) && (decide (t.sort = 2) && decide (t.kids = [])))
  else if t.op = 2 ∨ t.op = 3 then plainB t && (decide (t.sort = 1) && decide (t.kids = []))
  else if t.op = 4 then !t.n.neg && (decide (t.n.mag = []) && sigOk ⟨t.name, t.kids.map T.sort, t.sort⟩)
  else madeB t.op && (plainB t && (kidsOk t.op t.kids.length && (decide (wrongE t.op t.kids = 0) && decide (t.sort = resSort t.op t.kids))))
theorem len0 {α : Type} (l : List α) : ((l.length : Int) = 0) = (l = []) := by cases l <;> simp; omega
theorem kids12 {l : List T} (h : kidsOk 12 (l.length : Int) = true) : 2 < l.length := by simp [kidsOk] at h; omega
theorem kids1 {op : Int} {l : List T} (h : kidsOk op (l.length : Int) = true) : 0 < l.length := by
  unfold kidsOk at h
  split at h
  · simp at h; omega
  · split at h
    · simp at h; omega
    · split at h <;> simp at h <;> omega
theorem kids2 {op : Int} {l : List T} (ho : op = 15 ∨ op = 16 ∨ op = 17) (h : kidsOk op (l.length : Int) = true) : l.length = 2 := by
  rcases ho with rfl | rfl | rfl <;> simp [kidsOk] at h <;> omega
theorem node_ok (s : St) (cs : List AV) (t : T) (hr : Room s) (hn : s.n.val + 4 * t.kids.length ≤ 1000049000) (hkl : t.kids.length ≤ 1000) (hb : ∀ i (h : i < t.kids.length), NumB t.kids[i]) (h : RT6 s cs t) : CA F.term_node [.agg cs] s = .ok (.bool (nodeOk t)) s := by
  have h' := h
  obtain ⟨ng, mg, kv, rfl, hz, hk⟩ := h.ex
  have hzn := hz.neg
  have hzm := hz.mag
  by_cases c1 : t.op = 1
  · have e : nodeOk t = (zIs t.n && (decide (t.name = []) && (decide (t.sort = 2) && decide (t.kids = [])))) := by simp [nodeOk, c1]
    have hw := whole_Is_ok (Sx s [.cells [.int .i64 t.op, ng, mg, .str t.name, .int .i64 t.sort, kv]]) ng mg t.n (hr.Sx (by simp; omega) (by simp)) (hz.x (ext_Sx hr (by simp)))
    rw [e]
    rw [c1] at hw ⊢
    refine fn_of code_term_node (by simp) ?_
    cases d1 : zIs t.n
    · simp only [go_sem, ↓reduceIte, Nat.reduceMod, Nat.reduceEqDiff, Nat.reduceAdd, Nat.reduceMul, Nat.reduceSub, Nat.reduceLeDiff, Nat.reduceLT, Int.reduceEq, Int.reduceLT, Int.reduceLE, Int.reduceAdd, Int.reduceSub, Int.reduceNeg, reduceCtorEq, Nat.reduceShiftRight, Nat.reduceAnd, Nat.reduceBNe, hr, hw, d1]
      exact settled_bool (ext_Sx hr (by simp)) (by simp)
    · by_cases d2 : t.name = []
      · by_cases d3 : t.sort = 2
        · rw [d2, d3] at hw ⊢
          simp only [go_sem, ↓reduceIte, Nat.reduceMod, Nat.reduceEqDiff, Nat.reduceAdd, Nat.reduceMul, Nat.reduceSub, Nat.reduceLeDiff, Nat.reduceLT, Int.reduceEq, Int.reduceLT, Int.reduceLE, Int.reduceAdd, Int.reduceSub, Int.reduceNeg, reduceCtorEq, Nat.reduceShiftRight, Nat.reduceAnd, Nat.reduceBNe, hr, hw, d1, hk.vlen, len0]
          exact settled_bool (ext_Sx hr (by simp)) (by simp)
        · rw [d2] at hw ⊢
          simp only [go_sem, ↓reduceIte, Nat.reduceMod, Nat.reduceEqDiff, Nat.reduceAdd, Nat.reduceMul, Nat.reduceSub, Nat.reduceLeDiff, Nat.reduceLT, Int.reduceEq, Int.reduceLT, Int.reduceLE, Int.reduceAdd, Int.reduceSub, Int.reduceNeg, reduceCtorEq, Nat.reduceShiftRight, Nat.reduceAnd, Nat.reduceBNe, hr, hw, d1, d3]
          exact settled_bool (ext_Sx hr (by simp)) (by simp)
      · simp only [go_sem, ↓reduceIte, Nat.reduceMod, Nat.reduceEqDiff, Nat.reduceAdd, Nat.reduceMul, Nat.reduceSub, Nat.reduceLeDiff, Nat.reduceLT, Int.reduceEq, Int.reduceLT, Int.reduceLE, Int.reduceAdd, Int.reduceSub, Int.reduceNeg, reduceCtorEq, Nat.reduceShiftRight, Nat.reduceAnd, Nat.reduceBNe, hr, hw, d1, d2]
        exact settled_bool (ext_Sx hr (by simp)) (by simp)
  by_cases c2 : t.op = 2 ∨ t.op = 3
  · have e : nodeOk t = (plainB t && (decide (t.sort = 1) && decide (t.kids = []))) := by simp only [nodeOk]; rw [if_neg c1, if_pos c2]
    have hp := plain_ok (Sx s [.cells [.int .i64 t.op, ng, mg, .str t.name, .int .i64 t.sort, kv]]) _ t (hr.Sx (by simp; omega) (by simp)) (h'.x (ext_Sx hr (by simp)))
    change _ = R.ok (.bool (plainB t)) _ at hp
    rw [e]
    rcases c2 with c3 | c3
    all_goals
      rw [c3] at hp ⊢
      refine fn_of code_term_node (by simp) ?_
      cases d1 : plainB t
      · simp only [go_sem, ↓reduceIte, Nat.reduceMod, Nat.reduceEqDiff, Nat.reduceAdd, Nat.reduceMul, Nat.reduceSub, Nat.reduceLeDiff, Nat.reduceLT, Int.reduceEq, Int.reduceLT, Int.reduceLE, Int.reduceAdd, Int.reduceSub, Int.reduceNeg, reduceCtorEq, Nat.reduceShiftRight, Nat.reduceAnd, Nat.reduceBNe, hr, hp, d1]
        exact settled_bool (ext_Sx hr (by simp)) (by simp)
      · by_cases d3 : t.sort = 1
        · rw [d3] at hp ⊢
          simp only [go_sem, ↓reduceIte, Nat.reduceMod, Nat.reduceEqDiff, Nat.reduceAdd, Nat.reduceMul, Nat.reduceSub, Nat.reduceLeDiff, Nat.reduceLT, Int.reduceEq, Int.reduceLT, Int.reduceLE, Int.reduceAdd, Int.reduceSub, Int.reduceNeg, reduceCtorEq, Nat.reduceShiftRight, Nat.reduceAnd, Nat.reduceBNe, hr, hp, d1, hk.vlen, len0]
          exact settled_bool (ext_Sx hr (by simp)) (by simp)
        · simp only [go_sem, ↓reduceIte, Nat.reduceMod, Nat.reduceEqDiff, Nat.reduceAdd, Nat.reduceMul, Nat.reduceSub, Nat.reduceLeDiff, Nat.reduceLT, Int.reduceEq, Int.reduceLT, Int.reduceLE, Int.reduceAdd, Int.reduceSub, Int.reduceNeg, reduceCtorEq, Nat.reduceShiftRight, Nat.reduceAnd, Nat.reduceBNe, hr, hp, d1, d3]
          exact settled_bool (ext_Sx hr (by simp)) (by simp)
  have c2a : ¬ t.op = 2 := fun e => c2 (.inl e)
  have c2b : ¬ t.op = 3 := fun e => c2 (.inr e)
  by_cases c4 : t.op = 4
  · have e : nodeOk t = (!t.n.neg && (decide (t.n.mag = []) && sigOk ⟨t.name, t.kids.map T.sort, t.sort⟩)) := by simp only [nodeOk]; rw [if_neg c1, if_neg c2, if_pos c4]
    have hx1 := ext_Sx (s := s) (l := [.cells [.int .i64 t.op, ng, mg, .str t.name, .int .i64 t.sort, kv]]) hr (by simp)
    have hr1 := hr.Sx (l := [.cells [.int .i64 t.op, ng, mg, .str t.name, .int .i64 t.sort, kv]]) (by simp; omega) (by simp)
    have hn1 := Sx_n (s := s) (l := [.cells [.int .i64 t.op, ng, mg, .str t.name, .int .i64 t.sort, kv]]) hr (by simp)
    simp only [List.length_cons, List.length_nil] at hn1
    have hs := Sig_ok (Sx s [.cells [.int .i64 t.op, ng, mg, .str t.name, .int .i64 t.sort, kv]]) _ t hr1 (by omega) hkl (h'.x hx1)
    have hi := IsSig_ok (Sx s [.cells [.int .i64 t.op, ng, mg, .str t.name, .int .i64 t.sort, kv]]) ⟨t.name, t.kids.map T.sort, t.sort⟩ _ hr1 (by omega) (avI_ints _ _ (by simp; omega))
    rw [e]
    rw [c4] at hs hi ⊢
    refine fn_of code_term_node (by simp) ?_
    cases d1 : t.n.neg
    · rw [d1] at hzn
      subst hzn
      by_cases d2 : t.n.mag = []
      · simp only [go_sem, ↓reduceIte, Nat.reduceMod, Nat.reduceEqDiff, Nat.reduceAdd, Nat.reduceMul, Nat.reduceSub, Nat.reduceLeDiff, Nat.reduceLT, Int.reduceEq, Int.reduceLT, Int.reduceLE, Int.reduceAdd, Int.reduceSub, Int.reduceNeg, reduceCtorEq, Nat.reduceShiftRight, Nat.reduceAnd, Nat.reduceBNe, hr, Bool.not_false, hzm.vlen, len0, d2, hs, hi]
        exact settled_bool (ext_Sx hr (by simp)) (by simp)
      · simp only [go_sem, ↓reduceIte, Nat.reduceMod, Nat.reduceEqDiff, Nat.reduceAdd, Nat.reduceMul, Nat.reduceSub, Nat.reduceLeDiff, Nat.reduceLT, Int.reduceEq, Int.reduceLT, Int.reduceLE, Int.reduceAdd, Int.reduceSub, Int.reduceNeg, reduceCtorEq, Nat.reduceShiftRight, Nat.reduceAnd, Nat.reduceBNe, hr, Bool.not_false, hzm.vlen, len0, d2]
        exact settled_bool (ext_Sx hr (by simp)) (by simp)
    · rw [d1] at hzn
      subst hzn
      simp only [go_sem, ↓reduceIte, Nat.reduceMod, Nat.reduceEqDiff, Nat.reduceAdd, Nat.reduceMul, Nat.reduceSub, Nat.reduceLeDiff, Nat.reduceLT, Int.reduceEq, Int.reduceLT, Int.reduceLE, Int.reduceAdd, Int.reduceSub, Int.reduceNeg, reduceCtorEq, Nat.reduceShiftRight, Nat.reduceAnd, Nat.reduceBNe, hr, Bool.not_true]
      exact settled_bool (ext_Sx hr (by simp)) (by simp)
  · have e : nodeOk t = (madeB t.op && (plainB t && (kidsOk t.op t.kids.length && (decide (wrongE t.op t.kids = 0) && decide (t.sort = resSort t.op t.kids))))) := by simp only [nodeOk]; rw [if_neg c1, if_neg c2, if_neg c4]
    obtain ⟨L, hL⟩ : ∃ L : List AO, L = [.cells [.int .i64 t.op, ng, mg, .str t.name, .int .i64 t.sort, kv], .dead, .dead, .dead, .dead, .dead, .dead, .dead, .dead, .dead, .dead, .dead, .dead, .dead, .dead, .dead, .dead, .dead, .dead, .dead, .dead, .dead, .dead, .dead, .dead, .dead, .dead, .dead, .dead, .dead, .dead, .dead, .dead, .dead, .dead] := ⟨_, rfl⟩
    have hlen : L.length = 35 := by rw [hL]; rfl
    have hx1 := ext_Sx (s := s) (l := L) hr (by omega)
    have hr1 := hr.Sx (l := L) (by omega) (by omega)
    have hn1 := Sx_n (s := s) (l := L) hr (by omega)
    have f1 := made_ok (Sx s L) t.op
    have f2 := plain_ok (Sx s L) _ t hr1 (h'.x hx1)
    have f3 := kids_ok (Sx s L) t.op t.kids.length
    have f4 := fun d3 : kidsOk t.op t.kids.length = true => wrong_ok (Sx s L) kv t.kids t.op hr1 (by omega) (fun e => kids12 (by rw [← e]; exact d3)) (fun _ => kids1 d3) (fun ho => kids2 ho d3) hb (hk.x hx1)
    have f5 := fun d3 : kidsOk t.op t.kids.length = true => sort_ok (Sx s L) kv t.kids t.op (fun e => by have := kids12 (l := t.kids) (by rw [← e]; exact d3); omega) (hk.x hx1)
    change _ = R.ok (.bool (madeB t.op)) _ at f1
    change _ = R.ok (.bool (plainB t)) _ at f2
    rw [hL] at f1 f2 f3 hx1
    rw [e]
    refine fn_of code_term_node (by simp) ?_
    simp only [go_sem, ↓reduceIte, Nat.reduceMod, Nat.reduceEqDiff, Nat.reduceAdd, Nat.reduceMul, Nat.reduceSub, Nat.reduceLeDiff, Nat.reduceLT, Int.reduceEq, Int.reduceLT, Int.reduceLE, Int.reduceAdd, Int.reduceSub, Int.reduceNeg, reduceCtorEq, Nat.reduceShiftRight, Nat.reduceAnd, Nat.reduceBNe, hr, c1, c2a, c2b, c4]
    refine W_drawn hr _ (by simp) ?_
    cases d1 : madeB t.op
    · simp only [go_sem, ↓reduceIte, Nat.reduceMod, Nat.reduceEqDiff, Nat.reduceAdd, Nat.reduceMul, Nat.reduceSub, Nat.reduceLeDiff, Nat.reduceLT, Int.reduceEq, Int.reduceLT, Int.reduceLE, Int.reduceAdd, Int.reduceSub, Int.reduceNeg, reduceCtorEq, Nat.reduceShiftRight, Nat.reduceAnd, Nat.reduceBNe, hr, f1, d1]
      exact settled_bool (ext_Sx hr (by simp)) (by simp)
    cases d2 : plainB t
    · simp only [go_sem, ↓reduceIte, Nat.reduceMod, Nat.reduceEqDiff, Nat.reduceAdd, Nat.reduceMul, Nat.reduceSub, Nat.reduceLeDiff, Nat.reduceLT, Int.reduceEq, Int.reduceLT, Int.reduceLE, Int.reduceAdd, Int.reduceSub, Int.reduceNeg, reduceCtorEq, Nat.reduceShiftRight, Nat.reduceAnd, Nat.reduceBNe, hr, f1, d1, f2, d2]
      exact settled_bool (ext_Sx hr (by simp)) (by simp)
    cases d3 : kidsOk t.op t.kids.length
    · simp only [go_sem, ↓reduceIte, Nat.reduceMod, Nat.reduceEqDiff, Nat.reduceAdd, Nat.reduceMul, Nat.reduceSub, Nat.reduceLeDiff, Nat.reduceLT, Int.reduceEq, Int.reduceLT, Int.reduceLE, Int.reduceAdd, Int.reduceSub, Int.reduceNeg, reduceCtorEq, Nat.reduceShiftRight, Nat.reduceAnd, Nat.reduceBNe, hr, f1, d1, f2, d2, hk.vlen, f3, d3]
      exact settled_bool (ext_Sx hr (by simp)) (by simp)
    have f4 := f4 d3
    have f5 := f5 d3
    rw [hL] at f4 f5
    by_cases d4 : wrongE t.op t.kids = 0
    · simp only [go_sem, ↓reduceIte, Nat.reduceMod, Nat.reduceEqDiff, Nat.reduceAdd, Nat.reduceMul, Nat.reduceSub, Nat.reduceLeDiff, Nat.reduceLT, Int.reduceEq, Int.reduceLT, Int.reduceLE, Int.reduceAdd, Int.reduceSub, Int.reduceNeg, reduceCtorEq, Nat.reduceShiftRight, Nat.reduceAnd, Nat.reduceBNe, hr, f1, d1, f2, d2, hk.vlen, f3, d3, f4, d4, f5]
      exact settled_bool (ext_Sx hr (by simp)) (by simp)
    · simp only [go_sem, ↓reduceIte, Nat.reduceMod, Nat.reduceEqDiff, Nat.reduceAdd, Nat.reduceMul, Nat.reduceSub, Nat.reduceLeDiff, Nat.reduceLT, Int.reduceEq, Int.reduceLT, Int.reduceLE, Int.reduceAdd, Int.reduceSub, Int.reduceNeg, reduceCtorEq, Nat.reduceShiftRight, Nat.reduceAnd, Nat.reduceBNe, hr, f1, d1, f2, d2, hk.vlen, f3, d3, f4, d4]
      exact settled_bool (ext_Sx hr (by simp)) (by simp)
end Go.Proofs.YtfndnjmnakdglaaGreatDoor
namespace Go.Vm
mutual
def T.tame : T → Prop
  | .mk _ n name _ ks => n.mag.length ≤ 1000 ∧ name.length ≤ 1000 ∧ T.tames ks
def T.tames : List T → Prop
  | [] => True
  | t :: l => T.tame t ∧ T.tames l
end
theorem T.tame_at {l : List T} (h : T.tames l) {i : Nat} (hi : i < l.length) : l[i].tame := by
  induction l generalizing i with
  | nil => simp at hi
  | cons a l ih => cases i with
    | zero => exact h.1
    | succ i => exact ih h.2 (by simpa using hi)
theorem T.tame_kids {t : T} (h : t.tame) : t.n.mag.length ≤ 1000 ∧ T.tames t.kids := by cases t; exact ⟨h.1, h.2.2⟩
theorem T.tame_name {t : T} (h : t.tame) : t.name.length ≤ 1000 := by cases t; exact h.2.1
end Go.Vm
namespace Go.Proofs.YtfndnjmnakdglaaGreatDoor
open Go Go.Vm
variable [Tel]
set_option linter.unusedSectionVars false
set_option linter.unusedVariables false
set_option linter.unusedSimpArgs false
theorem numB_of {t : T} (h : t.tame) : NumB t := fun hi => by
  have h1 := T.tame_at (T.tame_kids h).2 hi
  have h2 := (T.tame_kids h1).1
  omega
mutual
def isN : T → Bool
  | .mk op n name sort ks => isNs ks && nodeOk (.mk op n name sort ks)
def isNs : List T → Bool
  | [] => true
  | t :: l => isN t && isNs l
end
theorem isN_eq (t : T) : isN t = (isNs t.kids && nodeOk t) := by cases t; rfl
theorem isNs_all (l : List T) : isNs l = l.all isN := by
  induction l with
  | nil => rfl
  | cons a l ih => simp [isNs, ih]
theorem nodes_ok : ∀ (n : Nat) (l : List T), T.sizes l ≤ n → T.sizes l ≤ 400 → T.tames l → ∀ (s : St) (v : AV), Room s → s.n.val + T.sizes l ≤ 1000040000 → Ts s v l → CA F.term_nodes [v] s = .ok (.bool (isNs l)) s := by
  intro n
  induction n with
  | zero =>
    intro l hl _ _ s v hr hn hv
    have hlen := T.length_le l
    have e : l = [] := List.eq_nil_of_length_eq_zero (by omega)
    subst e
    refine fn_of code_term_nodes (by simp) ?_
    simp only [go_sem, ↓reduceIte, Nat.reduceMod, Nat.reduceEqDiff, Nat.reduceAdd, Nat.reduceMul, Nat.reduceSub, Nat.reduceLeDiff, Nat.reduceLT, Int.reduceEq, Int.reduceLT, Int.reduceLE, Int.reduceAdd, Int.reduceSub, Int.reduceNeg, reduceCtorEq, Nat.reduceShiftRight, Nat.reduceAnd, Nat.reduceBNe, hv.vlen, List.length_nil]
    rw [W_loop]
    simp only [go_sem, ↓reduceIte, Nat.reduceMod, Nat.reduceEqDiff, Nat.reduceAdd, Nat.reduceMul, Nat.reduceSub, Nat.reduceLeDiff, Nat.reduceLT, Int.reduceEq, Int.reduceLT, Int.reduceLE, Int.reduceAdd, Int.reduceSub, Int.reduceNeg, reduceCtorEq, Nat.reduceShiftRight, Nat.reduceAnd, Nat.reduceBNe, Int.lt_irrefl]
    exact settled_bool (Ext.refl s) rfl
  | succ n ihn =>
    intro l hl h4 ht s v hr hn hv
    have hm := hv.most
    have hle := T.length_le l
    rw [isNs_all]
    refine fn_of code_term_nodes (by simp) ?_
    simp only [go_sem, ↓reduceIte, Nat.reduceMod, Nat.reduceEqDiff, Nat.reduceAdd, Nat.reduceMul, Nat.reduceSub, Nat.reduceLeDiff, Nat.reduceLT, Int.reduceEq, Int.reduceLT, Int.reduceLE, Int.reduceAdd, Int.reduceSub, Int.reduceNeg, reduceCtorEq, Nat.reduceShiftRight, Nat.reduceAnd, Nat.reduceBNe, hv.vlen]
    refine W_inv (fun k f τ => ∃ (i : Nat) (σ : St), Sx σ [] = τ ∧ Room σ ∧ Ext s σ ∧ σ.n.val ≤ s.n.val + i ∧ k = l.length - i ∧ i ≤ l.length ∧ i ≤ T.sizes (l.take i) ∧ (l.take i).all isN = true ∧ (vv 5).get f = v ∧ (vv 6).get f = .int .i64 (l.length : Int) ∧ (vv 7).get f = .int .i64 (i : Int)) ?_ ⟨0, s, rfl, hr, Ext.refl s, by omega, rfl, by omega, by omega, by simp, ?_⟩
    · rintro k f τ ⟨i, σ, rfl, hr1, hx, hn1, rfl, hi, his, ha, g5, g6, g7⟩
      have hv1 := hv.x hx
      by_cases c1 : i < l.length
      · obtain ⟨cs, hat⟩ := hv1.at c1
        have hs := T.sizes_take l i c1
        have hs2 := T.size_at c1
        have hs3 := T.size_kids l[i]
        have hsl := T.sizes_le l (i + 1)
        have hkl := T.length_le l[i].kids
        have htm := T.tame_at ht c1
        have h6 := hat.t6
        have hlen6 := hat.len
        obtain ⟨ng, mg, kv, rfl, hz, hkv⟩ := hat.t6.ex
        obtain ⟨L, hL⟩ : ∃ L : List AO, L = [.cells [.int .i64 l[i].op, ng, mg, .str l[i].name, .int .i64 l[i].sort, kv]] := ⟨_, rfl⟩
        have hlen : L.length = 1 := by rw [hL]; rfl
        have hx2 := ext_Sx (s := σ) (l := L) hr1 (by omega)
        have hr2 := hr1.Sx (l := L) (by omega) (by omega)
        have hn2 := Sx_n (s := σ) (l := L) hr1 (by omega)
        have f1 := ihn l[i].kids (by omega) (by omega) (T.tame_kids htm).2 (Sx σ L) kv hr2 (by omega) (hkv.x hx2)
        have f2 := node_ok (Sx σ L) _ l[i] hr2 (by omega) (by omega) (fun j hj => numB_of (T.tame_at (T.tame_kids htm).2 hj)) (h6.x hx2)
        rw [hL] at f1 f2 hx2
        cases d1 : isNs l[i].kids
        · simp only [go_sem, ↓reduceIte, Nat.reduceMod, Nat.reduceEqDiff, Nat.reduceAdd, Nat.reduceMul, Nat.reduceSub, Nat.reduceLeDiff, Nat.reduceLT, Int.reduceEq, Int.reduceLT, Int.reduceLE, Int.reduceAdd, Int.reduceSub, Int.reduceNeg, reduceCtorEq, Nat.reduceShiftRight, Nat.reduceAnd, Nat.reduceBNe, g5, g6, g7, Int.ofNat_lt, c1, hr1, hv1.ia c1, hat.ld, f1, d1, Bool.not_false]
          exact settled_bool (hx.trans (ext_Sx hr1 (by simp))) (by rw [allT_false c1 (by rw [isN_eq, d1]; rfl)])
        · cases d2 : nodeOk l[i]
          · simp only [go_sem, ↓reduceIte, Nat.reduceMod, Nat.reduceEqDiff, Nat.reduceAdd, Nat.reduceMul, Nat.reduceSub, Nat.reduceLeDiff, Nat.reduceLT, Int.reduceEq, Int.reduceLT, Int.reduceLE, Int.reduceAdd, Int.reduceSub, Int.reduceNeg, reduceCtorEq, Nat.reduceShiftRight, Nat.reduceAnd, Nat.reduceBNe, g5, g6, g7, Int.ofNat_lt, c1, hr1, hv1.ia c1, hat.ld, f1, d1, Bool.not_true, Bool.not_false, f2, d2]
            exact settled_bool (hx.trans (ext_Sx hr1 (by simp))) (by rw [allT_false c1 (by rw [isN_eq, d1, d2]; rfl)])
          · simp only [go_sem, ↓reduceIte, Nat.reduceMod, Nat.reduceEqDiff, Nat.reduceAdd, Nat.reduceMul, Nat.reduceSub, Nat.reduceLeDiff, Nat.reduceLT, Int.reduceEq, Int.reduceLT, Int.reduceLE, Int.reduceAdd, Int.reduceSub, Int.reduceNeg, reduceCtorEq, Nat.reduceShiftRight, Nat.reduceAnd, Nat.reduceBNe, g5, g6, g7, Int.ofNat_lt, c1, hr1, hv1.ia c1, hat.ld, f1, d1, Bool.not_true, f2, d2]
            refine ⟨l.length - (i + 1), by omega, i + 1, _, Sx_nil _, hr1.Sx (by simp; omega) (by simp), hx.trans (ext_Sx hr1 (by simp)), ?_, rfl, by omega, by omega, ?_, ?_⟩
            · rw [Sx_n hr1 (by simp)]; simp; omega
            · rw [allT_take c1, ha, isN_eq, d1, d2]; rfl
            · rw [wrap_i64 (by omega) (by omega)]; congr 1
      · have e : i = l.length := by omega
        subst e
        rw [List.take_length] at ha
        simp only [go_sem, ↓reduceIte, Nat.reduceMod, Nat.reduceEqDiff, Nat.reduceAdd, Nat.reduceMul, Nat.reduceSub, Nat.reduceLeDiff, Nat.reduceLT, Int.reduceEq, Int.reduceLT, Int.reduceLE, Int.reduceAdd, Int.reduceSub, Int.reduceNeg, reduceCtorEq, Nat.reduceShiftRight, Nat.reduceAnd, Nat.reduceBNe, g5, g6, g7, Int.ofNat_lt, c1]
        exact settled_bool hx ha.symm
    · simp only [go_sem, ↓reduceIte, Nat.reduceMod, Nat.reduceEqDiff, Nat.reduceAdd, Nat.reduceMul, Nat.reduceSub, Nat.reduceLeDiff, Nat.reduceLT, Int.reduceEq, Int.reduceLT, Int.reduceLE, Int.reduceAdd, Int.reduceSub, Int.reduceNeg, reduceCtorEq, Nat.reduceShiftRight, Nat.reduceAnd, Nat.reduceBNe]
      rfl
def isT (t : T) : Bool := decide (t.size ≤ 400) && isN t
theorem all_ok (s : St) (v : AV) (l : List T) (ht : T.tames l) (hr : Room s) (hn : s.n.val + 2 * l.length ≤ 1000039000) (hv : Ts s v l) : CA F.term_all [v] s = .ok (.bool (l.all isT)) s := by
  have hm := hv.most
  refine fn_of code_term_all (by simp) ?_
  simp only [go_sem, ↓reduceIte, Nat.reduceMod, Nat.reduceEqDiff, Nat.reduceAdd, Nat.reduceMul, Nat.reduceSub, Nat.reduceLeDiff, Nat.reduceLT, Int.reduceEq, Int.reduceLT, Int.reduceLE, Int.reduceAdd, Int.reduceSub, Int.reduceNeg, reduceCtorEq, Nat.reduceShiftRight, Nat.reduceAnd, Nat.reduceBNe, hv.vlen]
  refine W_inv (fun k f τ => ∃ (i : Nat) (σ : St), Sx σ [] = τ ∧ Room σ ∧ Ext s σ ∧ σ.n.val ≤ s.n.val + 2 * i ∧ k = l.length - i ∧ i ≤ l.length ∧ (l.take i).all isT = true ∧ (vv 5).get f = v ∧ (vv 6).get f = .int .i64 (l.length : Int) ∧ (vv 7).get f = .int .i64 (i : Int)) ?_ ⟨0, s, rfl, hr, Ext.refl s, by omega, rfl, by omega, by simp, ?_⟩
  · rintro k f τ ⟨i, σ, rfl, hr1, hx, hn1, rfl, hi, ha, g5, g6, g7⟩
    have hv1 := hv.x hx
    by_cases c1 : i < l.length
    · obtain ⟨cs, hat⟩ := hv1.at c1
      have htm := T.tame_at ht c1
      have h6 := hat.t6
      have hlen6 := hat.len
      obtain ⟨ng, mg, kv, rfl, hz, hkv⟩ := hat.t6.ex
      obtain ⟨L, hL⟩ : ∃ L : List AO, L = [.cells [.int .i64 l[i].op, ng, mg, .str l[i].name, .int .i64 l[i].sort, kv]] := ⟨_, rfl⟩
      have hlen : L.length = 1 := by rw [hL]; rfl
      have hx2 := ext_Sx (s := σ) (l := L) hr1 (by omega)
      have hr2 := hr1.Sx (l := L) (by omega) (by omega)
      have hn2 := Sx_n (s := σ) (l := L) hr1 (by omega)
      obtain ⟨M, hM⟩ : ∃ M : List AO, M = [.cells [.int .i64 l[i].op, ng, mg, .str l[i].name, .int .i64 l[i].sort, kv], .cells [.int .i64 l[i].op, ng, mg, .str l[i].name, .int .i64 l[i].sort, kv]] := ⟨_, rfl⟩
      have hlenM : M.length = 2 := by rw [hM]; rfl
      have hr3 := hr1.Sx (l := M) (by omega) (by omega)
      have hn3 := Sx_n (s := σ) (l := M) hr1 (by omega)
      have f1 := Count_ok (Sx σ L) _ l[i] hr2 (by omega) (h6.x hx2)
      have o1 := one_sl (L := M) (i := 1) hr1 (by omega) (by rw [hM]; rfl) h6
      rw [hL] at f1 hx2
      by_cases c2 : (400 : Int) < min 401 (l[i].size : Int)
      · simp only [go_sem, ↓reduceIte, Nat.reduceMod, Nat.reduceEqDiff, Nat.reduceAdd, Nat.reduceMul, Nat.reduceSub, Nat.reduceLeDiff, Nat.reduceLT, Int.reduceEq, Int.reduceLT, Int.reduceLE, Int.reduceAdd, Int.reduceSub, Int.reduceNeg, reduceCtorEq, Nat.reduceShiftRight, Nat.reduceAnd, Nat.reduceBNe, g5, g6, g7, Int.ofNat_lt, c1, hr1, hv1.ia c1, hat.ld, hlen6, f1, c2]
        exact settled_bool (hx.trans (ext_Sx hr1 (by simp))) (by rw [allT_false c1 (by rw [isT, decide_eq_false (by omega)]; rfl)])
      · have h4 : l[i].size ≤ 400 := by omega
        have f2 := nodes_ok _ [l[i]] (Nat.le_refl _) (by simp [T.sizes]; omega) ⟨htm, trivial⟩ (Sx σ M) _ hr3 (by simp [T.sizes]; omega) o1
        rw [hM] at f2
        cases d : isN l[i]
        · have d' : isNs [l[i]] = false := by simp [isNs, d]
          simp only [go_sem, ↓reduceIte, Nat.reduceMod, Nat.reduceEqDiff, Nat.reduceAdd, Nat.reduceMul, Nat.reduceSub, Nat.reduceLeDiff, Nat.reduceLT, Int.reduceEq, Int.reduceLT, Int.reduceLE, Int.reduceAdd, Int.reduceSub, Int.reduceNeg, reduceCtorEq, Nat.reduceShiftRight, Nat.reduceAnd, Nat.reduceBNe, g5, g6, g7, Int.ofNat_lt, c1, hr1, hv1.ia c1, hat.ld, hlen6, f1, c2, f2, d', Bool.not_false]
          exact settled_bool (hx.trans (ext_Sx hr1 (by simp))) (by rw [allT_false c1 (by rw [isT, d]; simp)])
        · have d' : isNs [l[i]] = true := by simp [isNs, d]
          simp only [go_sem, ↓reduceIte, Nat.reduceMod, Nat.reduceEqDiff, Nat.reduceAdd, Nat.reduceMul, Nat.reduceSub, Nat.reduceLeDiff, Nat.reduceLT, Int.reduceEq, Int.reduceLT, Int.reduceLE, Int.reduceAdd, Int.reduceSub, Int.reduceNeg, reduceCtorEq, Nat.reduceShiftRight, Nat.reduceAnd, Nat.reduceBNe, g5, g6, g7, Int.ofNat_lt, c1, hr1, hv1.ia c1, hat.ld, hlen6, f1, c2, f2, d', Bool.not_true]
          refine ⟨l.length - (i + 1), by omega, i + 1, _, Sx_nil _, hr1.Sx (by simp; omega) (by simp), hx.trans (ext_Sx hr1 (by simp)), ?_, rfl, by omega, ?_, ?_⟩
          · rw [Sx_n hr1 (by simp)]; simp; omega
          · rw [allT_take c1, ha, isT, d, decide_eq_true h4]; rfl
          · rw [wrap_i64 (by omega) (by omega)]; congr 1
    · have e : i = l.length := by omega
      subst e
      rw [List.take_length] at ha
      simp only [go_sem, ↓reduceIte, Nat.reduceMod, Nat.reduceEqDiff, Nat.reduceAdd, Nat.reduceMul, Nat.reduceSub, Nat.reduceLeDiff, Nat.reduceLT, Int.reduceEq, Int.reduceLT, Int.reduceLE, Int.reduceAdd, Int.reduceSub, Int.reduceNeg, reduceCtorEq, Nat.reduceShiftRight, Nat.reduceAnd, Nat.reduceBNe, g5, g6, g7, Int.ofNat_lt, c1]
      exact settled_bool hx ha.symm
  · simp only [go_sem, ↓reduceIte, Nat.reduceMod, Nat.reduceEqDiff, Nat.reduceAdd, Nat.reduceMul, Nat.reduceSub, Nat.reduceLeDiff, Nat.reduceLT, Int.reduceEq, Int.reduceLT, Int.reduceLE, Int.reduceAdd, Int.reduceSub, Int.reduceNeg, reduceCtorEq, Nat.reduceShiftRight, Nat.reduceAnd, Nat.reduceBNe]
    rfl
def nodeOkR (t : T) : Bool :=
  if t.op = 1 then zIs t.n && (decide (t.name = []) && (decide (t.sort = 2) && decide (t.kids = [])))
  else if t.op = 2 ∨ t.op = 3 then plainB t && (decide (t.sort = 1) && decide (t.kids = []))
  else if t.op = 4 then (!t.n.neg && decide (t.n.mag = [])) && (symOk t.name && (decide (t.kids.length ≤ 3) && sortB t.sort))
  else madeB t.op && (plainB t && (kidsOk t.op t.kids.length && (decide (checkE t.op t.kids = 0) && decide (t.sort = resSort t.op t.kids))))
mutual
def isR : T → Bool
  | .mk op n name sort ks => isRs ks && nodeOkR (.mk op n name sort ks)
def isRs : List T → Bool
  | [] => true
  | t :: l => isR t && isRs l
end
theorem isR_eq (t : T) : isR t = (isRs t.kids && nodeOkR t) := by cases t; rfl
theorem isRs_all (l : List T) : isRs l = l.all isR := by
  induction l with
  | nil => rfl
  | cons a l ih => simp [isRs, ih]
theorem zero_is (z : Z) : (zIs z && decide (zsign z = 0)) = (!z.neg && decide (z.mag = [])) := by
  obtain ⟨n, m⟩ := z
  cases m with
  | nil => cases n <;> simp [zIs, zsign, zh, natIs_nil]
  | cons a m =>
    cases h : zIs ⟨n, a :: m⟩
    · simp
    · have e : zsign ⟨n, a :: m⟩ ≠ 0 := by unfold zsign zh; rw [if_pos h]; cases n <;> simp
      simp [e]
end Go.Proofs.YtfndnjmnakdglaaGreatDoor
namespace Go.Proofs.YtfndnjmnakdglaaGreatDoor
open Go Go.Vm
variable [Tel]
set_option linter.unusedSectionVars false
set_option linter.unusedVariables false
set_option linter.unusedSimpArgs false
theorem isRs_false {l : List T} {i : Nat} (h : i < l.length) (hp : isR l[i] = false) : isRs l = false := by rw [isRs_all]; exact allT_false h hp
theorem is_step (t : T) (h4 : t.size ≤ 400) (htm : t.tame) (s : St) (cs : List AV) (hr : Room s) (hn : s.n.val + t.size ≤ 1000050000) (h : RT6 s cs t) (ih : ∀ u : T, u.size < t.size → u.tame → ∀ (s' : St) (cs : List AV), Room s' → s'.n.val + u.size ≤ 1000050000 → RT6 s' cs u → CA F.ref10_is [.agg cs] s' = .ok (.bool (isR u)) s') : CA F.ref10_is [.agg cs] s = .ok (.bool (isR t)) s := by
  have hnm := T.tame_name htm
  have h' := h
  obtain ⟨ng, mg, kv, rfl, hz, hk⟩ := h.ex
  have hzn := hz.neg
  have hzm := hz.mag
  have hsz := T.size_kids t
  have hle := T.length_le t.kids
  have hm := hk.most
  obtain ⟨L, hL⟩ : ∃ L : List AO, L = [.cells [.int .i64 t.op, ng, mg, .str t.name, .int .i64 t.sort, kv]] := ⟨_, rfl⟩
  have hlen : L.length = 1 := by rw [hL]; rfl
  have hx1 := ext_Sx (s := s) (l := L) hr (by omega)
  have hr1 := hr.Sx (l := L) (by omega) (by omega)
  have hn1 := Sx_n (s := s) (l := L) hr (by omega)
  obtain ⟨M, hM⟩ : ∃ M : List AO, M = .cells [.int .i64 t.op, ng, mg, .str t.name, .int .i64 t.sort, kv] :: .dead :: .dead :: .dead :: .dead :: .dead :: .dead :: .dead :: .dead :: .dead :: .dead :: .dead :: .dead :: .dead :: .dead :: .dead :: .dead :: .dead :: .dead :: .dead :: .dead :: .dead :: .dead :: .dead :: .dead :: .dead :: .dead :: .dead :: .dead :: .dead :: .dead :: .dead :: .dead :: .dead :: .dead :: .dead :: .dead :: .dead :: .dead :: .dead :: .dead :: .dead :: .dead :: .dead :: [] := ⟨_, rfl⟩
  have hlenM : M.length = 44 := by rw [hM]; rfl
  have hx2 := ext_Sx (s := s) (l := M) hr (by omega)
  have hr2 := hr.Sx (l := M) (by omega) (by omega)
  have hn2 := Sx_n (s := s) (l := M) hr (by omega)
  have f1 := ref1_Is_ok (Sx s L) ng mg t.n hr1 (hz.x hx1)
  have f2 := ref1_Sign_ok (Sx s L) ng mg t.n hr1 (by omega) (hz.x hx1)
  have f3 := ref_Symbol_ok (Sx s L) t.name (by omega)
  have f4 := args_ok (Sx s M) t.op t.kids.length
  have hnb : ∀ i (h : i < t.kids.length), NumB t.kids[i] := fun i hi => numB_of (T.tame_at (T.tame_kids htm).2 hi)
  have f5 := fun d3 : kidsOk t.op t.kids.length = true => ref_check_ok (Sx s M) kv t.kids t.op hr2 (by omega) (fun e => kids12 (by rw [← e]; exact d3)) (fun _ => kids1 d3) (fun ho => kids2 ho d3) hnb (hk.x hx2)
  have f6 := fun d3 : kidsOk t.op t.kids.length = true => result_ok (Sx s M) kv t.kids t.op (fun e => by have := kids12 (l := t.kids) (by rw [← e]; exact d3); omega) (hk.x hx2)
  have ihk : ∀ {i : Nat} (hi : i < t.kids.length) (cs : List AV), RT6 s cs t.kids[i] → CA F.ref10_is [.agg cs] (Sx s L) = .ok (.bool (isR t.kids[i])) (Sx s L) := fun {i} hi cs hc => by
    have hs2 := T.size_at hi
    exact ih t.kids[i] (by omega) (T.tame_at (T.tame_kids htm).2 hi) (Sx s L) cs hr1 (by omega) (hc.x hx1)
  have hz0 := zero_is t.n
  rw [hL] at f1 f2 f3 ihk hx1
  rw [hM] at f4 hx2
  rw [isR_eq]
  refine fn_of code_ref10_is (by simp) ?_
  simp only [go_sem, ↓reduceIte, Nat.reduceMod, Nat.reduceEqDiff, Nat.reduceAdd, Nat.reduceMul, Nat.reduceSub, Nat.reduceLeDiff, Nat.reduceLT, Int.reduceEq, Int.reduceLT, Int.reduceLE, Int.reduceAdd, Int.reduceSub, Int.reduceNeg, reduceCtorEq, Nat.reduceShiftRight, Nat.reduceAnd, Nat.reduceBNe, hr]
  refine W_inv (fun k f τ => ∃ (i : Nat), τ = Sx s [.cells [.int .i64 t.op, ng, mg, .str t.name, .int .i64 t.sort, kv]] ∧ k = t.kids.length - i ∧ i ≤ t.kids.length ∧ (t.kids.take i).all isR = true ∧ (vv 1).get f = .ptr (nm s 0) 0 ∧ (vv 3).get f = .int .i64 (i : Int)) ?_ ⟨0, rfl, rfl, by omega, by simp, ?_⟩
  · rintro k f τ ⟨i, rfl, rfl, hi, ha, g1, g3⟩
    by_cases c1 : i < t.kids.length
    · obtain ⟨cs, hat⟩ := hk.at c1
      have fi := ihk c1 cs hat.t6
      cases d1 : isR t.kids[i]
      · simp only [go_sem, ↓reduceIte, Nat.reduceMod, Nat.reduceEqDiff, Nat.reduceAdd, Nat.reduceMul, Nat.reduceSub, Nat.reduceLeDiff, Nat.reduceLT, Int.reduceEq, Int.reduceLT, Int.reduceLE, Int.reduceAdd, Int.reduceSub, Int.reduceNeg, reduceCtorEq, Nat.reduceShiftRight, Nat.reduceAnd, Nat.reduceBNe, g1, g3, hr, hk.vlen, Int.ofNat_lt, c1, hk.ia c1, hat.ld, fi, d1, Bool.not_false]
        exact settled_bool (ext_Sx hr (by simp)) (by rw [isRs_false c1 d1]; rfl)
      · simp only [go_sem, ↓reduceIte, Nat.reduceMod, Nat.reduceEqDiff, Nat.reduceAdd, Nat.reduceMul, Nat.reduceSub, Nat.reduceLeDiff, Nat.reduceLT, Int.reduceEq, Int.reduceLT, Int.reduceLE, Int.reduceAdd, Int.reduceSub, Int.reduceNeg, reduceCtorEq, Nat.reduceShiftRight, Nat.reduceAnd, Nat.reduceBNe, g1, g3, hr, hk.vlen, Int.ofNat_lt, c1, hk.ia c1, hat.ld, fi, d1, Bool.not_true]
        refine ⟨t.kids.length - (i + 1), by omega, i + 1, rfl, by omega, ?_, ?_⟩
        · rw [allT_take c1, ha, d1]; rfl
        · rw [wrap_i64 (by omega) (by omega)]; congr 1
    · have e : i = t.kids.length := by omega
      subst e
      rw [List.take_length, ← isRs_all] at ha
      rw [ha, Bool.true_and]
      clear ih ihk
      simp only [go_sem, ↓reduceIte, Nat.reduceMod, Nat.reduceEqDiff, Nat.reduceAdd, Nat.reduceMul, Nat.reduceSub, Nat.reduceLeDiff, Nat.reduceLT, Int.reduceEq, Int.reduceLT, Int.reduceLE, Int.reduceAdd, Int.reduceSub, Int.reduceNeg, reduceCtorEq, Nat.reduceShiftRight, Nat.reduceAnd, Nat.reduceBNe, g1, g3, hr, hk.vlen, Int.ofNat_lt, c1]
      have hpl : plainB t = ((zIs t.n && decide (zsign t.n = 0)) && decide (t.name = [])) := by unfold plainB; rw [hz0]
      by_cases c1 : t.op = 1
      · have e : nodeOkR t = (zIs t.n && (decide (t.name = []) && (decide (t.sort = 2) && decide (t.kids = [])))) := by simp [nodeOkR, c1]
        rw [e]
        rw [c1] at f1 f2 f3 hx1 ⊢
        cases d1 : zIs t.n
        · simp only [go_sem, ↓reduceIte, Nat.reduceMod, Nat.reduceEqDiff, Nat.reduceAdd, Nat.reduceMul, Nat.reduceSub, Nat.reduceLeDiff, Nat.reduceLT, Int.reduceEq, Int.reduceLT, Int.reduceLE, Int.reduceAdd, Int.reduceSub, Int.reduceNeg, reduceCtorEq, Nat.reduceShiftRight, Nat.reduceAnd, Nat.reduceBNe, g1, hr, f1, f2, d1]
          exact settled_bool (ext_Sx hr (by simp)) (by simp)
        · by_cases d2 : t.name = []
          · by_cases d3 : t.sort = 2
            · rw [d2, d3] at f1 f2 ⊢
              simp only [go_sem, ↓reduceIte, Nat.reduceMod, Nat.reduceEqDiff, Nat.reduceAdd, Nat.reduceMul, Nat.reduceSub, Nat.reduceLeDiff, Nat.reduceLT, Int.reduceEq, Int.reduceLT, Int.reduceLE, Int.reduceAdd, Int.reduceSub, Int.reduceNeg, reduceCtorEq, Nat.reduceShiftRight, Nat.reduceAnd, Nat.reduceBNe, g1, hr, f1, f2, d1, hk.vlen, len0]
              exact settled_bool (ext_Sx hr (by simp)) (by simp)
            · rw [d2] at f1 f2 ⊢
              simp only [go_sem, ↓reduceIte, Nat.reduceMod, Nat.reduceEqDiff, Nat.reduceAdd, Nat.reduceMul, Nat.reduceSub, Nat.reduceLeDiff, Nat.reduceLT, Int.reduceEq, Int.reduceLT, Int.reduceLE, Int.reduceAdd, Int.reduceSub, Int.reduceNeg, reduceCtorEq, Nat.reduceShiftRight, Nat.reduceAnd, Nat.reduceBNe, g1, hr, f1, f2, d1, d3]
              exact settled_bool (ext_Sx hr (by simp)) (by simp)
          · simp only [go_sem, ↓reduceIte, Nat.reduceMod, Nat.reduceEqDiff, Nat.reduceAdd, Nat.reduceMul, Nat.reduceSub, Nat.reduceLeDiff, Nat.reduceLT, Int.reduceEq, Int.reduceLT, Int.reduceLE, Int.reduceAdd, Int.reduceSub, Int.reduceNeg, reduceCtorEq, Nat.reduceShiftRight, Nat.reduceAnd, Nat.reduceBNe, g1, hr, f1, f2, d1, d2]
            exact settled_bool (ext_Sx hr (by simp)) (by simp)
      by_cases c2 : t.op = 2 ∨ t.op = 3
      · have e : nodeOkR t = (plainB t && (decide (t.sort = 1) && decide (t.kids = []))) := by simp only [nodeOkR]; rw [if_neg c1, if_pos c2]
        rw [e, hpl]
        rcases c2 with c3 | c3
        all_goals
          rw [c3] at f1 f2 f3 hx1 ⊢
          cases d1 : zIs t.n
          · simp only [go_sem, ↓reduceIte, Nat.reduceMod, Nat.reduceEqDiff, Nat.reduceAdd, Nat.reduceMul, Nat.reduceSub, Nat.reduceLeDiff, Nat.reduceLT, Int.reduceEq, Int.reduceLT, Int.reduceLE, Int.reduceAdd, Int.reduceSub, Int.reduceNeg, reduceCtorEq, Nat.reduceShiftRight, Nat.reduceAnd, Nat.reduceBNe, g1, hr, f1, f2, d1]
            exact settled_bool (ext_Sx hr (by simp)) (by simp)
          by_cases d0 : zsign t.n = 0
          · by_cases d2 : t.name = []
            · by_cases d3 : t.sort = 1
              · rw [d2, d3] at f1 f2 ⊢
                simp only [go_sem, ↓reduceIte, Nat.reduceMod, Nat.reduceEqDiff, Nat.reduceAdd, Nat.reduceMul, Nat.reduceSub, Nat.reduceLeDiff, Nat.reduceLT, Int.reduceEq, Int.reduceLT, Int.reduceLE, Int.reduceAdd, Int.reduceSub, Int.reduceNeg, reduceCtorEq, Nat.reduceShiftRight, Nat.reduceAnd, Nat.reduceBNe, g1, hr, f1, f2, d1, d0, hk.vlen, len0]
                exact settled_bool (ext_Sx hr (by simp)) (by simp)
              · rw [d2] at f1 f2 ⊢
                simp only [go_sem, ↓reduceIte, Nat.reduceMod, Nat.reduceEqDiff, Nat.reduceAdd, Nat.reduceMul, Nat.reduceSub, Nat.reduceLeDiff, Nat.reduceLT, Int.reduceEq, Int.reduceLT, Int.reduceLE, Int.reduceAdd, Int.reduceSub, Int.reduceNeg, reduceCtorEq, Nat.reduceShiftRight, Nat.reduceAnd, Nat.reduceBNe, g1, hr, f1, f2, d1, d0, d3]
                exact settled_bool (ext_Sx hr (by simp)) (by simp)
            · simp only [go_sem, ↓reduceIte, Nat.reduceMod, Nat.reduceEqDiff, Nat.reduceAdd, Nat.reduceMul, Nat.reduceSub, Nat.reduceLeDiff, Nat.reduceLT, Int.reduceEq, Int.reduceLT, Int.reduceLE, Int.reduceAdd, Int.reduceSub, Int.reduceNeg, reduceCtorEq, Nat.reduceShiftRight, Nat.reduceAnd, Nat.reduceBNe, g1, hr, f1, f2, d1, d0, d2]
              exact settled_bool (ext_Sx hr (by simp)) (by simp)
          · simp only [go_sem, ↓reduceIte, Nat.reduceMod, Nat.reduceEqDiff, Nat.reduceAdd, Nat.reduceMul, Nat.reduceSub, Nat.reduceLeDiff, Nat.reduceLT, Int.reduceEq, Int.reduceLT, Int.reduceLE, Int.reduceAdd, Int.reduceSub, Int.reduceNeg, reduceCtorEq, Nat.reduceShiftRight, Nat.reduceAnd, Nat.reduceBNe, g1, hr, f1, f2, d1, d0]
            exact settled_bool (ext_Sx hr (by simp)) (by simp)
      have c2a : ¬ t.op = 2 := fun e => c2 (.inl e)
      have c2b : ¬ t.op = 3 := fun e => c2 (.inr e)
      by_cases c4 : t.op = 4
      · have e : nodeOkR t = ((zIs t.n && decide (zsign t.n = 0)) && (symOk t.name && (decide (t.kids.length ≤ 3) && sortB t.sort))) := by simp only [nodeOkR]; rw [if_neg c1, if_neg c2, if_pos c4, hz0]
        rw [e]
        rw [c4] at f1 f2 f3 hx1 ⊢
        cases d1 : zIs t.n
        · simp only [go_sem, ↓reduceIte, Nat.reduceMod, Nat.reduceEqDiff, Nat.reduceAdd, Nat.reduceMul, Nat.reduceSub, Nat.reduceLeDiff, Nat.reduceLT, Int.reduceEq, Int.reduceLT, Int.reduceLE, Int.reduceAdd, Int.reduceSub, Int.reduceNeg, reduceCtorEq, Nat.reduceShiftRight, Nat.reduceAnd, Nat.reduceBNe, g1, hr, f1, f2, d1]
          exact settled_bool (ext_Sx hr (by simp)) (by simp)
        by_cases d0 : zsign t.n = 0
        · cases d2 : symOk t.name
          · simp only [go_sem, ↓reduceIte, Nat.reduceMod, Nat.reduceEqDiff, Nat.reduceAdd, Nat.reduceMul, Nat.reduceSub, Nat.reduceLeDiff, Nat.reduceLT, Int.reduceEq, Int.reduceLT, Int.reduceLE, Int.reduceAdd, Int.reduceSub, Int.reduceNeg, reduceCtorEq, Nat.reduceShiftRight, Nat.reduceAnd, Nat.reduceBNe, g1, hr, f1, f2, d1, d0, f3, d2]
            exact settled_bool (ext_Sx hr (by simp)) (by simp)
          · by_cases d3 : t.kids.length ≤ 3
            · have d3' : (t.kids.length : Int) ≤ 3 := by omega
              by_cases d4 : t.sort = 1
              · rw [d4] at f1 f2 f3 ⊢
                simp only [go_sem, ↓reduceIte, Nat.reduceMod, Nat.reduceEqDiff, Nat.reduceAdd, Nat.reduceMul, Nat.reduceSub, Nat.reduceLeDiff, Nat.reduceLT, Int.reduceEq, Int.reduceLT, Int.reduceLE, Int.reduceAdd, Int.reduceSub, Int.reduceNeg, reduceCtorEq, Nat.reduceShiftRight, Nat.reduceAnd, Nat.reduceBNe, g1, hr, f1, f2, d1, d0, f3, d2, hk.vlen, d3']
                exact settled_bool (ext_Sx hr (by simp)) (by simp [d3, sortB])
              · simp only [go_sem, ↓reduceIte, Nat.reduceMod, Nat.reduceEqDiff, Nat.reduceAdd, Nat.reduceMul, Nat.reduceSub, Nat.reduceLeDiff, Nat.reduceLT, Int.reduceEq, Int.reduceLT, Int.reduceLE, Int.reduceAdd, Int.reduceSub, Int.reduceNeg, reduceCtorEq, Nat.reduceShiftRight, Nat.reduceAnd, Nat.reduceBNe, g1, hr, f1, f2, d1, d0, f3, d2, hk.vlen, d3', d4]
                exact settled_bool (ext_Sx hr (by simp)) (by simp [d3, sortB, d4])
            · have d3' : ¬ (t.kids.length : Int) ≤ 3 := by omega
              simp only [go_sem, ↓reduceIte, Nat.reduceMod, Nat.reduceEqDiff, Nat.reduceAdd, Nat.reduceMul, Nat.reduceSub, Nat.reduceLeDiff, Nat.reduceLT, Int.reduceEq, Int.reduceLT, Int.reduceLE, Int.reduceAdd, Int.reduceSub, Int.reduceNeg, reduceCtorEq, Nat.reduceShiftRight, Nat.reduceAnd, Nat.reduceBNe, g1, hr, f1, f2, d1, d0, f3, d2, hk.vlen, d3']
              exact settled_bool (ext_Sx hr (by simp)) (by simp [d3])
        · simp only [go_sem, ↓reduceIte, Nat.reduceMod, Nat.reduceEqDiff, Nat.reduceAdd, Nat.reduceMul, Nat.reduceSub, Nat.reduceLeDiff, Nat.reduceLT, Int.reduceEq, Int.reduceLT, Int.reduceLE, Int.reduceAdd, Int.reduceSub, Int.reduceNeg, reduceCtorEq, Nat.reduceShiftRight, Nat.reduceAnd, Nat.reduceBNe, g1, hr, f1, f2, d1, d0]
          exact settled_bool (ext_Sx hr (by simp)) (by simp)
      · have e : nodeOkR t = (madeB t.op && (plainB t && (kidsOk t.op t.kids.length && (decide (checkE t.op t.kids = 0) && decide (t.sort = resSort t.op t.kids))))) := by simp only [nodeOkR]; rw [if_neg c1, if_neg c2, if_neg c4]
        rw [e, hpl]
        cases d1 : zIs t.n
        · simp only [go_sem, ↓reduceIte, Nat.reduceMod, Nat.reduceEqDiff, Nat.reduceAdd, Nat.reduceMul, Nat.reduceSub, Nat.reduceLeDiff, Nat.reduceLT, Int.reduceEq, Int.reduceLT, Int.reduceLE, Int.reduceAdd, Int.reduceSub, Int.reduceNeg, reduceCtorEq, Nat.reduceShiftRight, Nat.reduceAnd, Nat.reduceBNe, g1, hr, f1, f2, d1, c1, c2a, c2b, c4]
          refine W_drawn hr _ (by simp) ?_
          simp only [go_sem, ↓reduceIte, Nat.reduceMod, Nat.reduceEqDiff, Nat.reduceAdd, Nat.reduceMul, Nat.reduceSub, Nat.reduceLeDiff, Nat.reduceLT, Int.reduceEq, Int.reduceLT, Int.reduceLE, Int.reduceAdd, Int.reduceSub, Int.reduceNeg, reduceCtorEq, Nat.reduceShiftRight, Nat.reduceAnd, Nat.reduceBNe, g1, hr]
          exact settled_bool (ext_Sx hr (by simp)) (by simp)
        by_cases d0 : zsign t.n = 0
        rotate_left
        · simp only [go_sem, ↓reduceIte, Nat.reduceMod, Nat.reduceEqDiff, Nat.reduceAdd, Nat.reduceMul, Nat.reduceSub, Nat.reduceLeDiff, Nat.reduceLT, Int.reduceEq, Int.reduceLT, Int.reduceLE, Int.reduceAdd, Int.reduceSub, Int.reduceNeg, reduceCtorEq, Nat.reduceShiftRight, Nat.reduceAnd, Nat.reduceBNe, g1, hr, f1, f2, d1, d0, c1, c2a, c2b, c4]
          refine W_drawn hr _ (by simp) ?_
          simp only [go_sem, ↓reduceIte, Nat.reduceMod, Nat.reduceEqDiff, Nat.reduceAdd, Nat.reduceMul, Nat.reduceSub, Nat.reduceLeDiff, Nat.reduceLT, Int.reduceEq, Int.reduceLT, Int.reduceLE, Int.reduceAdd, Int.reduceSub, Int.reduceNeg, reduceCtorEq, Nat.reduceShiftRight, Nat.reduceAnd, Nat.reduceBNe, g1, hr]
          exact settled_bool (ext_Sx hr (by simp)) (by simp [d0])
        simp only [go_sem, ↓reduceIte, Nat.reduceMod, Nat.reduceEqDiff, Nat.reduceAdd, Nat.reduceMul, Nat.reduceSub, Nat.reduceLeDiff, Nat.reduceLT, Int.reduceEq, Int.reduceLT, Int.reduceLE, Int.reduceAdd, Int.reduceSub, Int.reduceNeg, reduceCtorEq, Nat.reduceShiftRight, Nat.reduceAnd, Nat.reduceBNe, g1, hr, f1, f2, d1, d0, c1, c2a, c2b, c4]
        refine W_drawn hr _ (by simp) ?_
        clear f1 f2 f3
        by_cases d2 : t.name = []
        rotate_left
        · simp only [go_sem, ↓reduceIte, Nat.reduceMod, Nat.reduceEqDiff, Nat.reduceAdd, Nat.reduceMul, Nat.reduceSub, Nat.reduceLeDiff, Nat.reduceLT, Int.reduceEq, Int.reduceLT, Int.reduceLE, Int.reduceAdd, Int.reduceSub, Int.reduceNeg, reduceCtorEq, Nat.reduceShiftRight, Nat.reduceAnd, Nat.reduceBNe, g1, hr, d2]
          exact settled_bool (ext_Sx hr (by simp)) (by simp [d2])
        by_cases d5 : 5 ≤ t.op
        rotate_left
        · rw [d2]
          simp only [go_sem, ↓reduceIte, Nat.reduceMod, Nat.reduceEqDiff, Nat.reduceAdd, Nat.reduceMul, Nat.reduceSub, Nat.reduceLeDiff, Nat.reduceLT, Int.reduceEq, Int.reduceLT, Int.reduceLE, Int.reduceAdd, Int.reduceSub, Int.reduceNeg, reduceCtorEq, Nat.reduceShiftRight, Nat.reduceAnd, Nat.reduceBNe, g1, hr, d5]
          exact settled_bool (ext_Sx hr (by simp)) (by simp only [madeB, d5, d0, false_and, decide_false, Bool.false_and])
        by_cases d6 : t.op ≤ 22
        rotate_left
        · rw [d2]
          simp only [go_sem, ↓reduceIte, Nat.reduceMod, Nat.reduceEqDiff, Nat.reduceAdd, Nat.reduceMul, Nat.reduceSub, Nat.reduceLeDiff, Nat.reduceLT, Int.reduceEq, Int.reduceLT, Int.reduceLE, Int.reduceAdd, Int.reduceSub, Int.reduceNeg, reduceCtorEq, Nat.reduceShiftRight, Nat.reduceAnd, Nat.reduceBNe, g1, hr, d5, d6]
          exact settled_bool (ext_Sx hr (by simp)) (by simp only [madeB, d6, d0, and_false, decide_false, Bool.false_and])
        have hmade : madeB t.op = true := by simp [madeB, d5, d6]
        rw [hmade]
        cases d3 : kidsOk t.op t.kids.length
        · rw [d2] at f4 ⊢
          simp only [go_sem, ↓reduceIte, Nat.reduceMod, Nat.reduceEqDiff, Nat.reduceAdd, Nat.reduceMul, Nat.reduceSub, Nat.reduceLeDiff, Nat.reduceLT, Int.reduceEq, Int.reduceLT, Int.reduceLE, Int.reduceAdd, Int.reduceSub, Int.reduceNeg, reduceCtorEq, Nat.reduceShiftRight, Nat.reduceAnd, Nat.reduceBNe, g1, hr, d5, d6, hk.vlen, f4, d3]
          exact settled_bool (ext_Sx hr (by simp)) (by simp [d0])
        have f5 := f5 d3
        have f6 := f6 d3
        rw [hM] at f5 f6
        by_cases d4 : checkE t.op t.kids = 0
        · rw [d2] at f4 f5 f6 ⊢
          simp only [go_sem, ↓reduceIte, Nat.reduceMod, Nat.reduceEqDiff, Nat.reduceAdd, Nat.reduceMul, Nat.reduceSub, Nat.reduceLeDiff, Nat.reduceLT, Int.reduceEq, Int.reduceLT, Int.reduceLE, Int.reduceAdd, Int.reduceSub, Int.reduceNeg, reduceCtorEq, Nat.reduceShiftRight, Nat.reduceAnd, Nat.reduceBNe, g1, hr, d5, d6, hk.vlen, f4, d3, f5, d4, f6]
          exact settled_bool (ext_Sx hr (by simp)) (by simp [d0])
        · rw [d2] at f4 f5 f6 ⊢
          simp only [go_sem, ↓reduceIte, Nat.reduceMod, Nat.reduceEqDiff, Nat.reduceAdd, Nat.reduceMul, Nat.reduceSub, Nat.reduceLeDiff, Nat.reduceLT, Int.reduceEq, Int.reduceLT, Int.reduceLE, Int.reduceAdd, Int.reduceSub, Int.reduceNeg, reduceCtorEq, Nat.reduceShiftRight, Nat.reduceAnd, Nat.reduceBNe, g1, hr, d5, d6, hk.vlen, f4, d3, f5, d4]
          exact settled_bool (ext_Sx hr (by simp)) (by simp [d0])
  · simp only [go_sem, ↓reduceIte, Nat.reduceMod, Nat.reduceEqDiff, Nat.reduceAdd, Nat.reduceMul, Nat.reduceSub, Nat.reduceLeDiff, Nat.reduceLT, Int.reduceEq, Int.reduceLT, Int.reduceLE, Int.reduceAdd, Int.reduceSub, Int.reduceNeg, reduceCtorEq, Nat.reduceShiftRight, Nat.reduceAnd, Nat.reduceBNe]
    rfl
theorem is_ok : ∀ (n : Nat) (t : T), t.size ≤ n → t.size ≤ 400 → t.tame → ∀ (s : St) (cs : List AV), Room s → s.n.val + t.size ≤ 1000050000 → RT6 s cs t → CA F.ref10_is [.agg cs] s = .ok (.bool (isR t)) s := by
  intro n
  induction n with
  | zero => intro t h; have := T.size_kids t; omega
  | succ n ih => intro t hl h4 htm s cs hr hn h; exact is_step t h4 htm s cs hr hn h fun u hu htu s' cs' hr' hn' h' => ih u (by omega) (by omega) htu s' cs' hr' hn' h'
theorem resSort_B {op : Int} {l : List T} (h : ∀ t ∈ l, sortB t.sort = true) (h12 : op = 12 → 1 < l.length) : sortB (resSort op l) = true := by
  unfold resSort
  split
  · rfl
  · split
    · rename_i e
      have h1 := h12 e
      rw [List.getElem?_eq_getElem h1]
      exact h _ (List.getElem_mem h1)
    · rfl
theorem isN_sort : ∀ (n : Nat) (t : T), t.size ≤ n → isN t = true → sortB t.sort = true := by
  intro n
  induction n with
  | zero => intro t h; have := T.size_kids t; omega
  | succ n ih =>
    intro t hl h
    rw [isN_eq, isNs_all, Bool.and_eq_true, List.all_eq_true] at h
    have hs := T.size_kids t
    have hk : ∀ u ∈ t.kids, sortB u.sort = true := by
      intro u hu
      obtain ⟨i, hi, rfl⟩ := List.getElem_of_mem hu
      have := T.size_at hi
      exact ih _ (by omega) (h.1 _ hu)
    have h2 := h.2
    unfold nodeOk at h2
    split at h2
    · simp only [Bool.and_eq_true, decide_eq_true_eq] at h2; rw [h2.2.2.1]; rfl
    · split at h2
      · simp only [Bool.and_eq_true, decide_eq_true_eq] at h2; rw [h2.2.1]; rfl
      · split at h2
        · simp only [Bool.and_eq_true, sigOk] at h2; exact h2.2.2.2.2.2
        · simp only [Bool.and_eq_true, decide_eq_true_eq] at h2
          rw [h2.2.2.2.2]
          exact resSort_B hk fun e => by have := kids12 (l := t.kids) (by rw [← e]; exact h2.2.2.1); omega
theorem nodeOkR_eq {t : T} (h4 : t.size ≤ 400) (hk : isNs t.kids = true) : nodeOkR t = nodeOk t := by
  have hs := T.size_kids t
  rw [isNs_all, List.all_eq_true] at hk
  unfold nodeOkR nodeOk
  split
  · rfl
  · split
    · rfl
    · split
      · have ha : (t.kids.map T.sort).all sortB = true := by
          rw [List.all_eq_true]
          intro x hx
          obtain ⟨u, hu, rfl⟩ := List.mem_map.mp hx
          exact isN_sort _ u (Nat.le_refl _) (hk u hu)
        simp only [sigOk, ha, List.length_map, Bool.true_and, Bool.and_assoc]
      · have e : checkE t.op t.kids = wrongE t.op t.kids := by
          unfold checkE
          rw [if_neg (by omega : ¬ 400 < min (1 + T.sizes t.kids) 401)]
          split <;> simp_all
        rw [e]
theorem isR_isN : ∀ (n : Nat) (t : T), t.size ≤ n → t.size ≤ 400 → isR t = isN t := by
  intro n
  induction n with
  | zero => intro t h; have := T.size_kids t; omega
  | succ n ih =>
    intro t hl h4
    have hs := T.size_kids t
    have e : isRs t.kids = isNs t.kids := by
      rw [isRs_all, isNs_all, Bool.eq_iff_iff, List.all_eq_true, List.all_eq_true]
      constructor
      · intro h u hu
        obtain ⟨i, hi, rfl⟩ := List.getElem_of_mem hu
        have := T.size_at hi
        rw [← ih _ (by omega) (by omega)]; exact h _ hu
      · intro h u hu
        obtain ⟨i, hi, rfl⟩ := List.getElem_of_mem hu
        have := T.size_at hi
        rw [ih _ (by omega) (by omega)]; exact h _ hu
    rw [isR_eq, isN_eq, e]
    cases h : isNs t.kids
    · rfl
    · rw [nodeOkR_eq h4 h]
theorem Is_ok (t : T) (htm : t.tame) (s : St) (cs : List AV) (hr : Room s) (hn : s.n.val ≤ 1000049000) (h : RT6 s cs t) : CA F.ref10_Is [.agg cs] s = .ok (.bool (isT t)) s := by
  have h' := h
  obtain ⟨ng, mg, kv, rfl, hz, hk⟩ := h.ex
  have hx1 := ext_Sx (s := s) (l := [.cells [.int .i64 t.op, ng, mg, .str t.name, .int .i64 t.sort, kv]]) hr (by simp)
  have hr1 := hr.Sx (l := [.cells [.int .i64 t.op, ng, mg, .str t.name, .int .i64 t.sort, kv]]) (by simp; omega) (by simp)
  have hn1 := Sx_n (s := s) (l := [.cells [.int .i64 t.op, ng, mg, .str t.name, .int .i64 t.sort, kv]]) hr (by simp)
  simp only [List.length_cons, List.length_nil] at hn1
  have f1 := Few_ok _ _ t hr1 (by omega) (h'.x hx1)
  unfold isT
  refine fn_of code_ref10_Is (by simp) ?_
  by_cases h4 : t.size ≤ 400
  · have f2 := is_ok _ t (Nat.le_refl _) h4 htm _ _ hr1 (by omega) (h'.x hx1)
    rw [isR_isN _ t (Nat.le_refl _) h4] at f2
    simp only [go_sem, ↓reduceIte, Nat.reduceMod, Nat.reduceEqDiff, Nat.reduceAdd, Nat.reduceMul, Nat.reduceSub, Nat.reduceLeDiff, Nat.reduceLT, Int.reduceEq, Int.reduceLT, Int.reduceLE, Int.reduceAdd, Int.reduceSub, Int.reduceNeg, reduceCtorEq, Nat.reduceShiftRight, Nat.reduceAnd, Nat.reduceBNe, hr, f1, f2, h4]
    exact settled_bool (ext_Sx hr (by simp)) (by simp)
  · simp only [go_sem, ↓reduceIte, Nat.reduceMod, Nat.reduceEqDiff, Nat.reduceAdd, Nat.reduceMul, Nat.reduceSub, Nat.reduceLeDiff, Nat.reduceLT, Int.reduceEq, Int.reduceLT, Int.reduceLE, Int.reduceAdd, Int.reduceSub, Int.reduceNeg, reduceCtorEq, Nat.reduceShiftRight, Nat.reduceAnd, Nat.reduceBNe, hr, f1, h4]
    exact settled_bool (ext_Sx hr (by simp)) (by simp [h4])
end Go.Proofs.YtfndnjmnakdglaaGreatDoor
