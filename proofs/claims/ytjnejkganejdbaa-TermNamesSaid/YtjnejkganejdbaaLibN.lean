/- Functions of the program: the names in terms. No condition. -/
import Derived.Test.YtjnejkganejdbaaLibE
import Derived.Test.YtjnejkganejdbaaVmW
namespace Go.Proofs.Ytjnejkganejdbaa
open Go Go.Vm
set_option linter.unusedVariables false
theorem cellsI_inj {l m : List Int} (h : cellsI l = cellsI m) : l = m := by
  unfold cellsI at h
  induction l generalizing m with
  | nil => cases m with
    | nil => rfl
    | cons b m => simp at h
  | cons a l ih => cases m with
    | nil => simp at h
    | cons b m =>
      simp only [List.map_cons, List.cons.injEq, AV.int.injEq, true_and] at h
      rw [h.1, ih h.2]
theorem avI_inj {l m : List Int} (h : avI l = avI m) : l = m := by
  unfold avI at h
  by_cases h1 : l = []
  · by_cases h2 : m = []
    · rw [h1, h2]
    · rw [if_pos h1, if_neg h2] at h; cases h
  · by_cases h2 : m = []
    · rw [if_neg h1, if_pos h2] at h; cases h
    · rw [if_neg h1, if_neg h2] at h
      injection h with h3
      exact cellsI_inj h3
theorem rowG_inj {l m : List Sg} (h : l.flatMap sgC = m.flatMap sgC) : l = m := by
  induction l generalizing m with
  | nil => cases m with
    | nil => rfl
    | cons b m => simp [sgC] at h
  | cons a l ih => cases m with
    | nil => simp [sgC] at h
    | cons b m =>
      simp only [List.flatMap_cons, sgC, List.cons_append, List.nil_append, List.cons.injEq, AV.str.injEq, AV.int.injEq, true_and] at h
      obtain ⟨h1, h2, h3, h4⟩ := h
      have e : a = b := by
        cases a; cases b
        simp only [Sg.mk.injEq]
        exact ⟨h1, avI_inj h2, h3⟩
      rw [e, ih h4]
noncomputable def F.slices_SortFunc : Vm.Id := Vm.fn 47
noncomputable def F.term_All_1 : Vm.Id := Vm.fn 48
/-- A row that is to be sorted. -/
structure ToSort (a : List AV) (s : St) (b : Vm.Id) (es : List Sg) : Prop where
  args : ∃ ex, a = [.sl b 0 es.length es.length ex, .fn F.term_All_1 [] []]
  row : s.obj b = .cells (es.flatMap sgC)
  uniq : Uniq es
  len : es.length < 4611686018427387904
open Classical in
noncomputable def SortFunc_B : List AV → St → R := fun a s =>
  if h : ∃ p : Vm.Id × List Sg, ToSort a s p.1 p.2 then .ok Vm.undef (s.put h.choose.1 (.cells ((sortG h.choose.2).flatMap sgC)))
  else if a = [.nils, .fn F.term_All_1 [] []] then .ok Vm.undef s else .no
theorem sortB_eq {a : List AV} {s : St} {b : Vm.Id} {es : List Sg} (h : ToSort a s b es) : SortFunc_B a s = .ok Vm.undef (s.put b (.cells ((sortG es).flatMap sgC))) := by
  have hx : ∃ p : Vm.Id × List Sg, ToSort a s p.1 p.2 := ⟨(b, es), h⟩
  unfold SortFunc_B
  rw [dif_pos hx]
  have hc := hx.choose_spec
  generalize hx.choose = q at hc
  obtain ⟨e1, h1⟩ := h.args
  obtain ⟨e2, h2⟩ := hc.args
  have h2 := h1.symm.trans h2
  simp only [List.cons.injEq, AV.sl.injEq, and_true, true_and] at h2
  have hb : b = q.1 := h2.1
  have hr := hc.row
  rw [← hb, h.row] at hr
  injection hr with hr
  rw [← hb, ← rowG_inj hr]
theorem sortB_ok {a : List AV} {s s' : St} {r : AV} (h : SortFunc_B a s = .ok r s') : (∃ b es, ToSort a s b es ∧ r = Vm.undef ∧ s' = s.put b (.cells ((sortG es).flatMap sgC))) ∨ (a = [.nils, .fn F.term_All_1 [] []] ∧ r = Vm.undef ∧ s' = s) := by
  unfold SortFunc_B at h
  split at h
  · rename_i hx
    obtain ⟨h1, h2⟩ := ok_inj h
    exact .inl ⟨_, _, hx.choose_spec, h1.symm, h2.symm⟩
  · split at h
    · rename_i h0
      obtain ⟨h1, h2⟩ := ok_inj h
      exact .inr ⟨h0, h1.symm, h2.symm⟩
    · exact R.noConfusion h
theorem sortB_nil (s : St) : SortFunc_B [.nils, .fn F.term_All_1 [] []] s = .ok Vm.undef s := by
  unfold SortFunc_B
  rw [dif_neg, if_pos rfl]
  rintro ⟨p, hp⟩
  obtain ⟨ex, he⟩ := hp.args
  cases he
/-- Sorting is told, nothing else. -/
noncomputable def BT0 : Base := F.slices_SortFunc.set SortFunc_B (Tab.rep noB)
end Go.Proofs.Ytjnejkganejdbaa
namespace Go.Vm
set_option linter.unusedVariables false
theorem RT.kp {s s' : St} {r : List AV} {t : T} (h : RT s r t) (hx : Kp s s') : RT s' r t := by
  induction h with
  | mk op ng mg n name sort kv kids rest hz hk hl hr ih => exact .mk op ng mg n name sort kv kids rest ⟨hz.neg, hz.mag.sl.kp hx, hz.mag.len, fun i hi => by rw [rowOf_kp hx hz.mag.sl]; exact hz.mag.el i hi⟩ (hk.kp hx) hl (fun i hi => by rw [rowOf_kp hx hk]; exact ih i hi)
theorem Ts.kp {s s' : St} {v : AV} {l : List T} (h : Ts s v l) (hx : Kp s s') : Ts s' v l := ⟨h.sl.kp hx, h.len, fun i hi => by rw [rowOf_kp hx h.sl]; exact (h.el i hi).kp hx⟩
theorem namesT_eq (es : List Sg) (t : T) : namesT es t = ((namesTs (if t.op = 4 then (addG es (sgT t)).1 else es) t.kids).1, (if t.op = 4 then (addG es (sgT t)).2 else true) && (namesTs (if t.op = 4 then (addG es (sgT t)).1 else es) t.kids).2) := by cases t; rfl
theorem namesTs_snoc (es : List Sg) (l : List T) (t : T) : namesTs es (l ++ [t]) = ((namesT (namesTs es l).1 t).1, (namesTs es l).2 && (namesT (namesTs es l).1 t).2) := by
  induction l generalizing es with
  | nil => simp [namesTs]
  | cons a l ih => rw [List.cons_append, namesTs, namesTs, ih]; simp [Bool.and_assoc]
end Go.Vm
namespace Go.Proofs.Ytjnejkganejdbaa
open Go Go.Vm
set_option linter.unusedVariables false
set_option linter.unusedSimpArgs false
noncomputable abbrev CA0 : Vm.CallT := Vm.CC0 Go.Proofs.Try.prog BT0
theorem fn_of0 {g : Vm.Id} {nt : Nat} {res : List Res} {body : CC} {args : List AV} {s s' : St} {r : AV} (hg : g.get (Vm.prog Go.Proofs.Try.prog) = .mk nt res body ∧ g.get BT0 = noB) (h : args.length ≤ nt)
    (hw : W CA0 body (fun f t => Rs (fun r0 s0 => Settled s r0 s0 r s') res f t) (fun _ _ _ => False) (fun f t => Rs (fun r0 s0 => Settled s r0 s0 r s') res f t) (frame0 args) (Sx s [])) : CA0 g args s = .ok r s' := cc_of hg (WF_S h hw)
theorem fn_ex0 {g : Vm.Id} {nt : Nat} {res : List Res} {body : CC} {args : List AV} {s : St} {b : Bool} {Q : St → Prop} (hg : g.get (Vm.prog Go.Proofs.Try.prog) = .mk nt res body ∧ g.get BT0 = noB) (h : args.length ≤ nt)
    (hw : W CA0 body (fun f t => Rs (fun r0 s0 => r0 = .bool b ∧ Q s0) res f t) (fun _ _ _ => False) (fun f t => Rs (fun r0 s0 => r0 = .bool b ∧ Q s0) res f t) (frame0 args) (Sx s [])) : ∃ s' s0, CA0 g args s = .ok (.bool b) s' ∧ Q s0 ∧ ((s' = s ∧ Old s s0) ∨ s' = s0) := cc_ex hg (WF_S h hw)

theorem code0_term_Sig : F.term_Sig.get (Vm.prog Go.Proofs.Try.prog) = C.term_Sig ∧ F.term_Sig.get BT0 = noB := ⟨code_term_Sig.1, by kernel_rfl⟩
theorem code0_slices_Equal_int_int : F.slices_Equal_int_int.get (Vm.prog Go.Proofs.Try.prog) = C.slices_Equal_int_int ∧ F.slices_Equal_int_int.get BT0 = noB := ⟨code_slices_Equal_int_int.1, by kernel_rfl⟩
theorem code0_term_SameSig : F.term_SameSig.get (Vm.prog Go.Proofs.Try.prog) = C.term_SameSig ∧ F.term_SameSig.get BT0 = noB := ⟨code_term_SameSig.1, by kernel_rfl⟩
theorem code0_term_names : F.term_names.get (Vm.prog Go.Proofs.Try.prog) = C.term_names ∧ F.term_names.get BT0 = noB := ⟨code_term_names.1, by kernel_rfl⟩
theorem Sig0_ok (s : St) (cs : List AV) (t : T) (hr : Room s) (hn : s.n.val + 4 * t.kids.length ≤ 50000) (hkl : t.kids.length ≤ 1000) (h : RT6 s cs t) : CA0 F.term_Sig [.agg cs] s = .ok (.agg [.str t.name, avI (t.kids.map T.sort), .int .i64 t.sort]) s := by
  obtain ⟨ng, mg, kv, rfl, hz, hk⟩ := h.ex
  generalize t.kids = l at *
  have hm := hk.most
  have hxa := ext_Sx (s := s) (l := [.cells [.int .i64 t.op, ng, mg, .str t.name, .int .i64 t.sort, kv], .cells [.str [], .nils, .int .i64 0], .cells [.str t.name, .nils, .int .i64 t.sort]]) hr (by simp)
  have hna := Sx_n (s := s) (l := [.cells [.int .i64 t.op, ng, mg, .str t.name, .int .i64 t.sort, kv], .cells [.str [], .nils, .int .i64 0], .cells [.str t.name, .nils, .int .i64 t.sort]]) hr (by simp)
  simp only [List.length_cons, List.length_nil] at hna
  have v1 := nm_val hr (k := 1) (by omega)
  have v2 := nm_val hr (k := 2) (by omega)
  have v0 := nm_val hr (k := 0) (by omega)
  have q3 := Sx_obj? (s := s) (l := [.cells [.int .i64 t.op, ng, mg, .str t.name, .int .i64 t.sort, kv], .cells [.str [], .nils, .int .i64 0], .cells [.str t.name, .nils, .int .i64 t.sort]]) hr (by simp) (i := 2) rfl
  have q2 := Sx_obj? (s := s) (l := [.cells [.int .i64 t.op, ng, mg, .str t.name, .int .i64 t.sort, kv], .cells [.str [], .nils, .int .i64 0], .cells [.str t.name, .nils, .int .i64 t.sort]]) hr (by simp) (i := 1) rfl
  refine fn_of0 code0_term_Sig (by simp) ?_
  simp only [go_sem, ↓reduceIte, Nat.reduceMod, Nat.reduceEqDiff, Nat.reduceAdd, Nat.reduceMul, Nat.reduceSub, Nat.reduceLeDiff, Nat.reduceLT, Int.reduceEq, Int.reduceLT, Int.reduceLE, Int.reduceAdd, Int.reduceSub, Int.reduceNeg, reduceCtorEq, Nat.reduceShiftRight, Nat.reduceAnd, Nat.reduceBNe, hr, hk.one, hk.vlen]
  generalize nm s 2 = b3 at *
  generalize nm s 1 = b2 at *
  generalize nm s 0 = b1 at *
  refine W_inv (fun k f τ => ∃ (i : Nat) (σ : St) (av : AV), Sx σ [] = τ ∧ Room σ ∧ Ext s σ ∧ s.n.val + 3 ≤ σ.n.val ∧ σ.n.val ≤ s.n.val + 3 + 3 * i ∧ k = l.length - i ∧ i ≤ l.length ∧ σ.obj b3 = .cells [.str t.name, av, .int .i64 t.sort] ∧ (∃ z, σ.obj b2 = .cells z ∧ z.length = 3) ∧ OwnI s.n.val σ av ((l.take i).map T.sort) b3 b2 b2 ∧
    (vv 2).get f = .ptr b2 0 ∧ (vv 3).get f = .ptr b3 0 ∧ (vv 12).get f = kv ∧ (vv 13).get f = .int .i64 (l.length : Int) ∧ (vv 14).get f = .int .i64 (i : Int)) ?_ ⟨0, _, .nils, Sx_nil _, hr.Sx (by simp; omega) (by simp), hxa, by omega, by omega, rfl, by omega, ?_, ?_, ?_, ?_⟩
  · rintro k f τ ⟨i, σ, av, rfl, hr1, hx, hn0, hn1, rfl, hi, o3, ⟨z, o2, hz3⟩, own, g2, g3, g12, g13, g14⟩
    have hk1 := hk.x hx
    have w3 : b3.val < σ.n.val := by omega
    have w2 : b2.val < σ.n.val := by omega
    have n23 : b2.val ≠ b3.val := by omega
    by_cases c1 : i < l.length
    · obtain ⟨cs, hat⟩ := hk1.at c1
      obtain ⟨ng', mg', kv', rfl, hz', hkv'⟩ := hat.t6.ex
      have e1 : (l.take (i + 1)).map T.sort = (l.take i).map T.sort ++ [l[i].sort] := by rw [← List.take_append_getElem c1, List.map_append]; rfl
      rcases own.h with ⟨rfl, hl0⟩ | ⟨b, rfl, hne, h1, h2, h3, h4, h5, _⟩
      · have hap := vapp_one0 (s := σ) (L := [.cells [.int .i64 l[i].op, ng', mg', .str l[i].name, .int .i64 l[i].sort, kv'], .cells [.int .i64 l[i].sort]]) (bytes := 8) hr1 (by simp) (i := 1) rfl (by unfold limit; omega)
        simp only [go_sem, ↓reduceIte, Nat.reduceMod, Nat.reduceEqDiff, Nat.reduceAdd, Nat.reduceMul, Nat.reduceSub, Nat.reduceLeDiff, Nat.reduceLT, Int.reduceEq, Int.reduceLT, Int.reduceLE, Int.reduceAdd, Int.reduceSub, Int.reduceNeg, reduceCtorEq, Nat.reduceShiftRight, Nat.reduceAnd, Nat.reduceBNe, g2, g3, g12, g13, g14, Int.ofNat_lt, c1, hr1, hk1.ia c1, hat.ld, w3, o3, hap]
        refine ⟨l.length - (i + 1), by omega, i + 1, _, .sl (nm σ 2) 0 1 1 1, Sx_nil _, (hr1.put w3 _).Sx (by rw [put_n]; simp; omega) (by simp), (hx.put (by omega) _).trans (ext_Sx (hr1.put w3 _) (by simp)), ?_, ?_, rfl, by omega, ?_, ⟨z, ?_, hz3⟩, ?_, ?_⟩
        · rw [Sx_n (hr1.put w3 _) (by simp), put_n]; simp; omega
        · rw [Sx_n (hr1.put w3 _) (by simp), put_n]; simp; omega
        · rw [Sx_old (hr1.put w3 _) (by simp) (by rw [put_n]; exact w3), put_self]
        · rw [Sx_old (hr1.put w3 _) (by simp) (by rw [put_n]; exact w2), put_ne n23]; exact o2
        · rw [e1, hl0, List.nil_append]
          have vn := nm_val hr1 (k := 2) (by omega)
          refine ⟨.inr ⟨nm σ 2, rfl, by simp, ?_, ?_, by omega, by omega, by omega, by omega⟩⟩
          · have hob := Sx_obj? (s := σ.put b3 (.cells [.str t.name, .sl (nm σ 2) 0 1 1 1, .int .i64 t.sort])) (l := [.cells [.int .i64 l[i].op, ng', mg', .str l[i].name, .int .i64 l[i].sort, kv'], .cells [.int .i64 l[i].sort], .cells [.int .i64 l[i].sort]]) (hr1.put w3 _) (by simp) (i := 2) rfl
            rw [nm_put] at hob; exact hob
          · rw [vn, Sx_n (hr1.put w3 _) (by simp), put_n]; simp
        · rw [wrap_i64 (by omega) (by omega)]; congr 1
      · have hlen : ((l.take i).map T.sort).length = i := by simp; omega
        have ci : (cellsI ((l.take i).map T.sort)).length = i := by simp [cellsI]; omega
        have o3' := o3
        rw [hlen] at o3'
        have hap := vapp_one (s := σ) (L := [.cells [.int .i64 l[i].op, ng', mg', .str l[i].name, .int .i64 l[i].sort, kv'], .cells [.int .i64 l[i].sort]]) (bytes := 8) (len := i) hr1 (by simp) h2 h1 ci (i := 1) rfl (by unfold limit; omega) (by unfold limit; omega)
        have hrb := hr1.put h2 .dead
        have w3b : b3.val < (σ.put b .dead).n.val := by rw [put_n]; exact w3
        have n3b : b3.val ≠ b.val := fun e => h4 e.symm
        have n2b : b2.val ≠ b.val := fun e => h5 e.symm
        simp only [go_sem, ↓reduceIte, Nat.reduceMod, Nat.reduceEqDiff, Nat.reduceAdd, Nat.reduceMul, Nat.reduceSub, Nat.reduceLeDiff, Nat.reduceLT, Int.reduceEq, Int.reduceLT, Int.reduceLE, Int.reduceAdd, Int.reduceSub, Int.reduceNeg, reduceCtorEq, Nat.reduceShiftRight, Nat.reduceAnd, Nat.reduceBNe, g2, g3, g12, g13, g14, Int.ofNat_lt, c1, hr1, hk1.ia c1, hat.ld, w3, h2, o3', hap, put_ne n3b]
        refine ⟨l.length - (i + 1), by omega, i + 1, _, .sl (nm σ 2) 0 (i + 1) (i + 1) 1, Sx_nil _, (hrb.put w3b _).Sx (by rw [put_n, put_n]; simp; omega) (by simp), ((hx.put (by omega) _).put (by omega) _).trans (ext_Sx (hrb.put w3b _) (by simp)), ?_, ?_, rfl, by omega, ?_, ⟨z, ?_, hz3⟩, ?_, ?_⟩
        · rw [Sx_n (hrb.put w3b _) (by simp), put_n, put_n]; simp; omega
        · rw [Sx_n (hrb.put w3b _) (by simp), put_n, put_n]; simp; omega
        · rw [Sx_old (hrb.put w3b _) (by simp) (by rw [put_n]; exact w3b), put_self]
        · rw [Sx_old (hrb.put w3b _) (by simp) (by rw [put_n, put_n]; exact w2), put_ne n23, put_ne n2b]; exact o2
        · rw [e1]
          have vn := nm_val hr1 (k := 2) (by omega)
          refine ⟨.inr ⟨nm σ 2, ?_, by simp, ?_, ?_, by omega, by omega, by omega, by omega⟩⟩
          · rw [List.length_append, hlen]; rfl
          · have hob := Sx_obj? (s := (σ.put b .dead).put b3 (.cells [.str t.name, .sl (nm σ 2) 0 (i + 1) (i + 1) 1, .int .i64 t.sort])) (l := [.cells [.int .i64 l[i].op, ng', mg', .str l[i].name, .int .i64 l[i].sort, kv'], .cells [.int .i64 l[i].sort], .cells (cellsI ((l.take i).map T.sort) ++ [.int .i64 l[i].sort])]) (hrb.put w3b _) (by simp) (i := 2) rfl
            rw [nm_put, nm_put] at hob
            rw [show cellsI ((l.take i).map T.sort ++ [l[i].sort]) = cellsI ((l.take i).map T.sort) ++ [.int .i64 l[i].sort] by simp [cellsI]]
            exact hob
          · rw [vn, Sx_n (hrb.put w3b _) (by simp), put_n, put_n]; simp
        · rw [wrap_i64 (by omega) (by omega)]; congr 1
    · have e : i = l.length := by omega
      subst e
      rw [List.take_length] at own
      have hav := own.one
      simp only [go_sem, ↓reduceIte, Nat.reduceMod, Nat.reduceEqDiff, Nat.reduceAdd, Nat.reduceMul, Nat.reduceSub, Nat.reduceLeDiff, Nat.reduceLT, Int.reduceEq, Int.reduceLT, Int.reduceLE, Int.reduceAdd, Int.reduceSub, Int.reduceNeg, reduceCtorEq, Nat.reduceShiftRight, Nat.reduceAnd, Nat.reduceBNe, g2, g3, g12, g13, g14, Int.ofNat_lt, c1, hr1, w3, w2, o3, o2, hz3]
      refine settled_fz ((hx.put (by omega) _).trans (ext_Sx (hr1.put w2 _) (by simp))) (fz_agg3 (.str _) ?_ (.int _ _))
      exact own.fz (fun b hb hb2 => by rw [Sx_old (hr1.put w2 _) (by simp) (by rw [put_n]; exact hb2), put_ne hb])
  · exact q3
  · exact ⟨_, q2, rfl⟩
  · exact ⟨.inl ⟨rfl, by simp⟩⟩
  · simp only [go_sem, ↓reduceIte, Nat.reduceMod, Nat.reduceEqDiff, Nat.reduceAdd, Nat.reduceMul, Nat.reduceSub, Nat.reduceLeDiff, Nat.reduceLT, Int.reduceEq, Int.reduceLT, Int.reduceLE, Int.reduceAdd, Int.reduceSub, Int.reduceNeg, reduceCtorEq, Nat.reduceShiftRight, Nat.reduceAnd, Nat.reduceBNe]
    rfl
theorem equalInt0_ok (s : St) (v w : AV) (l m : List Int) (hr : Room s) (hn : s.n.val + 9 * l.length ≤ 60000) (hv : Ints s v l) (hw : Ints s w m) : CA0 F.slices_Equal_int_int [v, w] s = .ok (.bool (decide (l = m))) s := by
  have hm := hv.most
  refine fn_of0 code0_slices_Equal_int_int (by simp) ?_
  by_cases c0 : (l.length : Int) = (m.length : Int)
  · have c0' : l.length = m.length := by omega
    simp only [go_sem, ↓reduceIte, Nat.reduceMod, Nat.reduceEqDiff, Nat.reduceAdd, Nat.reduceMul, Nat.reduceSub, Nat.reduceLeDiff, Nat.reduceLT, Int.reduceEq, Int.reduceLT, Int.reduceLE, Int.reduceAdd, Int.reduceSub, Int.reduceNeg, reduceCtorEq, Nat.reduceShiftRight, Nat.reduceAnd, Nat.reduceBNe, hv.vlen, hw.vlen, ne_eq, c0, not_true_eq_false]
    refine W_inv (fun k f τ => ∃ i : Nat, ∃ σ : St, Sx σ [] = τ ∧ Room σ ∧ Ext s σ ∧ σ.n.val ≤ s.n.val + 9 * i ∧ k = l.length - i ∧ i ≤ l.length ∧ l.take i = m.take i ∧ (vv 0).get f = v ∧ (vv 1).get f = w ∧ (vv 12).get f = .int .i64 (l.length : Int) ∧ (vv 13).get f = .int .i64 (i : Int)) ?_ ⟨0, s, rfl, hr, Ext.refl s, by omega, rfl, by omega, by simp, ?_⟩
    · rintro k f τ ⟨i, σ, rfl, hr1, hx, hn1, rfl, hi, ha, g0, g1, g12, g13⟩
      have hv1 := hv.x hx
      have hw1 := hw.x hx
      by_cases c1 : i < l.length
      · have c1' : i < m.length := by omega
        simp only [go_sem, ↓reduceIte, Nat.reduceMod, Nat.reduceEqDiff, Nat.reduceAdd, Nat.reduceMul, Nat.reduceSub, Nat.reduceLeDiff, Nat.reduceLT, Int.reduceEq, Int.reduceLT, Int.reduceLE, Int.reduceAdd, Int.reduceSub, Int.reduceNeg, reduceCtorEq, Nat.reduceShiftRight, Nat.reduceAnd, Nat.reduceBNe, g0, g1, g12, g13, Int.ofNat_lt, c1, hv.vlen]
        refine W_drawn hr1 _ (by simp) ?_
        have hx2 : Ext s (Sx σ [.dead, .dead, .dead, .dead, .dead, .dead, .dead, .dead, .dead]) := hx.trans (ext_Sx hr1 (by simp))
        by_cases c2 : l[i] = m[i]
        · simp only [go_sem, ↓reduceIte, Nat.reduceMod, Nat.reduceEqDiff, Nat.reduceAdd, Nat.reduceMul, Nat.reduceSub, Nat.reduceLeDiff, Nat.reduceLT, Int.reduceEq, Int.reduceLT, Int.reduceLE, Int.reduceAdd, Int.reduceSub, Int.reduceNeg, reduceCtorEq, Nat.reduceShiftRight, Nat.reduceAnd, Nat.reduceBNe, g0, g1, g12, g13, hr1, hv1.ia c1, hw1.ia c1', hv1.i64 c1, hw1.i64 c1', ne_eq, c2, not_true_eq_false]
          refine ⟨l.length - (i + 1), by omega, i + 1, _, Sx_nil _, hr1.Sx (by simp; omega) (by simp), hx2, ?_, rfl, by omega, ?_, ?_⟩
          · rw [Sx_n hr1 (by simp)]; simp; omega
          · rw [← List.take_append_getElem c1, ← List.take_append_getElem c1', ha, c2]
          · rw [wrap_i64 (by omega) (by omega)]; congr 1
        · simp only [go_sem, ↓reduceIte, Nat.reduceMod, Nat.reduceEqDiff, Nat.reduceAdd, Nat.reduceMul, Nat.reduceSub, Nat.reduceLeDiff, Nat.reduceLT, Int.reduceEq, Int.reduceLT, Int.reduceLE, Int.reduceAdd, Int.reduceSub, Int.reduceNeg, reduceCtorEq, Nat.reduceShiftRight, Nat.reduceAnd, Nat.reduceBNe, g0, g1, g12, g13, hr1, hv1.ia c1, hw1.ia c1', hv1.i64 c1, hw1.i64 c1', ne_eq, c2, not_false_eq_true]
          refine settled_bool hx2 ?_
          rw [eq_comm, decide_eq_false_iff_not]
          intro e; subst e; exact c2 rfl
      · have e : i = l.length := by omega
        subst e
        rw [List.take_length, c0', List.take_length] at ha
        simp only [go_sem, ↓reduceIte, Nat.reduceMod, Nat.reduceEqDiff, Nat.reduceAdd, Nat.reduceMul, Nat.reduceSub, Nat.reduceLeDiff, Nat.reduceLT, Int.reduceEq, Int.reduceLT, Int.reduceLE, Int.reduceAdd, Int.reduceSub, Int.reduceNeg, reduceCtorEq, Nat.reduceShiftRight, Nat.reduceAnd, Nat.reduceBNe, g0, g1, g12, g13, Int.ofNat_lt, c1, hv.vlen]
        exact settled_bool hx (by rw [eq_comm, decide_eq_true_iff]; exact ha)
    · simp only [go_sem, ↓reduceIte, Nat.reduceMod, Nat.reduceEqDiff, Nat.reduceAdd, Nat.reduceMul, Nat.reduceSub, Nat.reduceLeDiff, Nat.reduceLT, Int.reduceEq, Int.reduceLT, Int.reduceLE, Int.reduceAdd, Int.reduceSub, Int.reduceNeg, reduceCtorEq, Nat.reduceShiftRight, Nat.reduceAnd, Nat.reduceBNe, c0]
      rfl
  · simp only [go_sem, ↓reduceIte, Nat.reduceMod, Nat.reduceEqDiff, Nat.reduceAdd, Nat.reduceMul, Nat.reduceSub, Nat.reduceLeDiff, Nat.reduceLT, Int.reduceEq, Int.reduceLT, Int.reduceLE, Int.reduceAdd, Int.reduceSub, Int.reduceNeg, reduceCtorEq, Nat.reduceShiftRight, Nat.reduceAnd, Nat.reduceBNe, hv.vlen, hw.vlen, ne_eq, c0, not_false_eq_true]
    exact settled_bool (Ext.refl s) (by rw [eq_comm, decide_eq_false_iff_not]; intro e; rw [e] at c0; exact c0 rfl)
theorem sameSig0_ok (s : St) (g o : Sg) (av aw : AV) (hr : Room s) (hn : s.n.val + 9 * g.args.length + 2 ≤ 60000) (ha : Ints s av g.args) (hb : Ints s aw o.args) : CA0 F.term_SameSig [.agg [.str g.name, av, .int .i64 g.ret], .agg [.str o.name, aw, .int .i64 o.ret]] s = .ok (.bool (decide (g = o))) s := by
  have hx := ext_Sx (s := s) (l := [.cells [.str g.name, av, .int .i64 g.ret], .cells [.str o.name, aw, .int .i64 o.ret]]) hr (by simp)
  have f1 := equalInt0_ok (Sx s [.cells [.str g.name, av, .int .i64 g.ret], .cells [.str o.name, aw, .int .i64 o.ret]]) av aw g.args o.args (hr.Sx (by simp; omega) (by simp)) (by rw [Sx_n hr (by simp)]; simp; omega) (ha.x hx) (hb.x hx)
  have he : (g = o) ↔ (g.name = o.name ∧ g.ret = o.ret ∧ g.args = o.args) := by
    cases g; cases o; simp only [Sg.mk.injEq]
    constructor
    · rintro ⟨h1, h2, h3⟩; exact ⟨h1, h3, h2⟩
    · rintro ⟨h1, h2, h3⟩; exact ⟨h1, h3, h2⟩
  by_cases d1 : g.name = o.name
  rotate_left
  · refine fn_of0 code0_term_SameSig (by simp) ?_
    simp only [go_sem, ↓reduceIte, Nat.reduceMod, Nat.reduceEqDiff, Nat.reduceAdd, Nat.reduceMul, Nat.reduceSub, Nat.reduceLeDiff, Nat.reduceLT, Int.reduceEq, Int.reduceLT, Int.reduceLE, Int.reduceAdd, Int.reduceSub, Int.reduceNeg, reduceCtorEq, Nat.reduceShiftRight, Nat.reduceAnd, Nat.reduceBNe, hr, d1, ha.one, hb.one]
    exact settled_bool (ext_Sx hr (by simp)) (by simp [he, d1])
  by_cases d2 : g.ret = o.ret
  rotate_left
  · refine fn_of0 code0_term_SameSig (by simp) ?_
    simp only [go_sem, ↓reduceIte, Nat.reduceMod, Nat.reduceEqDiff, Nat.reduceAdd, Nat.reduceMul, Nat.reduceSub, Nat.reduceLeDiff, Nat.reduceLT, Int.reduceEq, Int.reduceLT, Int.reduceLE, Int.reduceAdd, Int.reduceSub, Int.reduceNeg, reduceCtorEq, Nat.reduceShiftRight, Nat.reduceAnd, Nat.reduceBNe, hr, d1, d2, ha.one, hb.one]
    exact settled_bool (ext_Sx hr (by simp)) (by simp [he, d2])
  rw [d1, d2] at f1
  refine fn_of0 code0_term_SameSig (by simp) ?_
  simp only [go_sem, ↓reduceIte, Nat.reduceMod, Nat.reduceEqDiff, Nat.reduceAdd, Nat.reduceMul, Nat.reduceSub, Nat.reduceLeDiff, Nat.reduceLT, Int.reduceEq, Int.reduceLT, Int.reduceLE, Int.reduceAdd, Int.reduceSub, Int.reduceNeg, reduceCtorEq, Nat.reduceShiftRight, Nat.reduceAnd, Nat.reduceBNe, hr, d1, d2, ha.one, hb.one, f1]
  exact settled_bool (ext_Sx hr (by simp)) (by simp [he, d1, d2])
end Go.Proofs.Ytjnejkganejdbaa
namespace Go.Proofs.Ytjnejkganejdbaa
open Go Go.Vm
set_option linter.unusedVariables false
set_option linter.unusedSimpArgs false
noncomputable def entS (es : List Sg) : List (List UInt8 × AV) := es.map fun g => (g.name, .agg (sgC g))
theorem entS_find (es : List Sg) (k : List UInt8) : (entS es).find? (fun p => decide (k = p.1)) = (es.find? fun o => decide (k = o.name)).map fun g => (g.name, .agg (sgC g)) := by
  unfold entS
  rw [List.find?_map]; rfl
theorem avI_one (l : List Int) : (avI l).one = true := by unfold avI; split <;> rfl
theorem find_none {es : List Sg} {k : List UInt8} (h : es.find? (fun o => decide (k = o.name)) = none) : ∀ p ∈ entS es, k ≠ p.1 := by
  intro p hp e
  obtain ⟨g, hg, rfl⟩ := List.mem_map.mp hp
  have := List.find?_eq_none.mp h g hg
  simp at this
  exact this e
theorem addG_args {es : List Sg} {g : Sg} (h : ∀ o ∈ es, o.args.length ≤ 400) (hg : g.args.length ≤ 400) : ∀ o ∈ (addG es g).1, o.args.length ≤ 400 := by
  unfold addG
  split
  · exact h
  · intro o ho
    rcases List.mem_append.mp ho with ho | ho
    · exact h o ho
    · simp at ho; subst ho; exact hg
mutual
theorem namesT_args : ∀ (t : T) (es : List Sg), t.size ≤ 400 → (∀ o ∈ es, o.args.length ≤ 400) → ∀ o ∈ (namesT es t).1, o.args.length ≤ 400
  | .mk op n name sort ks, es, hs, h => by
    have h1 : (T.mk op n name sort ks).size = 1 + T.sizes ks := T.size_kids _
    have h2 := T.length_le ks
    rw [namesT]
    refine namesTs_args ks _ (by omega) ?_
    split
    · exact addG_args h (by simp; omega)
    · exact h
theorem namesTs_args : ∀ (l : List T) (es : List Sg), T.sizes l ≤ 400 → (∀ o ∈ es, o.args.length ≤ 400) → ∀ o ∈ (namesTs es l).1, o.args.length ≤ 400
  | [], es, _, h => h
  | t :: l, es, hs, h => by
    rw [namesTs]
    have h1 : T.sizes (t :: l) = t.size + T.sizes l := rfl
    exact namesTs_args l _ (by omega) (namesT_args t es (by omega) h)
end
/-- Rows stay, and whatever isn't this block. -/
structure Kb (b : Vm.Id) (s s' : St) : Prop where
  kp : Kp s s'
  oth : ∀ c : Vm.Id, c.val < s.n.val → c ≠ b → s'.obj c = s.obj c
theorem Kb.refl (b : Vm.Id) (s : St) : Kb b s s := ⟨Kp.refl s, fun _ _ _ => rfl⟩
theorem Kb.trans {b : Vm.Id} {s s1 s2 : St} (h : Kb b s s1) (k : Kb b s1 s2) : Kb b s s2 := ⟨h.kp.trans k.kp, fun c hc hne => (k.oth c (Nat.lt_of_lt_of_le hc h.kp.n) hne).trans (h.oth c hc hne)⟩
theorem Kb.put {b : Vm.Id} {s s' : St} (h : Kb b s s') {es : List (AV × AV)} (ho : s'.obj b = .map es) (o : AO) : Kb b s (s'.put b o) := ⟨h.kp.put ho o, fun c hc hne => by rw [St.obj_put, if_neg hne]; exact h.oth c hc hne⟩
theorem _root_.Go.Vm.Ext.kb {b : Vm.Id} {s s' : St} (h : Ext s s') : Kb b s s' := ⟨h.kp, fun c hc _ => h.old c hc⟩
theorem names0_ok : ∀ (n : Nat) (l : List T), T.sizes l ≤ n → T.sizes l ≤ 400 → ∀ (s : St) (v : AV) (b : Vm.Id) (es : List Sg), Room s → s.n.val + 4 * T.sizes l ≤ 40000 → b.val < s.n.val → s.obj b = .map (entG (entS es)) → (∀ o ∈ es, o.args.length ≤ 400) → Ts s v l →
    ∃ s', CA0 F.term_names [.map b, v] s = .ok (.bool (namesTs es l).2) s' ∧ Room s' ∧ Kb b s s' ∧ s'.n.val ≤ s.n.val + 4 * T.sizes l ∧ s'.obj b = .map (entG (entS (namesTs es l).1)) := by
  intro n
  induction n with
  | zero =>
    intro l hl h4 s v b es hr hn hb ho hes hv
    have hlen := T.length_le l
    have e : l = [] := List.eq_nil_of_length_eq_zero (by omega)
    subst e
    refine ⟨s, ?_, hr, Kb.refl b s, by omega, ho⟩
    refine fn_of0 code0_term_names (by simp) ?_
    simp only [go_sem, ↓reduceIte, Nat.reduceMod, Nat.reduceEqDiff, Nat.reduceAdd, Nat.reduceMul, Nat.reduceSub, Nat.reduceLeDiff, Nat.reduceLT, Int.reduceEq, Int.reduceLT, Int.reduceLE, Int.reduceAdd, Int.reduceSub, Int.reduceNeg, reduceCtorEq, Nat.reduceShiftRight, Nat.reduceAnd, Nat.reduceBNe, hv.vlen, List.length_nil]
    rw [W_loop]
    simp only [go_sem, ↓reduceIte, Nat.reduceMod, Nat.reduceEqDiff, Nat.reduceAdd, Nat.reduceMul, Nat.reduceSub, Nat.reduceLeDiff, Nat.reduceLT, Int.reduceEq, Int.reduceLT, Int.reduceLE, Int.reduceAdd, Int.reduceSub, Int.reduceNeg, reduceCtorEq, Nat.reduceShiftRight, Nat.reduceAnd, Nat.reduceBNe, Int.lt_irrefl]
    exact settled_bool (Ext.refl s) rfl
  | succ n ih =>
    intro l hl h4 s v b es hr hn hb ho hes hv
    have hm := hv.most
    have hle := T.length_le l
    suffices hsuf : ∃ s' s0, CA0 F.term_names [.map b, v] s = .ok (.bool (namesTs es l).2) s' ∧ (Room s0 ∧ Kb b s s0 ∧ s0.n.val ≤ s.n.val + 4 * T.sizes l ∧ s0.obj b = .map (entG (entS (namesTs es l).1))) ∧ ((s' = s ∧ Old s s0) ∨ s' = s0) by
      obtain ⟨s', s0, h1, ⟨h2, h3, h5, h6⟩, h7⟩ := hsuf
      rcases h7 with ⟨rfl, h7⟩ | rfl
      · exact ⟨s', h1, hr, Kb.refl b _, by omega, by rw [← h6]; exact (h7 b hb).symm⟩
      · exact ⟨s', h1, h2, h3, h5, h6⟩
    refine fn_ex0 code0_term_names (by simp) ?_
    simp only [go_sem, ↓reduceIte, Nat.reduceMod, Nat.reduceEqDiff, Nat.reduceAdd, Nat.reduceMul, Nat.reduceSub, Nat.reduceLeDiff, Nat.reduceLT, Int.reduceEq, Int.reduceLT, Int.reduceLE, Int.reduceAdd, Int.reduceSub, Int.reduceNeg, reduceCtorEq, Nat.reduceShiftRight, Nat.reduceAnd, Nat.reduceBNe, hv.vlen]
    refine W_inv (fun k f τ => ∃ (i : Nat) (σ : St), Sx σ [] = τ ∧ Room σ ∧ Kb b s σ ∧ σ.n.val ≤ s.n.val + 4 * T.sizes (l.take i) ∧ k = l.length - i ∧ i ≤ l.length ∧ σ.obj b = .map (entG (entS (namesTs es (l.take i)).1)) ∧
      (vv 0).get f = .map b ∧ (vv 5).get f = .bool (namesTs es (l.take i)).2 ∧ (vv 11).get f = v ∧ (vv 12).get f = .int .i64 (l.length : Int) ∧ (vv 13).get f = .int .i64 (i : Int)) ?_ ⟨0, s, rfl, hr, Kb.refl b s, by omega, rfl, by omega, ho, ?_⟩
    · rintro k f τ ⟨i, σ, rfl, hr1, hx, hn1, rfl, hi, o1, g0, g5, g11, g12, g13⟩
      have w1 : b.val < σ.n.val := by have := hx.kp.n; omega
      by_cases c1 : i < l.length
      · obtain ⟨cs, hat⟩ := (hv.kp hx.kp).at c1
        have h6 := hat.t6
        have hl6 := hat.len
        obtain ⟨ng, mg, kv, rfl, hz, hk⟩ := hat.t6.ex
        have hs1 := T.size_at c1
        have hs2 := T.sizes_take l i c1
        have hs3 := T.sizes_le l (i + 1)
        have hs4 := T.size_kids l[i]
        have hs5 := T.length_le l[i].kids
        have het : l.take (i + 1) = l.take i ++ [l[i]] := (List.take_append_getElem c1).symm
        have hes1 : ∀ o ∈ (namesTs es (l.take i)).1, o.args.length ≤ 400 := namesTs_args _ _ (by have := T.sizes_le l i; omega) hes
        have hnn := namesTs_snoc es (l.take i) l[i]
        rw [← het, namesT_eq] at hnn
        generalize (namesTs es (l.take i)).1 = es1 at *
        generalize (namesTs es (l.take i)).2 = B1 at *
        by_cases d4 : l[i].op = 4
        · rw [if_pos d4, if_pos d4] at hnn
          have h6' : RT6 σ [.int .i64 4, ng, mg, .str l[i].name, .int .i64 l[i].sort, kv] l[i] := by rw [d4] at h6; exact h6
          obtain ⟨L1, hL1⟩ : ∃ L : List AO, L = [.cells [.int .i64 4, ng, mg, .str l[i].name, .int .i64 l[i].sort, kv]] := ⟨_, rfl⟩
          have lL1 : L1.length = 1 := by rw [hL1]; rfl
          have xL1 := ext_Sx (s := σ) (l := L1) hr1 (by omega)
          have rL1 := hr1.Sx (l := L1) (by omega) (by omega)
          have nL1 := Sx_n (s := σ) (l := L1) hr1 (by omega)
          have f1 := Sig0_ok (Sx σ L1) _ l[i] rL1 (by omega) (by omega) (h6'.x xL1)
          rw [hL1] at f1
          obtain ⟨L2, hL2⟩ : ∃ L : List AO, L = [.cells [.int .i64 4, ng, mg, .str l[i].name, .int .i64 l[i].sort, kv], .cells [.str l[i].name, avI (l[i].kids.map T.sort), .int .i64 l[i].sort]] := ⟨_, rfl⟩
          have lL2 : L2.length = 2 := by rw [hL2]; rfl
          have xL2 := ext_Sx (s := σ) (l := L2) hr1 (by omega)
          have rL2 := hr1.Sx (l := L2) (by omega) (by omega)
          have nL2 := Sx_n (s := σ) (l := L2) hr1 (by omega)
          have fl := vlookup_eq (s := Sx σ L2) (b := b) (l := entS es1) (by rw [Sx_old hr1 (by omega) w1]; exact o1) l[i].name (.agg [.str [], .nils, .int .i64 0])
          rw [entS_find, hL2] at fl
          have gs : (sgT l[i]).args = l[i].kids.map T.sort := rfl
          have gn : (sgT l[i]).name = l[i].name := rfl
          cases hf : es1.find? fun o => decide (l[i].name = o.name) with
          | none =>
            have ha : addG es1 (sgT l[i]) = (es1 ++ [sgT l[i]], true) := by
              unfold addG
              rw [gn, hf]
            rw [ha] at hnn
            rw [hf] at fl
            simp only [Option.map_none, Option.getD_none, Option.isSome_none] at fl
            have hes2 : ∀ o ∈ es1 ++ [sgT l[i]], o.args.length ≤ 400 := by
              intro o ho
              rcases List.mem_append.mp ho with ho | ho
              · exact hes1 o ho
              · simp at ho; subst ho; rw [gs]; simp; omega
            have hr2 : Room (σ.put b (.map (entG (entS (es1 ++ [sgT l[i]]))))) := hr1.put w1 _
            obtain ⟨L3, hL3⟩ : ∃ L : List AO, L = [.cells [.int .i64 4, ng, mg, .str l[i].name, .int .i64 l[i].sort, kv], .cells [.str l[i].name, avI (l[i].kids.map T.sort), .int .i64 l[i].sort], .cells [.str [], .nils, .int .i64 0]] := ⟨_, rfl⟩
            have lL3 : L3.length = 3 := by rw [hL3]; rfl
            have xL3 := ext_Sx (s := (σ.put b (.map (entG (entS (es1 ++ [sgT l[i]])))))) (l := L3) hr2 (by omega)
            have nL3 := Sx_n (s := (σ.put b (.map (entG (entS (es1 ++ [sgT l[i]])))))) (l := L3) hr2 (by omega)
            rw [put_n] at nL3
            have rL3 := hr2.Sx (l := L3) (by rw [put_n]; omega) (by omega)
            have fu := vmupd_eq (s := Sx σ L3) (b := b) (l := entS es1) (by rw [Sx_old hr1 (by omega) w1]; exact o1) l[i].name (.agg [.str l[i].name, avI (l[i].kids.map T.sort), .int .i64 l[i].sort]) (find_none hf)
            have he2 : entS es1 ++ [(l[i].name, .agg [.str l[i].name, avI (l[i].kids.map T.sort), .int .i64 l[i].sort])] = entS (es1 ++ [sgT l[i]]) := by unfold entS; rw [List.map_append]; rfl
            rw [he2, Sx_putO hr1 (by omega) w1, hL3] at fu
            have hkp : Kb b σ (Sx (σ.put b (.map (entG (entS (es1 ++ [sgT l[i]]))))) L3) := ((Kb.refl b σ).put o1 _).trans xL3.kb
            obtain ⟨s1, fn, rs1, ks1, ns1, os1⟩ := ih l[i].kids (by omega) (by omega) (Sx (σ.put b (.map (entG (entS (es1 ++ [sgT l[i]]))))) L3) kv b (es1 ++ [sgT l[i]]) rL3 (by omega) (by omega) (by rw [Sx_old hr2 (by omega) (by rw [put_n]; exact w1), put_self]) hes2 (hk.kp hkp.kp)
            rw [hL3] at fn
            have qo := Sx_obj? (s := (σ.put b (.map (entG (entS (es1 ++ [sgT l[i]])))))) (l := L3) hr2 (by omega) (i := 0) (by rw [hL3]; rfl)
            rw [nm_put, hL3] at qo
            cases hB2 : (namesTs (es1 ++ [sgT l[i]]) l[i].kids).2
            · rw [hB2] at fn hnn
              simp only [go_sem, ↓reduceIte, Nat.reduceMod, Nat.reduceEqDiff, Nat.reduceAdd, Nat.reduceMul, Nat.reduceSub, Nat.reduceLeDiff, Nat.reduceLT, Int.reduceEq, Int.reduceLT, Int.reduceLE, Int.reduceAdd, Int.reduceSub, Int.reduceNeg, reduceCtorEq, Nat.reduceShiftRight, Nat.reduceAnd, Nat.reduceBNe, g0, g5, g11, g12, g13, Int.ofNat_lt, c1, (hv.kp hx.kp).ia c1, hat.ld, hl6, hr1, avI_one, w1, hz.one, hk.one, d4, f1, fl, fu, fn, Bool.not_false, Bool.not_true, qo]
              refine ⟨l.length - (i + 1), by omega, i + 1, s1, Sx_nil s1, rs1, hx.trans (hkp.trans ks1), by omega, rfl, by omega, by rw [hnn]; exact os1, ?_, ?_⟩
              · rw [hnn]; simp
              · rw [wrap_i64 (by omega) (by omega)]; congr 1
            · rw [hB2] at fn hnn
              simp only [go_sem, ↓reduceIte, Nat.reduceMod, Nat.reduceEqDiff, Nat.reduceAdd, Nat.reduceMul, Nat.reduceSub, Nat.reduceLeDiff, Nat.reduceLT, Int.reduceEq, Int.reduceLT, Int.reduceLE, Int.reduceAdd, Int.reduceSub, Int.reduceNeg, reduceCtorEq, Nat.reduceShiftRight, Nat.reduceAnd, Nat.reduceBNe, g0, g5, g11, g12, g13, Int.ofNat_lt, c1, (hv.kp hx.kp).ia c1, hat.ld, hl6, hr1, avI_one, w1, hz.one, hk.one, d4, f1, fl, fu, fn, Bool.not_false, Bool.not_true, qo]
              refine ⟨l.length - (i + 1), by omega, i + 1, s1, Sx_nil s1, rs1, hx.trans (hkp.trans ks1), by omega, rfl, by omega, by rw [hnn]; exact os1, ?_, ?_⟩
              · rw [hnn]; simp
              · rw [wrap_i64 (by omega) (by omega)]; congr 1
          | some o =>
            have hon : l[i].name = o.name := by have := List.find?_some hf; simpa using this
            have hoa := hes1 o (List.mem_of_find?_eq_some hf)
            have ha : addG es1 (sgT l[i]) = (es1, decide (o = sgT l[i])) := by
              unfold addG
              rw [gn, hf]
            rw [ha] at hnn
            rw [hf] at fl
            simp only [Option.map_some, Option.getD_some, Option.isSome_some, sgC] at fl
            obtain ⟨L3, hL3⟩ : ∃ L : List AO, L = [.cells [.int .i64 4, ng, mg, .str l[i].name, .int .i64 l[i].sort, kv], .cells [.str l[i].name, avI (l[i].kids.map T.sort), .int .i64 l[i].sort], .cells [.str o.name, avI o.args, .int .i64 o.ret]] := ⟨_, rfl⟩
            have lL3 : L3.length = 3 := by rw [hL3]; rfl
            have xL3 := ext_Sx (s := σ) (l := L3) hr1 (by omega)
            have rL3 := hr1.Sx (l := L3) (by omega) (by omega)
            have nL3 := Sx_n (s := σ) (l := L3) hr1 (by omega)
            have fs := sameSig0_ok (Sx σ L3) o (sgT l[i]) (avI o.args) (avI (l[i].kids.map T.sort)) rL3 (by omega) (avI_ints _ _ (by omega)) (avI_ints _ _ (by rw [List.length_map]; omega))
            change CA0 F.term_SameSig [.agg [.str o.name, avI o.args, .int .i64 o.ret], .agg [.str l[i].name, avI (l[i].kids.map T.sort), .int .i64 l[i].sort]] _ = _ at fs
            rw [hL3] at fs
            have hkp : Kb b σ (Sx σ L3) := xL3.kb
            obtain ⟨s1, fn, rs1, ks1, ns1, os1⟩ := ih l[i].kids (by omega) (by omega) (Sx σ L3) kv b es1 rL3 (by omega) (by omega) (by rw [Sx_old hr1 (by omega) w1]; exact o1) hes1 (hk.kp hkp.kp)
            rw [hL3] at fn
            by_cases hsame : o = sgT l[i]
            · rw [decide_eq_true hsame] at fs hnn
              cases hB2 : (namesTs es1 l[i].kids).2
              · rw [hB2] at fn hnn
                simp only [go_sem, ↓reduceIte, Nat.reduceMod, Nat.reduceEqDiff, Nat.reduceAdd, Nat.reduceMul, Nat.reduceSub, Nat.reduceLeDiff, Nat.reduceLT, Int.reduceEq, Int.reduceLT, Int.reduceLE, Int.reduceAdd, Int.reduceSub, Int.reduceNeg, reduceCtorEq, Nat.reduceShiftRight, Nat.reduceAnd, Nat.reduceBNe, g0, g5, g11, g12, g13, Int.ofNat_lt, c1, (hv.kp hx.kp).ia c1, hat.ld, hl6, hr1, avI_one, w1, hz.one, hk.one, d4, f1, fl, fs, fn, Bool.not_false, Bool.not_true]
                refine ⟨l.length - (i + 1), by omega, i + 1, s1, Sx_nil s1, rs1, hx.trans (hkp.trans ks1), by omega, rfl, by omega, by rw [hnn]; exact os1, ?_, ?_⟩
                · rw [hnn]; simp
                · rw [wrap_i64 (by omega) (by omega)]; congr 1
              · rw [hB2] at fn hnn
                simp only [go_sem, ↓reduceIte, Nat.reduceMod, Nat.reduceEqDiff, Nat.reduceAdd, Nat.reduceMul, Nat.reduceSub, Nat.reduceLeDiff, Nat.reduceLT, Int.reduceEq, Int.reduceLT, Int.reduceLE, Int.reduceAdd, Int.reduceSub, Int.reduceNeg, reduceCtorEq, Nat.reduceShiftRight, Nat.reduceAnd, Nat.reduceBNe, g0, g5, g11, g12, g13, Int.ofNat_lt, c1, (hv.kp hx.kp).ia c1, hat.ld, hl6, hr1, avI_one, w1, hz.one, hk.one, d4, f1, fl, fs, fn, Bool.not_false, Bool.not_true]
                refine ⟨l.length - (i + 1), by omega, i + 1, s1, Sx_nil s1, rs1, hx.trans (hkp.trans ks1), by omega, rfl, by omega, by rw [hnn]; exact os1, ?_, ?_⟩
                · rw [hnn]; simp
                · rw [wrap_i64 (by omega) (by omega)]; congr 1
            · rw [decide_eq_false hsame] at fs hnn
              cases hB2 : (namesTs es1 l[i].kids).2
              · rw [hB2] at fn hnn
                simp only [go_sem, ↓reduceIte, Nat.reduceMod, Nat.reduceEqDiff, Nat.reduceAdd, Nat.reduceMul, Nat.reduceSub, Nat.reduceLeDiff, Nat.reduceLT, Int.reduceEq, Int.reduceLT, Int.reduceLE, Int.reduceAdd, Int.reduceSub, Int.reduceNeg, reduceCtorEq, Nat.reduceShiftRight, Nat.reduceAnd, Nat.reduceBNe, g0, g5, g11, g12, g13, Int.ofNat_lt, c1, (hv.kp hx.kp).ia c1, hat.ld, hl6, hr1, avI_one, w1, hz.one, hk.one, d4, f1, fl, fs, fn, Bool.not_false, Bool.not_true]
                refine ⟨l.length - (i + 1), by omega, i + 1, s1, Sx_nil s1, rs1, hx.trans (hkp.trans ks1), by omega, rfl, by omega, by rw [hnn]; exact os1, ?_, ?_⟩
                · rw [hnn]; simp
                · rw [wrap_i64 (by omega) (by omega)]; congr 1
              · rw [hB2] at fn hnn
                simp only [go_sem, ↓reduceIte, Nat.reduceMod, Nat.reduceEqDiff, Nat.reduceAdd, Nat.reduceMul, Nat.reduceSub, Nat.reduceLeDiff, Nat.reduceLT, Int.reduceEq, Int.reduceLT, Int.reduceLE, Int.reduceAdd, Int.reduceSub, Int.reduceNeg, reduceCtorEq, Nat.reduceShiftRight, Nat.reduceAnd, Nat.reduceBNe, g0, g5, g11, g12, g13, Int.ofNat_lt, c1, (hv.kp hx.kp).ia c1, hat.ld, hl6, hr1, avI_one, w1, hz.one, hk.one, d4, f1, fl, fs, fn, Bool.not_false, Bool.not_true]
                refine ⟨l.length - (i + 1), by omega, i + 1, s1, Sx_nil s1, rs1, hx.trans (hkp.trans ks1), by omega, rfl, by omega, by rw [hnn]; exact os1, ?_, ?_⟩
                · rw [hnn]; simp
                · rw [wrap_i64 (by omega) (by omega)]; congr 1
        · rw [if_neg d4, if_neg d4] at hnn
          obtain ⟨L3, hL3⟩ : ∃ L : List AO, L = [.cells [.int .i64 l[i].op, ng, mg, .str l[i].name, .int .i64 l[i].sort, kv]] := ⟨_, rfl⟩
          have lL3 : L3.length = 1 := by rw [hL3]; rfl
          have xL3 := ext_Sx (s := σ) (l := L3) hr1 (by omega)
          have rL3 := hr1.Sx (l := L3) (by omega) (by omega)
          have nL3 := Sx_n (s := σ) (l := L3) hr1 (by omega)
          have hkp : Kb b σ (Sx σ L3) := xL3.kb
          obtain ⟨s1, fn, rs1, ks1, ns1, os1⟩ := ih l[i].kids (by omega) (by omega) (Sx σ L3) kv b es1 rL3 (by omega) (by omega) (by rw [Sx_old hr1 (by omega) w1]; exact o1) hes1 (hk.kp hkp.kp)
          rw [hL3] at fn
          cases hB2 : (namesTs es1 l[i].kids).2
          · rw [hB2] at fn hnn
            simp only [go_sem, ↓reduceIte, Nat.reduceMod, Nat.reduceEqDiff, Nat.reduceAdd, Nat.reduceMul, Nat.reduceSub, Nat.reduceLeDiff, Nat.reduceLT, Int.reduceEq, Int.reduceLT, Int.reduceLE, Int.reduceAdd, Int.reduceSub, Int.reduceNeg, reduceCtorEq, Nat.reduceShiftRight, Nat.reduceAnd, Nat.reduceBNe, g0, g5, g11, g12, g13, Int.ofNat_lt, c1, (hv.kp hx.kp).ia c1, hat.ld, hl6, hr1, avI_one, w1, hz.one, hk.one, d4, fn]
            refine ⟨l.length - (i + 1), by omega, i + 1, s1, Sx_nil s1, rs1, hx.trans (hkp.trans ks1), by omega, rfl, by omega, by rw [hnn]; exact os1, ?_, ?_⟩
            · rw [hnn]; simp
            · rw [wrap_i64 (by omega) (by omega)]; congr 1
          · rw [hB2] at fn hnn
            simp only [go_sem, ↓reduceIte, Nat.reduceMod, Nat.reduceEqDiff, Nat.reduceAdd, Nat.reduceMul, Nat.reduceSub, Nat.reduceLeDiff, Nat.reduceLT, Int.reduceEq, Int.reduceLT, Int.reduceLE, Int.reduceAdd, Int.reduceSub, Int.reduceNeg, reduceCtorEq, Nat.reduceShiftRight, Nat.reduceAnd, Nat.reduceBNe, g0, g5, g11, g12, g13, Int.ofNat_lt, c1, (hv.kp hx.kp).ia c1, hat.ld, hl6, hr1, avI_one, w1, hz.one, hk.one, d4, fn]
            refine ⟨l.length - (i + 1), by omega, i + 1, s1, Sx_nil s1, rs1, hx.trans (hkp.trans ks1), by omega, rfl, by omega, by rw [hnn]; exact os1, ?_, ?_⟩
            · rw [hnn]; simp
            · rw [wrap_i64 (by omega) (by omega)]; congr 1
      · have e : i = l.length := by omega
        subst e
        rw [List.take_length] at g5 o1 hn1
        simp only [go_sem, ↓reduceIte, Nat.reduceMod, Nat.reduceEqDiff, Nat.reduceAdd, Nat.reduceMul, Nat.reduceSub, Nat.reduceLeDiff, Nat.reduceLT, Int.reduceEq, Int.reduceLT, Int.reduceLE, Int.reduceAdd, Int.reduceSub, Int.reduceNeg, reduceCtorEq, Nat.reduceShiftRight, Nat.reduceAnd, Nat.reduceBNe, g0, g5, g11, g12, g13, Int.ofNat_lt, c1]
        exact ⟨hr1, hx, hn1, o1⟩
    · simp only [go_sem, ↓reduceIte, Nat.reduceMod, Nat.reduceEqDiff, Nat.reduceAdd, Nat.reduceMul, Nat.reduceSub, Nat.reduceLeDiff, Nat.reduceLT, Int.reduceEq, Int.reduceLT, Int.reduceLE, Int.reduceAdd, Int.reduceSub, Int.reduceNeg, reduceCtorEq, Nat.reduceShiftRight, Nat.reduceAnd, Nat.reduceBNe]
      exact ⟨rfl, rfl⟩
end Go.Proofs.Ytjnejkganejdbaa
