/- The names in terms, by the document. No condition. -/
import Derived.Test.YtjnejkganejdbaaGreatLibO
import Derived.Test.YtjnejkganejdbaaGreatVmW
import Derived.Test.YtjnejkganejdbaaGreatLibG
namespace Go.Vm
set_option linter.unusedVariables false
theorem addG_app (es : List Sg) (g : Sg) : ∃ e, (addG es g).1 = es ++ e := by
  unfold addG
  split
  · exact ⟨[], by simp⟩
  · exact ⟨[g], rfl⟩
mutual
theorem namesT_app : ∀ (t : T) (es : List Sg), ∃ e, (namesT es t).1 = es ++ e
  | .mk op n name sort ks, es => by
    rw [namesT]
    by_cases h4 : op = 4
    · simp only [if_pos h4]
      obtain ⟨e1, h1⟩ := addG_app es ⟨name, ks.map T.sort, sort⟩
      obtain ⟨e2, h2⟩ := namesTs_app ks (addG es ⟨name, ks.map T.sort, sort⟩).1
      exact ⟨e1 ++ e2, by rw [h2, h1, List.append_assoc]⟩
    · simp only [if_neg h4]
      exact namesTs_app ks es
theorem namesTs_app : ∀ (l : List T) (es : List Sg), ∃ e, (namesTs es l).1 = es ++ e
  | [], es => ⟨[], by simp [namesTs]⟩
  | t :: l, es => by
    rw [namesTs]
    obtain ⟨e1, h1⟩ := namesT_app t es
    obtain ⟨e2, h2⟩ := namesTs_app l (namesT es t).1
    exact ⟨e1 ++ e2, by simp only; rw [h2, h1, List.append_assoc]⟩
end
theorem app_same {es l : List Sg} (h : ∃ e, l = es ++ e) (hl : l.length ≤ es.length) : l = es := by
  obtain ⟨e, rfl⟩ := h
  rw [List.length_append] at hl
  rw [List.eq_nil_of_length_eq_zero (show e.length = 0 by omega), List.append_nil]
theorem uniq_perm {a b : List Sg} (h : a.Perm b) (hu : (a.map (·.name)).Nodup) : (b.map (·.name)).Nodup := (h.map _).nodup_iff.mp hu
theorem name_at {es : List Sg} (h : (es.map (·.name)).Nodup) {a b : Sg} (ha : a ∈ es) (hb : b ∈ es) (e : a.name = b.name) : a = b := by
  induction es with
  | nil => cases ha
  | cons g es ih =>
    rw [List.map_cons, List.nodup_cons] at h
    rcases List.mem_cons.mp ha with ha' | ha'
    · rcases List.mem_cons.mp hb with hb' | hb'
      · rw [ha', hb']
      · exact absurd (by rw [← ha', e]; exact List.mem_map_of_mem hb') h.1
    · rcases List.mem_cons.mp hb with hb' | hb'
      · exact absurd (by rw [← hb', ← e]; exact List.mem_map_of_mem ha') h.1
      · exact ih h.2 ha' hb'
theorem addG_found {es : List Sg} {g o : Sg} (hu : (es.map (·.name)).Nodup) (ho : o ∈ es) (he : g.name = o.name) : addG es g = (es, decide (o = g)) := by
  unfold addG
  cases hf : es.find? fun o => decide (g.name = o.name) with
  | some p =>
    have h1 := List.find?_some hf
    have h2 := List.mem_of_find?_eq_some hf
    simp only [decide_eq_true_eq] at h1
    rw [name_at hu ho h2 (by rw [← he, h1])]
  | none =>
    have := List.find?_eq_none.mp hf o ho
    simp at this
    exact absurd he this
theorem addG_none {es : List Sg} {g : Sg} (h : ∀ o ∈ es, g.name ≠ o.name) : addG es g = (es ++ [g], true) := by
  unfold addG
  cases hf : es.find? fun o => decide (g.name = o.name) with
  | some p =>
    have h1 := List.find?_some hf
    simp only [decide_eq_true_eq] at h1
    exact absurd h1 (h p (List.mem_of_find?_eq_some hf))
  | none => rfl
theorem addG_perm {a b : List Sg} (h : a.Perm b) (hu : (a.map (·.name)).Nodup) (g : Sg) : (addG a g).1.Perm (addG b g).1 ∧ (addG a g).2 = (addG b g).2 := by
  by_cases hx : ∃ o ∈ a, g.name = o.name
  · obtain ⟨o, ho, he⟩ := hx
    rw [addG_found hu ho he, addG_found (uniq_perm h hu) (h.mem_iff.mp ho) he]
    exact ⟨h, rfl⟩
  · have ha : ∀ o ∈ a, g.name ≠ o.name := fun o ho he => hx ⟨o, ho, he⟩
    rw [addG_none ha, addG_none fun o ho => ha o (h.mem_iff.mpr ho)]
    exact ⟨h.append_right _, rfl⟩
mutual
theorem namesT_perm : ∀ (t : T) (a b : List Sg), a.Perm b → (a.map (·.name)).Nodup → (namesT a t).1.Perm (namesT b t).1 ∧ (namesT a t).2 = (namesT b t).2
  | .mk op n name sort ks, a, b, h, hu => by
    rw [namesT, namesT]
    by_cases h4 : op = 4
    · simp only [if_pos h4]
      obtain ⟨h1, h2⟩ := addG_perm h hu ⟨name, ks.map T.sort, sort⟩
      obtain ⟨h3, h5⟩ := namesTs_perm ks _ _ h1 (addG_names hu)
      exact ⟨h3, by rw [h2, h5]⟩
    · simp only [if_neg h4]
      obtain ⟨h3, h5⟩ := namesTs_perm ks _ _ h hu
      exact ⟨h3, by rw [h5]⟩
theorem namesTs_perm : ∀ (l : List T) (a b : List Sg), a.Perm b → (a.map (·.name)).Nodup → (namesTs a l).1.Perm (namesTs b l).1 ∧ (namesTs a l).2 = (namesTs b l).2
  | [], a, b, h, hu => ⟨h, rfl⟩
  | t :: l, a, b, h, hu => by
    rw [namesTs, namesTs]
    obtain ⟨h1, h2⟩ := namesT_perm t a b h hu
    obtain ⟨h3, h5⟩ := namesTs_perm l _ _ h1 (namesT_uniq t a hu)
    exact ⟨h3, by simp only; rw [h2, h5]⟩
end
end Go.Vm
namespace Go.Proofs.YtjnejkganejdbaaGreat
open Go Go.Vm
set_option linter.unusedVariables false
theorem sorted_lt {L : List Sg} (hs : sortG L = L) (hu : Uniq L) {i j : Nat} (hj : j < L.length) (hij : i < j) : L[i].name < L[j].name := by
  have h1 := sortG_sorted L
  rw [hs] at h1
  have h2 := List.pairwise_iff_getElem.mp h1 i j (by omega) hj hij
  rcases List.le_iff_lt_or_eq.mp h2 with h3 | h3
  · exact h3
  · exfalso
    have h4 : (L.map (·.name))[i]'(by simp; omega) = (L.map (·.name))[j]'(by simp; omega) := by simpa using h3
    have h5 := (List.nodup_iff_pairwise_ne.mp hu)
    exact (List.pairwise_iff_getElem.mp h5 i j (by simp; omega) (by simp; omega) hij) h4
theorem ins_new {L : List Sg} {g : Sg} {i : Nat} (hs : sortG L = L) (hu : Uniq L) (hi : i ≤ L.length) (hlt : ∀ j (h : j < L.length), j < i → L[j].name < g.name) (hge : ∀ h : i < L.length, g.name < L[i].name) :
    addG L g = (L ++ [g], true) ∧ sortG (L ++ [g]) = L.take i ++ g :: L.drop i := by
  have hgt : ∀ j (h : j < L.length), i ≤ j → g.name < L[j].name := by
    intro j h hij
    by_cases e : i = j
    · subst e; exact hge h
    · exact List.lt_trans (hge (by omega)) (sorted_lt hs hu h (by omega))
  have hne : ∀ o ∈ L, g.name ≠ o.name := by
    intro o ho e
    obtain ⟨j, hj, rfl⟩ := List.getElem_of_mem ho
    by_cases hij : j < i
    · have := hlt j hj hij; rw [e] at this; exact List.lt_irrefl _ this
    · have := hgt j hj (by omega); rw [e] at this; exact List.lt_irrefl _ this
  have ha := addG_none hne
  refine ⟨ha, ?_⟩
  have hu2 : Uniq (L ++ [g]) := by
    have h1 : (L ++ [g]) = (addG L g).1 := by rw [ha]
    rw [h1]; exact addG_names hu
  refine (sorted_uniq hu2 ?_ ?_).symm
  · have h1 : (L.take i ++ g :: L.drop i).Perm (g :: (L.take i ++ L.drop i)) := List.perm_middle
    rw [List.take_append_drop] at h1
    exact h1.trans (List.perm_append_comm (l₁ := [g]) (l₂ := L))
  · have h1 := sortG_sorted L
    rw [hs] at h1
    rw [List.pairwise_append]
    refine ⟨h1.sublist (List.take_sublist _ _), ?_, ?_⟩
    · rw [List.pairwise_cons]
      refine ⟨fun o ho => ?_, h1.sublist (List.drop_sublist _ _)⟩
      obtain ⟨j, hj, rfl⟩ := List.getElem_of_mem ho
      rw [List.getElem_drop]
      exact List.le_of_lt (hgt _ (by rw [List.length_drop] at hj; omega) (by omega))
    · intro a ha b hb
      obtain ⟨j, hj, rfl⟩ := List.getElem_of_mem ha
      have hj' : j < i ∧ j < L.length := by rw [List.length_take] at hj; omega
      rw [List.getElem_take]
      have h2 := hlt j hj'.2 hj'.1
      rcases List.mem_cons.mp hb with rfl | hb
      · exact List.le_of_lt h2
      · obtain ⟨k, hk, rfl⟩ := List.getElem_of_mem hb
        rw [List.getElem_drop]
        exact List.le_of_lt (List.lt_trans h2 (hgt _ (by rw [List.length_drop] at hk; omega) (by omega)))
theorem sort_fix {L : List Sg} (hu : Uniq L) : sortG (sortG L) = sortG L := (sorted_uniq hu ((sortG_perm _).trans (sortG_perm _)) (sortG_sorted _))
end Go.Proofs.YtjnejkganejdbaaGreat
namespace Go.Proofs.YtjnejkganejdbaaGreat
open Go Go.Vm
set_option linter.unusedVariables false
set_option linter.unusedSimpArgs false
/-- Noting names is told, of terms so great, nothing else. -/
noncomputable def BTS (k : Nat) : Base := F.ref10_sigs.set (SigsK k) (Tab.rep noB)
noncomputable abbrev CS (k : Nat) : Vm.CallT := Vm.CC0 Go.Proofs.Tryz.prog (BTS k)
theorem fn_ofS (k : Nat) {g : Vm.Id} {nt : Nat} {res : List Res} {body : CC} {args : List AV} {s s' : St} {r : AV} (hg : g.get (Vm.prog Go.Proofs.Tryz.prog) = .mk nt res body ∧ g.get (BTS k) = noB) (h : args.length ≤ nt)
    (hw : W (CS k) body (fun f t => Rs (fun r0 s0 => Settled s r0 s0 r s') res f t) (fun _ _ _ => False) (fun f t => Rs (fun r0 s0 => Settled s r0 s0 r s') res f t) (frame0 args) (Sx s [])) : CS k g args s = .ok r s' := cc_of hg (WF_S h hw)
theorem codeS_ref10_SigOf (k : Nat) : F.ref10_SigOf.get (Vm.prog Go.Proofs.Tryz.prog) = C.ref10_SigOf ∧ F.ref10_SigOf.get (BTS k) = noB := ⟨code_ref10_SigOf.1, by kernel_rfl⟩
theorem codeS_ref10_SameSig (k : Nat) : F.ref10_SameSig.get (Vm.prog Go.Proofs.Tryz.prog) = C.ref10_SameSig ∧ F.ref10_SameSig.get (BTS k) = noB := ⟨code_ref10_SameSig.1, by kernel_rfl⟩
theorem SigOfS_ok (k0 : Nat) (s : St) (cs : List AV) (t : T) (hr : Room s) (hn : s.n.val + 13 * t.kids.length ≤ 50000) (hkl : t.kids.length ≤ 1000) (h : RT6 s cs t) : CS k0 F.ref10_SigOf [.agg cs] s = .ok (.agg [.str t.name, avI (t.kids.map T.sort), .int .i64 t.sort]) s := by
  obtain ⟨ng, mg, kv, rfl, hz, hk⟩ := h.ex
  generalize t.kids = l at *
  have hm := hk.most
  have hxa := ext_Sx (s := s) (l := [.cells [.int .i64 t.op, ng, mg, .str t.name, .int .i64 t.sort, kv], .cells [.str [], .nils, .int .i64 0], .cells [.str t.name, .nils, .int .i64 t.sort]]) hr (by simp)
  have hna := Sx_n (s := s) (l := [.cells [.int .i64 t.op, ng, mg, .str t.name, .int .i64 t.sort, kv], .cells [.str [], .nils, .int .i64 0], .cells [.str t.name, .nils, .int .i64 t.sort]]) hr (by simp)
  simp only [List.length_cons, List.length_nil] at hna
  have v1 := nm_val hr (k := 1) (by omega)
  have v2 := nm_val hr (k := 2) (by omega)
  have v0 := nm_val hr (k := 0) (by omega)
  have q3 := Sx_obj? (s := s) (l := [.cells [.int .i64 t.op, ng, mg, .str t.name, .int .i64 t.sort, kv], .cells [.str [], .nils, .int .i64 0], .cells [.str t.name, .nils, .int .i64 t.sort]]) hr (by simp) (i := 2) rfl
  have q2 := Sx_obj? (s := s) (l := [.cells [.int .i64 t.op, ng, mg, .str t.name, .int .i64 t.sort, kv], .cells [.str [], .nils, .int .i64 0], .cells [.str t.name, .nils, .int .i64 t.sort]]) hr (by simp) (i := 1) rfl
  have q1 := Sx_obj? (s := s) (l := [.cells [.int .i64 t.op, ng, mg, .str t.name, .int .i64 t.sort, kv], .cells [.str [], .nils, .int .i64 0], .cells [.str t.name, .nils, .int .i64 t.sort]]) hr (by simp) (i := 0) rfl
  refine fn_ofS k0 (codeS_ref10_SigOf k0) (by simp) ?_
  simp only [go_sem, ↓reduceIte, Nat.reduceMod, Nat.reduceEqDiff, Nat.reduceAdd, Nat.reduceMul, Nat.reduceSub, Nat.reduceLeDiff, Nat.reduceLT, Int.reduceEq, Int.reduceLT, Int.reduceLE, Int.reduceAdd, Int.reduceSub, Int.reduceNeg, reduceCtorEq, Nat.reduceShiftRight, Nat.reduceAnd, Nat.reduceBNe, hr, hk.one]
  generalize nm s 2 = b3 at *
  generalize nm s 1 = b2 at *
  generalize nm s 0 = b1 at *
  refine W_inv (fun k f τ => ∃ (i : Nat) (σ : St) (av : AV), Sx σ [] = τ ∧ Room σ ∧ Ext s σ ∧ s.n.val + 3 ≤ σ.n.val ∧ σ.n.val ≤ s.n.val + 3 + 13 * i ∧ k = l.length - i ∧ i ≤ l.length ∧ σ.obj b3 = .cells [.str t.name, av, .int .i64 t.sort] ∧ (∃ z, σ.obj b2 = .cells z ∧ z.length = 3) ∧ σ.obj b1 = .cells [.int .i64 t.op, ng, mg, .str t.name, .int .i64 t.sort, kv] ∧ OwnI s.n.val σ av (l.take i |>.map T.sort) b3 b2 b1 ∧
    (vv 1).get f = .ptr b1 0 ∧ (vv 2).get f = .ptr b2 0 ∧ (vv 3).get f = .ptr b3 0 ∧ (vv 4).get f = .int .i64 (i : Int)) ?_ ⟨0, _, .nils, Sx_nil _, hr.Sx (by simp; omega) (by simp), hxa, by omega, by omega, rfl, by omega, ?_, ?_, ?_, ?_, ?_⟩
  · rintro k f τ ⟨i, σ, av, rfl, hr1, hx, hn0, hn1, rfl, hi, o3, ⟨z, o2, hz3⟩, o1, own, g1, g2, g3, g4⟩
    have hk1 := hk.x hx
    have w3 : b3.val < σ.n.val := by omega
    have w2 : b2.val < σ.n.val := by omega
    have w1 : b1.val < σ.n.val := by omega
    have n23 : b2.val ≠ b3.val := by omega
    have n13 : b1.val ≠ b3.val := by omega
    by_cases c1 : i < l.length
    · obtain ⟨cs, hat⟩ := hk1.at c1
      obtain ⟨ng', mg', kv', rfl, hz', hkv'⟩ := hat.t6.ex
      have e1 : (l.take (i + 1)).map T.sort = (l.take i).map T.sort ++ [l[i].sort] := by rw [← List.take_append_getElem c1, List.map_append]; rfl
      rcases own.h with ⟨rfl, hl0⟩ | ⟨b, rfl, hne, h1, h2, h3, h4, h5, h6⟩
      · have hap := vapp_one0 (s := σ) (L := [.dead, .dead, .dead, .dead, .dead, .dead, .dead, .dead, .cells [.int .i64 l[i].sort], .dead, .dead, .dead]) (bytes := 8) hr1 (by simp) (i := 8) rfl (by unfold limit; omega)
        simp only [go_sem, ↓reduceIte, Nat.reduceMod, Nat.reduceEqDiff, Nat.reduceAdd, Nat.reduceMul, Nat.reduceSub, Nat.reduceLeDiff, Nat.reduceLT, Int.reduceEq, Int.reduceLT, Int.reduceLE, Int.reduceAdd, Int.reduceSub, Int.reduceNeg, reduceCtorEq, Nat.reduceShiftRight, Nat.reduceAnd, Nat.reduceBNe, g1, g2, g3, g4, Int.ofNat_lt, c1, w3, w1, o1, hr1, hk.vlen]
        refine W_drawn hr1 _ (by simp) ?_
        simp only [go_sem, ↓reduceIte, Nat.reduceMod, Nat.reduceEqDiff, Nat.reduceAdd, Nat.reduceMul, Nat.reduceSub, Nat.reduceLeDiff, Nat.reduceLT, Int.reduceEq, Int.reduceLT, Int.reduceLE, Int.reduceAdd, Int.reduceSub, Int.reduceNeg, reduceCtorEq, Nat.reduceShiftRight, Nat.reduceAnd, Nat.reduceBNe, g1, g2, g3, g4, hr1, hk1.ia c1, hat.fa, hat.fl, w3, w1, o3, o1, hap]
        refine ⟨l.length - (i + 1), by omega, i + 1, _, .sl (nm σ 12) 0 1 1 1, Sx_nil _, (hr1.put w3 _).Sx (by rw [put_n]; simp; omega) (by simp), (hx.put (by omega) _).trans (ext_Sx (hr1.put w3 _) (by simp)), ?_, ?_, rfl, by omega, ?_, ⟨z, ?_, hz3⟩, ?_, ?_, ?_⟩
        · rw [Sx_n (hr1.put w3 _) (by simp), put_n]; simp; omega
        · rw [Sx_n (hr1.put w3 _) (by simp), put_n]; simp; omega
        · rw [Sx_old (hr1.put w3 _) (by simp) (by rw [put_n]; exact w3), put_self]
        · rw [Sx_old (hr1.put w3 _) (by simp) (by rw [put_n]; exact w2), put_ne n23]; exact o2
        · rw [Sx_old (hr1.put w3 _) (by simp) (by rw [put_n]; exact w1), put_ne n13]; exact o1
        · rw [e1, hl0, List.nil_append]
          have vn := nm_val hr1 (k := 12) (by omega)
          refine ⟨.inr ⟨nm σ 12, rfl, by simp, ?_, ?_, by omega, by omega, by omega, by omega⟩⟩
          · have hob := Sx_obj? (s := σ.put b3 (.cells [.str t.name, .sl (nm σ 12) 0 1 1 1, .int .i64 t.sort])) (l := [.dead, .dead, .dead, .dead, .dead, .dead, .dead, .dead, .cells [.int .i64 l[i].sort], .dead, .dead, .dead, .cells [.int .i64 l[i].sort]]) (hr1.put w3 _) (by simp) (i := 12) rfl
            rw [nm_put] at hob; exact hob
          · rw [vn, Sx_n (hr1.put w3 _) (by simp), put_n]; simp
        · rw [wrap_i64 (by omega) (by omega)]; congr 1
      · have hlen : ((l.take i).map T.sort).length = i := by simp; omega
        have ci : (cellsI ((l.take i).map T.sort)).length = i := by simp [cellsI]; omega
        have o3' := o3
        rw [hlen] at o3'
        have hap := vapp_one (s := σ) (L := [.dead, .dead, .dead, .dead, .dead, .dead, .dead, .dead, .cells [.int .i64 l[i].sort], .dead, .dead, .dead]) (bytes := 8) (len := i) hr1 (by simp) h2 h1 ci (i := 8) rfl (by unfold limit; omega) (by unfold limit; omega)
        have hrb := hr1.put h2 .dead
        have w3b : b3.val < (σ.put b .dead).n.val := by rw [put_n]; exact w3
        have n3b : b3.val ≠ b.val := fun e => h4 e.symm
        have n2b : b2.val ≠ b.val := fun e => h5 e.symm
        have n1b : b1.val ≠ b.val := fun e => h6 e.symm
        simp only [go_sem, ↓reduceIte, Nat.reduceMod, Nat.reduceEqDiff, Nat.reduceAdd, Nat.reduceMul, Nat.reduceSub, Nat.reduceLeDiff, Nat.reduceLT, Int.reduceEq, Int.reduceLT, Int.reduceLE, Int.reduceAdd, Int.reduceSub, Int.reduceNeg, reduceCtorEq, Nat.reduceShiftRight, Nat.reduceAnd, Nat.reduceBNe, g1, g2, g3, g4, Int.ofNat_lt, c1, w3, w1, o1, hr1, hk.vlen]
        refine W_drawn hr1 _ (by simp) ?_
        simp only [go_sem, ↓reduceIte, Nat.reduceMod, Nat.reduceEqDiff, Nat.reduceAdd, Nat.reduceMul, Nat.reduceSub, Nat.reduceLeDiff, Nat.reduceLT, Int.reduceEq, Int.reduceLT, Int.reduceLE, Int.reduceAdd, Int.reduceSub, Int.reduceNeg, reduceCtorEq, Nat.reduceShiftRight, Nat.reduceAnd, Nat.reduceBNe, g1, g2, g3, g4, hr1, hk1.ia c1, hat.fa, hat.fl, w3, w1, h2, o3', o1, hap, put_ne n3b, put_ne n1b]
        refine ⟨l.length - (i + 1), by omega, i + 1, _, .sl (nm σ 12) 0 (i + 1) (i + 1) 1, Sx_nil _, (hrb.put w3b _).Sx (by rw [put_n, put_n]; simp; omega) (by simp), ((hx.put (by omega) _).put (by omega) _).trans (ext_Sx (hrb.put w3b _) (by simp)), ?_, ?_, rfl, by omega, ?_, ⟨z, ?_, hz3⟩, ?_, ?_, ?_⟩
        · rw [Sx_n (hrb.put w3b _) (by simp), put_n, put_n]; simp; omega
        · rw [Sx_n (hrb.put w3b _) (by simp), put_n, put_n]; simp; omega
        · rw [Sx_old (hrb.put w3b _) (by simp) (by rw [put_n]; exact w3b), put_self]
        · rw [Sx_old (hrb.put w3b _) (by simp) (by rw [put_n, put_n]; exact w2), put_ne n23, put_ne n2b]; exact o2
        · rw [Sx_old (hrb.put w3b _) (by simp) (by rw [put_n, put_n]; exact w1), put_ne n13, put_ne n1b]; exact o1
        · rw [e1]
          have vn := nm_val hr1 (k := 12) (by omega)
          refine ⟨.inr ⟨nm σ 12, ?_, by simp, ?_, ?_, by omega, by omega, by omega, by omega⟩⟩
          · rw [List.length_append, hlen]; rfl
          · have hob := Sx_obj? (s := (σ.put b .dead).put b3 (.cells [.str t.name, .sl (nm σ 12) 0 (i + 1) (i + 1) 1, .int .i64 t.sort])) (l := [.dead, .dead, .dead, .dead, .dead, .dead, .dead, .dead, .cells [.int .i64 l[i].sort], .dead, .dead, .dead, .cells (cellsI ((l.take i).map T.sort) ++ [.int .i64 l[i].sort])]) (hrb.put w3b _) (by simp) (i := 12) rfl
            rw [nm_put, nm_put] at hob
            rw [show cellsI ((l.take i).map T.sort ++ [l[i].sort]) = cellsI ((l.take i).map T.sort) ++ [.int .i64 l[i].sort] by simp [cellsI]]
            exact hob
          · rw [vn, Sx_n (hrb.put w3b _) (by simp), put_n, put_n]; simp
        · rw [wrap_i64 (by omega) (by omega)]; congr 1
    · have e : i = l.length := by omega
      subst e
      rw [List.take_length] at own
      have hav := own.one
      simp only [go_sem, ↓reduceIte, Nat.reduceMod, Nat.reduceEqDiff, Nat.reduceAdd, Nat.reduceMul, Nat.reduceSub, Nat.reduceLeDiff, Nat.reduceLT, Int.reduceEq, Int.reduceLT, Int.reduceLE, Int.reduceAdd, Int.reduceSub, Int.reduceNeg, reduceCtorEq, Nat.reduceShiftRight, Nat.reduceAnd, Nat.reduceBNe, g1, g2, g3, g4, Int.ofNat_lt, c1, hr1, w3, w2, w1, o1, o3, o2, hz3, hk.vlen]
      refine settled_fz ((hx.put (by omega) _).trans (ext_Sx (hr1.put w2 _) (by simp))) (fz_agg3 (.str _) ?_ (.int _ _))
      exact own.fz (fun b hb hb2 => by rw [Sx_old (hr1.put w2 _) (by simp) (by rw [put_n]; exact hb2), put_ne hb])
  · exact q3
  · exact ⟨_, q2, rfl⟩
  · exact q1
  · exact ⟨.inl ⟨rfl, by simp⟩⟩
  · simp only [go_sem, ↓reduceIte, Nat.reduceMod, Nat.reduceEqDiff, Nat.reduceAdd, Nat.reduceMul, Nat.reduceSub, Nat.reduceLeDiff, Nat.reduceLT, Int.reduceEq, Int.reduceLT, Int.reduceLE, Int.reduceAdd, Int.reduceSub, Int.reduceNeg, reduceCtorEq, Nat.reduceShiftRight, Nat.reduceAnd, Nat.reduceBNe]
    rfl
theorem refSame_ok (s : St) (g o : Sg) (av aw : AV) (hr : Room s) (hn : s.n.val + 12 * g.args.length + 2 ≤ 60000) (ha : Ints s av g.args) (hb : Ints s aw o.args) : CA F.ref10_SameSig [.agg [.str g.name, av, .int .i64 g.ret], .agg [.str o.name, aw, .int .i64 o.ret]] s = .ok (.bool (decide (g = o))) s := by
  have hm := ha.most
  have he : (g = o) ↔ (g.name = o.name ∧ g.ret = o.ret ∧ g.args = o.args) := by
    cases g; cases o; simp only [Sg.mk.injEq]
    constructor
    · rintro ⟨h1, h2, h3⟩; exact ⟨h1, h3, h2⟩
    · rintro ⟨h1, h2, h3⟩; exact ⟨h1, h3, h2⟩
  have hx := ext_Sx (s := s) (l := [.cells [.str g.name, av, .int .i64 g.ret], .cells [.str o.name, aw, .int .i64 o.ret]]) hr (by simp)
  have hnx := Sx_n (s := s) (l := [.cells [.str g.name, av, .int .i64 g.ret], .cells [.str o.name, aw, .int .i64 o.ret]]) hr (by simp)
  simp only [List.length_cons, List.length_nil] at hnx
  by_cases d1 : g.name = o.name
  rotate_left
  · refine fn_of code_ref10_SameSig (by simp) ?_
    simp only [go_sem, ↓reduceIte, Nat.reduceMod, Nat.reduceEqDiff, Nat.reduceAdd, Nat.reduceMul, Nat.reduceSub, Nat.reduceLeDiff, Nat.reduceLT, Int.reduceEq, Int.reduceLT, Int.reduceLE, Int.reduceAdd, Int.reduceSub, Int.reduceNeg, reduceCtorEq, Nat.reduceShiftRight, Nat.reduceAnd, Nat.reduceBNe, hr, d1, ha.one, hb.one, ne_eq, not_false_eq_true]
    exact settled_bool (ext_Sx hr (by simp)) (by simp [he, d1])
  by_cases d2 : g.ret = o.ret
  rotate_left
  · refine fn_of code_ref10_SameSig (by simp) ?_
    simp only [go_sem, ↓reduceIte, Nat.reduceMod, Nat.reduceEqDiff, Nat.reduceAdd, Nat.reduceMul, Nat.reduceSub, Nat.reduceLeDiff, Nat.reduceLT, Int.reduceEq, Int.reduceLT, Int.reduceLE, Int.reduceAdd, Int.reduceSub, Int.reduceNeg, reduceCtorEq, Nat.reduceShiftRight, Nat.reduceAnd, Nat.reduceBNe, hr, d1, d2, ha.one, hb.one, ne_eq, not_false_eq_true, not_true_eq_false]
    exact settled_bool (ext_Sx hr (by simp)) (by simp [he, d2])
  by_cases d3 : (g.args.length : Int) = (o.args.length : Int)
  rotate_left
  · refine fn_of code_ref10_SameSig (by simp) ?_
    simp only [go_sem, ↓reduceIte, Nat.reduceMod, Nat.reduceEqDiff, Nat.reduceAdd, Nat.reduceMul, Nat.reduceSub, Nat.reduceLeDiff, Nat.reduceLT, Int.reduceEq, Int.reduceLT, Int.reduceLE, Int.reduceAdd, Int.reduceSub, Int.reduceNeg, reduceCtorEq, Nat.reduceShiftRight, Nat.reduceAnd, Nat.reduceBNe, hr, d1, d2, d3, ha.one, hb.one, ha.vlen, hb.vlen, ne_eq, not_false_eq_true, not_true_eq_false]
    refine settled_bool (ext_Sx hr (by simp)) ?_
    rw [eq_comm, decide_eq_false_iff_not]
    intro e; rw [e] at d3; exact d3 rfl
  have d3' : g.args.length = o.args.length := by omega
  have v1 := nm_val hr (k := 1) (by omega)
  have v0 := nm_val hr (k := 0) (by omega)
  have q0 := Sx_obj? (s := s) (l := [.cells [.str g.name, av, .int .i64 g.ret], .cells [.str o.name, aw, .int .i64 o.ret]]) hr (by simp) (i := 0) rfl
  have q1 := Sx_obj? (s := s) (l := [.cells [.str g.name, av, .int .i64 g.ret], .cells [.str o.name, aw, .int .i64 o.ret]]) hr (by simp) (i := 1) rfl
  have hxr := hr.Sx (l := [.cells [.str g.name, av, .int .i64 g.ret], .cells [.str o.name, aw, .int .i64 o.ret]]) (by simp; omega) (by simp)
  refine fn_of code_ref10_SameSig (by simp) ?_
  simp only [go_sem, ↓reduceIte, Nat.reduceMod, Nat.reduceEqDiff, Nat.reduceAdd, Nat.reduceMul, Nat.reduceSub, Nat.reduceLeDiff, Nat.reduceLT, Int.reduceEq, Int.reduceLT, Int.reduceLE, Int.reduceAdd, Int.reduceSub, Int.reduceNeg, reduceCtorEq, Nat.reduceShiftRight, Nat.reduceAnd, Nat.reduceBNe, hr, d1, d2, d3, ha.one, hb.one, ha.vlen, hb.vlen, ne_eq, not_false_eq_true, not_true_eq_false]
  rw [d1, d2] at q0 q1 hx hnx hxr
  generalize hST : Sx s [.cells [.str o.name, av, .int .i64 o.ret], .cells [.str o.name, aw, .int .i64 o.ret]] = st at *
  generalize nm s 1 = b1 at *
  generalize nm s 0 = b0 at *
  refine W_inv (fun k f τ => ∃ (i : Nat) (σ : St), Sx σ [] = τ ∧ Room σ ∧ Ext s σ ∧ s.n.val + 2 ≤ σ.n.val ∧ σ.n.val ≤ s.n.val + 2 + 12 * i ∧ k = g.args.length - i ∧ i ≤ g.args.length ∧ g.args.take i = o.args.take i ∧ σ.obj b0 = .cells [.str o.name, av, .int .i64 o.ret] ∧ σ.obj b1 = .cells [.str o.name, aw, .int .i64 o.ret] ∧
    (vv 2).get f = .ptr b0 0 ∧ (vv 3).get f = .ptr b1 0 ∧ (vv 5).get f = .int .i64 (i : Int)) ?_ ⟨0, st, Sx_nil _, hxr, hx, by omega, by omega, rfl, by omega, by simp, q0, q1, ?_⟩
  · rintro k f τ ⟨i, σ, rfl, hr1, hx1, hn0, hn1, rfl, hi, hti, o0, o1, g2, g3, g5⟩
    have ha1 := ha.x hx1
    have hb1 := hb.x hx1
    have w0 : b0.val < σ.n.val := by omega
    have w1 : b1.val < σ.n.val := by omega
    by_cases c1 : i < g.args.length
    · have c1' : i < o.args.length := by omega
      simp only [go_sem, ↓reduceIte, Nat.reduceMod, Nat.reduceEqDiff, Nat.reduceAdd, Nat.reduceMul, Nat.reduceSub, Nat.reduceLeDiff, Nat.reduceLT, Int.reduceEq, Int.reduceLT, Int.reduceLE, Int.reduceAdd, Int.reduceSub, Int.reduceNeg, reduceCtorEq, Nat.reduceShiftRight, Nat.reduceAnd, Nat.reduceBNe, g2, g3, g5, w0, w1, o0, o1, hr1, ha1.vlen, hb1.vlen, Int.ofNat_lt, c1]
      refine W_drawn hr1 _ (by simp) ?_
      have hx2 : Ext s (Sx σ [.dead, .dead, .dead, .dead, .dead, .dead, .dead, .dead, .dead, .dead, .dead]) := hx1.trans (ext_Sx hr1 (by simp))
      have hr2 := hr1.Sx (l := [.dead, .dead, .dead, .dead, .dead, .dead, .dead, .dead, .dead, .dead, .dead]) (by simp; omega) (by simp)
      have hn2 := Sx_n (s := σ) (l := [.dead, .dead, .dead, .dead, .dead, .dead, .dead, .dead, .dead, .dead, .dead]) hr1 (by simp)
      simp only [List.length_cons, List.length_nil] at hn2
      by_cases c2 : g.args[i] = o.args[i]
      · simp only [go_sem, ↓reduceIte, Nat.reduceMod, Nat.reduceEqDiff, Nat.reduceAdd, Nat.reduceMul, Nat.reduceSub, Nat.reduceLeDiff, Nat.reduceLT, Int.reduceEq, Int.reduceLT, Int.reduceLE, Int.reduceAdd, Int.reduceSub, Int.reduceNeg, reduceCtorEq, Nat.reduceShiftRight, Nat.reduceAnd, Nat.reduceBNe, g2, g3, g5, w0, w1, o0, o1, hr1, ha1.ia c1, hb1.ia c1', ha1.i64 c1, hb1.i64 c1', c2, ne_eq, not_true_eq_false]
        refine ⟨g.args.length - (i + 1), by omega, i + 1, _, Sx_nil _, hr2, hx2, by omega, by omega, rfl, by omega, ?_, ?_, ?_, ?_⟩
        · rw [← List.take_append_getElem c1, ← List.take_append_getElem c1', hti, c2]
        · rw [Sx_old hr1 (by simp) w0]; exact o0
        · rw [Sx_old hr1 (by simp) w1]; exact o1
        · rw [wrap_i64 (by omega) (by omega)]; congr 1
      · simp only [go_sem, ↓reduceIte, Nat.reduceMod, Nat.reduceEqDiff, Nat.reduceAdd, Nat.reduceMul, Nat.reduceSub, Nat.reduceLeDiff, Nat.reduceLT, Int.reduceEq, Int.reduceLT, Int.reduceLE, Int.reduceAdd, Int.reduceSub, Int.reduceNeg, reduceCtorEq, Nat.reduceShiftRight, Nat.reduceAnd, Nat.reduceBNe, g2, g3, g5, w0, w1, o0, o1, hr1, ha1.ia c1, hb1.ia c1', ha1.i64 c1, hb1.i64 c1', c2, ne_eq, not_false_eq_true]
        refine settled_bool hx2 ?_
        rw [eq_comm, decide_eq_false_iff_not]
        intro e; subst e; exact c2 rfl
    · have e : i = g.args.length := by omega
      subst e
      rw [List.take_length, d3', List.take_length] at hti
      simp only [go_sem, ↓reduceIte, Nat.reduceMod, Nat.reduceEqDiff, Nat.reduceAdd, Nat.reduceMul, Nat.reduceSub, Nat.reduceLeDiff, Nat.reduceLT, Int.reduceEq, Int.reduceLT, Int.reduceLE, Int.reduceAdd, Int.reduceSub, Int.reduceNeg, reduceCtorEq, Nat.reduceShiftRight, Nat.reduceAnd, Nat.reduceBNe, g2, g3, g5, w0, w1, o0, o1, hr1, ha1.vlen, hb1.vlen, Int.ofNat_lt, c1]
      exact settled_bool hx1 (by simp [he, d1, d2, hti])
  · simp only [go_sem, ↓reduceIte, Nat.reduceMod, Nat.reduceEqDiff, Nat.reduceAdd, Nat.reduceMul, Nat.reduceSub, Nat.reduceLeDiff, Nat.reduceLT, Int.reduceEq, Int.reduceLT, Int.reduceLE, Int.reduceAdd, Int.reduceSub, Int.reduceNeg, reduceCtorEq, Nat.reduceShiftRight, Nat.reduceAnd, Nat.reduceBNe]
    rfl
theorem refSameS_ok (k0 : Nat) (s : St) (g o : Sg) (av aw : AV) (hr : Room s) (hn : s.n.val + 12 * g.args.length + 2 ≤ 60000) (ha : Ints s av g.args) (hb : Ints s aw o.args) : CS k0 F.ref10_SameSig [.agg [.str g.name, av, .int .i64 g.ret], .agg [.str o.name, aw, .int .i64 o.ret]] s = .ok (.bool (decide (g = o))) s := by
  have hm := ha.most
  have he : (g = o) ↔ (g.name = o.name ∧ g.ret = o.ret ∧ g.args = o.args) := by
    cases g; cases o; simp only [Sg.mk.injEq]
    constructor
    · rintro ⟨h1, h2, h3⟩; exact ⟨h1, h3, h2⟩
    · rintro ⟨h1, h2, h3⟩; exact ⟨h1, h3, h2⟩
  have hx := ext_Sx (s := s) (l := [.cells [.str g.name, av, .int .i64 g.ret], .cells [.str o.name, aw, .int .i64 o.ret]]) hr (by simp)
  have hnx := Sx_n (s := s) (l := [.cells [.str g.name, av, .int .i64 g.ret], .cells [.str o.name, aw, .int .i64 o.ret]]) hr (by simp)
  simp only [List.length_cons, List.length_nil] at hnx
  by_cases d1 : g.name = o.name
  rotate_left
  · refine fn_ofS k0 (codeS_ref10_SameSig k0) (by simp) ?_
    simp only [go_sem, ↓reduceIte, Nat.reduceMod, Nat.reduceEqDiff, Nat.reduceAdd, Nat.reduceMul, Nat.reduceSub, Nat.reduceLeDiff, Nat.reduceLT, Int.reduceEq, Int.reduceLT, Int.reduceLE, Int.reduceAdd, Int.reduceSub, Int.reduceNeg, reduceCtorEq, Nat.reduceShiftRight, Nat.reduceAnd, Nat.reduceBNe, hr, d1, ha.one, hb.one, ne_eq, not_false_eq_true]
    exact settled_bool (ext_Sx hr (by simp)) (by simp [he, d1])
  by_cases d2 : g.ret = o.ret
  rotate_left
  · refine fn_ofS k0 (codeS_ref10_SameSig k0) (by simp) ?_
    simp only [go_sem, ↓reduceIte, Nat.reduceMod, Nat.reduceEqDiff, Nat.reduceAdd, Nat.reduceMul, Nat.reduceSub, Nat.reduceLeDiff, Nat.reduceLT, Int.reduceEq, Int.reduceLT, Int.reduceLE, Int.reduceAdd, Int.reduceSub, Int.reduceNeg, reduceCtorEq, Nat.reduceShiftRight, Nat.reduceAnd, Nat.reduceBNe, hr, d1, d2, ha.one, hb.one, ne_eq, not_false_eq_true, not_true_eq_false]
    exact settled_bool (ext_Sx hr (by simp)) (by simp [he, d2])
  by_cases d3 : (g.args.length : Int) = (o.args.length : Int)
  rotate_left
  · refine fn_ofS k0 (codeS_ref10_SameSig k0) (by simp) ?_
    simp only [go_sem, ↓reduceIte, Nat.reduceMod, Nat.reduceEqDiff, Nat.reduceAdd, Nat.reduceMul, Nat.reduceSub, Nat.reduceLeDiff, Nat.reduceLT, Int.reduceEq, Int.reduceLT, Int.reduceLE, Int.reduceAdd, Int.reduceSub, Int.reduceNeg, reduceCtorEq, Nat.reduceShiftRight, Nat.reduceAnd, Nat.reduceBNe, hr, d1, d2, d3, ha.one, hb.one, ha.vlen, hb.vlen, ne_eq, not_false_eq_true, not_true_eq_false]
    refine settled_bool (ext_Sx hr (by simp)) ?_
    rw [eq_comm, decide_eq_false_iff_not]
    intro e; rw [e] at d3; exact d3 rfl
  have d3' : g.args.length = o.args.length := by omega
  have v1 := nm_val hr (k := 1) (by omega)
  have v0 := nm_val hr (k := 0) (by omega)
  have q0 := Sx_obj? (s := s) (l := [.cells [.str g.name, av, .int .i64 g.ret], .cells [.str o.name, aw, .int .i64 o.ret]]) hr (by simp) (i := 0) rfl
  have q1 := Sx_obj? (s := s) (l := [.cells [.str g.name, av, .int .i64 g.ret], .cells [.str o.name, aw, .int .i64 o.ret]]) hr (by simp) (i := 1) rfl
  have hxr := hr.Sx (l := [.cells [.str g.name, av, .int .i64 g.ret], .cells [.str o.name, aw, .int .i64 o.ret]]) (by simp; omega) (by simp)
  refine fn_ofS k0 (codeS_ref10_SameSig k0) (by simp) ?_
  simp only [go_sem, ↓reduceIte, Nat.reduceMod, Nat.reduceEqDiff, Nat.reduceAdd, Nat.reduceMul, Nat.reduceSub, Nat.reduceLeDiff, Nat.reduceLT, Int.reduceEq, Int.reduceLT, Int.reduceLE, Int.reduceAdd, Int.reduceSub, Int.reduceNeg, reduceCtorEq, Nat.reduceShiftRight, Nat.reduceAnd, Nat.reduceBNe, hr, d1, d2, d3, ha.one, hb.one, ha.vlen, hb.vlen, ne_eq, not_false_eq_true, not_true_eq_false]
  rw [d1, d2] at q0 q1 hx hnx hxr
  generalize hST : Sx s [.cells [.str o.name, av, .int .i64 o.ret], .cells [.str o.name, aw, .int .i64 o.ret]] = st at *
  generalize nm s 1 = b1 at *
  generalize nm s 0 = b0 at *
  refine W_inv (fun k f τ => ∃ (i : Nat) (σ : St), Sx σ [] = τ ∧ Room σ ∧ Ext s σ ∧ s.n.val + 2 ≤ σ.n.val ∧ σ.n.val ≤ s.n.val + 2 + 12 * i ∧ k = g.args.length - i ∧ i ≤ g.args.length ∧ g.args.take i = o.args.take i ∧ σ.obj b0 = .cells [.str o.name, av, .int .i64 o.ret] ∧ σ.obj b1 = .cells [.str o.name, aw, .int .i64 o.ret] ∧
    (vv 2).get f = .ptr b0 0 ∧ (vv 3).get f = .ptr b1 0 ∧ (vv 5).get f = .int .i64 (i : Int)) ?_ ⟨0, st, Sx_nil _, hxr, hx, by omega, by omega, rfl, by omega, by simp, q0, q1, ?_⟩
  · rintro k f τ ⟨i, σ, rfl, hr1, hx1, hn0, hn1, rfl, hi, hti, o0, o1, g2, g3, g5⟩
    have ha1 := ha.x hx1
    have hb1 := hb.x hx1
    have w0 : b0.val < σ.n.val := by omega
    have w1 : b1.val < σ.n.val := by omega
    by_cases c1 : i < g.args.length
    · have c1' : i < o.args.length := by omega
      simp only [go_sem, ↓reduceIte, Nat.reduceMod, Nat.reduceEqDiff, Nat.reduceAdd, Nat.reduceMul, Nat.reduceSub, Nat.reduceLeDiff, Nat.reduceLT, Int.reduceEq, Int.reduceLT, Int.reduceLE, Int.reduceAdd, Int.reduceSub, Int.reduceNeg, reduceCtorEq, Nat.reduceShiftRight, Nat.reduceAnd, Nat.reduceBNe, g2, g3, g5, w0, w1, o0, o1, hr1, ha1.vlen, hb1.vlen, Int.ofNat_lt, c1]
      refine W_drawn hr1 _ (by simp) ?_
      have hx2 : Ext s (Sx σ [.dead, .dead, .dead, .dead, .dead, .dead, .dead, .dead, .dead, .dead, .dead]) := hx1.trans (ext_Sx hr1 (by simp))
      have hr2 := hr1.Sx (l := [.dead, .dead, .dead, .dead, .dead, .dead, .dead, .dead, .dead, .dead, .dead]) (by simp; omega) (by simp)
      have hn2 := Sx_n (s := σ) (l := [.dead, .dead, .dead, .dead, .dead, .dead, .dead, .dead, .dead, .dead, .dead]) hr1 (by simp)
      simp only [List.length_cons, List.length_nil] at hn2
      by_cases c2 : g.args[i] = o.args[i]
      · simp only [go_sem, ↓reduceIte, Nat.reduceMod, Nat.reduceEqDiff, Nat.reduceAdd, Nat.reduceMul, Nat.reduceSub, Nat.reduceLeDiff, Nat.reduceLT, Int.reduceEq, Int.reduceLT, Int.reduceLE, Int.reduceAdd, Int.reduceSub, Int.reduceNeg, reduceCtorEq, Nat.reduceShiftRight, Nat.reduceAnd, Nat.reduceBNe, g2, g3, g5, w0, w1, o0, o1, hr1, ha1.ia c1, hb1.ia c1', ha1.i64 c1, hb1.i64 c1', c2, ne_eq, not_true_eq_false]
        refine ⟨g.args.length - (i + 1), by omega, i + 1, _, Sx_nil _, hr2, hx2, by omega, by omega, rfl, by omega, ?_, ?_, ?_, ?_⟩
        · rw [← List.take_append_getElem c1, ← List.take_append_getElem c1', hti, c2]
        · rw [Sx_old hr1 (by simp) w0]; exact o0
        · rw [Sx_old hr1 (by simp) w1]; exact o1
        · rw [wrap_i64 (by omega) (by omega)]; congr 1
      · simp only [go_sem, ↓reduceIte, Nat.reduceMod, Nat.reduceEqDiff, Nat.reduceAdd, Nat.reduceMul, Nat.reduceSub, Nat.reduceLeDiff, Nat.reduceLT, Int.reduceEq, Int.reduceLT, Int.reduceLE, Int.reduceAdd, Int.reduceSub, Int.reduceNeg, reduceCtorEq, Nat.reduceShiftRight, Nat.reduceAnd, Nat.reduceBNe, g2, g3, g5, w0, w1, o0, o1, hr1, ha1.ia c1, hb1.ia c1', ha1.i64 c1, hb1.i64 c1', c2, ne_eq, not_false_eq_true]
        refine settled_bool hx2 ?_
        rw [eq_comm, decide_eq_false_iff_not]
        intro e; subst e; exact c2 rfl
    · have e : i = g.args.length := by omega
      subst e
      rw [List.take_length, d3', List.take_length] at hti
      simp only [go_sem, ↓reduceIte, Nat.reduceMod, Nat.reduceEqDiff, Nat.reduceAdd, Nat.reduceMul, Nat.reduceSub, Nat.reduceLeDiff, Nat.reduceLT, Int.reduceEq, Int.reduceLT, Int.reduceLE, Int.reduceAdd, Int.reduceSub, Int.reduceNeg, reduceCtorEq, Nat.reduceShiftRight, Nat.reduceAnd, Nat.reduceBNe, g2, g3, g5, w0, w1, o0, o1, hr1, ha1.vlen, hb1.vlen, Int.ofNat_lt, c1]
      exact settled_bool hx1 (by simp [he, d1, d2, hti])
  · simp only [go_sem, ↓reduceIte, Nat.reduceMod, Nat.reduceEqDiff, Nat.reduceAdd, Nat.reduceMul, Nat.reduceSub, Nat.reduceLeDiff, Nat.reduceLT, Int.reduceEq, Int.reduceLT, Int.reduceLE, Int.reduceAdd, Int.reduceSub, Int.reduceNeg, reduceCtorEq, Nat.reduceShiftRight, Nat.reduceAnd, Nat.reduceBNe]
    rfl
end Go.Proofs.YtjnejkganejdbaaGreat
namespace Go.Proofs.YtjnejkganejdbaaGreat
open Go Go.Vm
set_option linter.unusedVariables false
set_option maxRecDepth 100000
noncomputable def S.b : Code := Tryz.f52.body.getD .skip
def cThn : Code → Code
  | .cond _ a _ => a
  | c => c
def cEls : Code → Code
  | .cond _ _ a => a
  | c => c
noncomputable def S.M : Code := cFst (cSnd (cSnd S.b))
noncomputable def S.X : Code := cThn (cSnd S.M)
noncomputable def S.r1 : CC := (.region [oo 3 (.box (tt 0)), oo 6 (.mv (.c .nils)), oo 7 (.mv (.c (.bool false)))])
noncomputable def S.r2 : CC := (.region [mm 13 1, mm 14 2, mm 8 13, mm 9 14])
noncomputable def S.r3 : CC := (.region [oo 15 (.faddr 0 (tt 3)), oo 16 (.load false 1 (tt 15)), oo 17 (.bin .eql (tt 16) (kk 4))])
noncomputable def S.r4 : CC := (.region [oo 18 (.load true 6 (tt 3)), oo 19 (.callf F.ref10_SigOf [(tt 18)]), oo 10 (.alloc [(.str []), .nils, (.int .i64 0)]), on (.store 3 (tt 10) (tt 19))])
noncomputable def S.r5 : CC := (.region [oo 11 (.mv (kk 0))])
noncomputable def S.L : CC := (.block 0 (.loop (.seq (.seq (.drawn [.mk 0 0 .quiet (mm 20 11), .mk 1 0 .quiet (mm 21 8), .mk 2 2 .quiet (oo 22 (.len (tt 21))), .mk 3 7 .quiet (oo 23 (.bin .lss (tt 20) (tt 22))), .mk 4 15 .quiet (mm 24 23), .mk 5 31 .quiet (og 25 (.mv (tt 8)) 24 true), .mk 6 31 .quiet (og 26 (.mv (tt 11)) 24 true), .mk 7 127 .quiet (og 27 (.iaddr 3 (tt 25) (tt 26)) 24 true), .mk 8 255 .quiet (og 28 (.faddr 0 (tt 27)) 24 true), .mk 9 511 .read (og 29 (.load false 1 (tt 28)) 24 true), .mk 10 31 .quiet (og 30 (.faddr 0 (tt 10)) 24 true), .mk 11 1055 .read (og 31 (.load false 1 (tt 30)) 24 true), .mk 12 4095 .quiet (og 32 (.bin .lss (tt 29) (tt 31)) 24 true), .mk 13 8191 .quiet (oo 33 (.pick (tt 24) (tt 32) (.c (.bool false))))]) (.cond (tt 33) (.skip) (.exit 0))) (.block 1 (.region [mm 34 11, oo 35 (.bin .add (tt 34) (kk 1)), mm 11 35])))))
noncomputable def S.Y : CC := (.seq (.drawn [.mk 0 0 .quiet (mm 36 11), .mk 1 0 .quiet (mm 37 8), .mk 2 2 .quiet (oo 38 (.len (tt 37))), .mk 3 7 .quiet (oo 39 (.bin .lss (tt 36) (tt 38))), .mk 4 15 .quiet (mm 40 39), .mk 5 31 .quiet (og 41 (.mv (tt 8)) 40 true), .mk 6 31 .quiet (og 42 (.mv (tt 11)) 40 true), .mk 7 127 .quiet (og 43 (.iaddr 3 (tt 41) (tt 42)) 40 true), .mk 8 255 .quiet (og 44 (.faddr 0 (tt 43)) 40 true), .mk 9 511 .read (og 45 (.load false 1 (tt 44)) 40 true), .mk 10 31 .quiet (og 46 (.faddr 0 (tt 10)) 40 true), .mk 11 1055 .read (og 47 (.load false 1 (tt 46)) 40 true), .mk 12 4095 .quiet (og 48 (.bin .eql (tt 45) (tt 47)) 40 true), .mk 13 8191 .quiet (oo 49 (.pick (tt 40) (tt 48) (.c (.bool false))))]) (.cond (tt 49) (.drawn [.mk 0 0 .quiet (mm 50 9), .mk 1 1 .quiet (mm 51 50), .mk 2 3 .quiet (og 52 (.mv (tt 8)) 51 true), .mk 3 3 .quiet (og 53 (.mv (tt 11)) 51 true), .mk 4 15 .quiet (og 54 (.iaddr 3 (tt 52) (tt 53)) 51 true), .mk 5 31 .read (og 55 (.load true 3 (tt 54)) 51 true), .mk 6 3 .read (og 56 (.load true 3 (tt 10)) 51 true), .mk 7 127 .mut (og 57 (.callf F.ref10_SameSig [(tt 55), (tt 56)]) 51 true), .mk 8 255 .quiet (oo 58 (.pick (tt 51) (tt 57) (.c (.bool false)))), .mk 9 511 .quiet (mm 9 58)]) (.drawn [.mk 0 0 .quiet (mm 59 8), .mk 1 0 .quiet (mm 60 11), .mk 2 3 .quiet (oo 61 (.slice 3 (tt 59) none (some (tt 60)) none)), .mk 3 7 .mut (oo 62 (.app 3 48 (.c .nils) (tt 61))), .mk 4 0 .read (oo 63 (.load true 3 (tt 10))), .mk 5 16 .alloc (oo 64 (.blit 1 [(.str []), .nils, (.int .i64 0)] [⟨0, 3, (tt 63)⟩])), .mk 6 63 .mut (oo 65 (.app 3 48 (tt 62) (tt 64))), .mk 7 0 .quiet (mm 66 8), .mk 8 0 .quiet (mm 67 11), .mk 9 384 .quiet (oo 68 (.slice 3 (tt 66) (some (tt 67)) none none)), .mk 10 1023 .mut (oo 69 (.app 3 48 (tt 65) (tt 68))), .mk 11 2047 .quiet (mm 8 69)])))
noncomputable def S.rest : CC := (.seq (.seq (.region [oo 12 (.mv (kk 0))]) (.block 2 (.loop (.seq (.seq (.region [mm 70 12, oo 71 (.faddr 5 (tt 3)), oo 72 (.load false 1 (tt 71)), oo 73 (.len (tt 72)), oo 74 (.bin .lss (tt 70) (tt 73))]) (.cond (tt 74) (.skip) (.exit 2))) (.seq (.block 3 (.region [oo 78 (.faddr 5 (tt 3)), oo 79 (.load false 1 (tt 78)), mm 80 12, oo 81 (.iaddr 6 (tt 79) (tt 80)), oo 82 (.load true 6 (tt 81)), mm 83 8, mm 84 9, oo 85 (.callf F.ref10_sigs [(tt 82), (tt 83), (tt 84)]), mm 77 85, oo 86 (.ext (tt 77) 0), oo 87 (.ext (tt 77) 1), mm 8 86, mm 9 87])) (.region [mm 75 12, oo 76 (.bin .add (tt 75) (kk 1)), mm 12 76])))))) (.seq (.region [mm 88 8, mm 89 9, mm 6 88, mm 7 89]) (.ret)))
noncomputable def S.nt : Nat := Tryz.f52.ntmps
theorem S.hr1 : cc Tryz.prog Tryz.f52.ntmps (cFst S.b) = some S.r1 := by kernel_rfl
theorem S.hr2 : cc Tryz.prog Tryz.f52.ntmps (cFst (cSnd S.b)) = some S.r2 := by kernel_rfl
theorem S.hr3 : cc Tryz.prog Tryz.f52.ntmps (cFst S.M) = some S.r3 := by kernel_rfl
theorem S.hr4 : cc Tryz.prog Tryz.f52.ntmps (cFst S.X) = some S.r4 := by kernel_rfl
theorem S.hr5 : cc Tryz.prog Tryz.f52.ntmps (cFst (cSnd S.X)) = some S.r5 := by kernel_rfl
theorem S.hL : cc Tryz.prog Tryz.f52.ntmps (cFst (cSnd (cSnd S.X))) = some S.L := by kernel_rfl
theorem S.hY : cc Tryz.prog Tryz.f52.ntmps (cSnd (cSnd (cSnd S.X))) = some S.Y := by kernel_rfl
theorem S.hrest : cc Tryz.prog Tryz.f52.ntmps (cSnd (cSnd (cSnd S.b))) = some S.rest := by kernel_rfl
theorem S.hc : cod (cCnd (cSnd S.M)) = some (tt 17) := by kernel_rfl
theorem S.split : S.b = .seq (cFst S.b) (.seq (cFst (cSnd S.b)) (.seq (.seq (cFst S.M) (.cond (cCnd (cSnd S.M)) (.seq (cFst S.X) (.seq (cFst (cSnd S.X)) (.seq (cFst (cSnd (cSnd S.X))) (cSnd (cSnd (cSnd S.X)))))) (cEls (cSnd S.M)))) (cSnd (cSnd (cSnd S.b))))) := by kernel_rfl
theorem S.skip : cc Tryz.prog Tryz.f52.ntmps (cEls (cSnd S.M)) = some .skip := by kernel_rfl
theorem S.hf : Tryz.prog.funcs[52]? = some Tryz.f52 := Tryz.func52
theorem S.hb : Tryz.f52.body = some S.b := by kernel_rfl
theorem S.hrs : Tryz.f52.results.toList.mapM (copRes Tryz.prog) = some [.tmp (vv 6), .tmp (vv 7)] := by kernel_rfl
theorem S.hnt : Tryz.f52.ntmps ≤ 256 := by decide
theorem rt6_det {s : St} {cs : List AV} {t u : T} (h : RT6 s cs t) (k : RT6 s cs u) : t = u := by
  have h1 := h.rt []
  have h2 := k.rt []
  exact rt_det h1 h2
theorem avG_inj {a b : List Sg} (h : avG a = avG b) : a = b := by
  unfold avG at h
  by_cases h1 : a = []
  · by_cases h2 : b = []
    · rw [h1, h2]
    · rw [if_pos h1, if_neg h2] at h; cases h
  · by_cases h2 : b = []
    · rw [if_neg h1, if_pos h2] at h; cases h
    · rw [if_neg h1, if_neg h2] at h
      injection h with h3
      exact rowG_inj h3
theorem avG_sl {a : List Sg} {b : Vm.Id} {o l c x : Nat} (h : avG a = .sl b o l c x) : False := by
  unfold avG at h
  split at h <;> cases h
theorem _root_.Go.Vm.RowG.det {s : St} {v : AV} {a b : List Sg} (h : RowG s v a) (k : RowG s v b) : a = b := by
  rcases h.h with h1 | ⟨c, h1, h2, h3, h4⟩ <;> rcases k.h with k1 | ⟨d, k1, k2, k3, k4⟩
  · exact avG_inj (h1.symm.trans k1)
  · exact (avG_sl (h1.symm.trans k1)).elim
  · exact (avG_sl (k1.symm.trans h1)).elim
  · rw [h1] at k1
    injection k1 with e1
    rw [← e1, h3] at k3
    injection k3 with k3
    exact rowG_inj k3
theorem sigsK_eq {k : Nat} {a : List AV} {s : St} {t : T} {v : AV} {L : List Sg} {b : Bool} (h : ToSig k a s t v L b) : SigsK k a s = .ok (.tup [resG v L (namesT L t).1, .bool (b && (namesT L t).2)]) s := by
  have hx : ∃ p : T × AV × List Sg × Bool, ToSig k a s p.1 p.2.1 p.2.2.1 p.2.2.2 := ⟨(t, v, L, b), h⟩
  unfold SigsK
  rw [dif_pos hx]
  have hc := hx.choose_spec
  generalize hx.choose = q at hc
  obtain ⟨t', v', L', b'⟩ := q
  obtain ⟨cs, e1, h1⟩ := h.args
  obtain ⟨ds, e2, h2⟩ := hc.args
  rw [e1] at e2
  simp only [List.cons.injEq, AV.agg.injEq, AV.bool.injEq, and_true] at e2
  obtain ⟨rfl, e3, e4⟩ := e2
  have e5 := rt6_det h1 h2
  have hr := hc.row
  simp only at e3 e4 e5 hr ⊢
  rw [← e3] at hr ⊢
  rw [← e4, ← e5, ← h.row.det hr]
theorem sigsK_ok {k : Nat} {a : List AV} {s s' : St} {r : AV} (h : SigsK k a s = .ok r s') : ∃ t v L b, ToSig k a s t v L b ∧ r = .tup [resG v L (namesT L t).1, .bool (b && (namesT L t).2)] ∧ s' = s := by
  unfold SigsK at h
  split at h
  · rename_i hx
    obtain ⟨h1, h2⟩ := ok_inj h
    exact ⟨_, _, _, _, hx.choose_spec, h1.symm, h2.symm⟩
  · exact R.noConfusion h
theorem sigsS_ok {k : Nat} {a : List AV} {s : St} {t : T} {v : AV} {L : List Sg} {b : Bool} (h : ToSig k a s t v L b) : CS k F.ref10_sigs a s = .ok (.tup [resG v L (namesT L t).1, .bool (b && (namesT L t).2)]) s :=
  cc_ok.mpr (.base _ _ _ _ _ (by rw [show F.ref10_sigs.get (BTS k) = SigsK k from by unfold BTS; rw [Id.get_set, if_pos rfl]]; exact sigsK_eq h))
end Go.Proofs.YtjnejkganejdbaaGreat
namespace Go.Vm
set_option linter.unusedVariables false
noncomputable def vsllo (sz : Nat) (x l : AV) (s : St) : R := x.onSl .no
    (bnd none 0 0 fun m => bnd none m 0 fun h => bnd (some l) h 0 fun _ => .ok .nils s)
    (fun b o len cap ex => bnd none cap cap fun m => bnd none m len fun h => bnd (some l) h 0 fun l =>
      br (br (Nat.beq ex 0) true (br false true (Nat.ble (Nat.succ l) cap)))
        (br (br (Nat.beq ex 0) true (br false true (Nat.beq ex sz))) (.ok (.sl b (br (Nat.beq m l) o (Nat.add o (Nat.mul l sz))) (Nat.sub h l) (Nat.sub m l) (br false 0 ex)) s) .no)
        (.ok (.ts [] 0 0 false) s))
    fun cs len cap ex => bnd none cap cap fun m => bnd none (Nat.min m len) len fun h => bnd (some l) h 0 fun l =>
      .ok (.ts (dr (Nat.mul l sz) (tk (Nat.mul h sz) cs)) (Nat.sub h l) (Nat.sub m l) (br ex true false)) s
theorem p_sllo (call : CallT) (f : Fr AV) (s : St) (sz : Nat) (x l : CO) : exop (.slice sz x (some l) none none) call f s = vsllo sz (ev1 f x) (ev1 f l) s := nd rfl
theorem bnd_some {j : IntKind} {i n d : Nat} (h : i ≤ n) (k : Nat → R) : bnd (some (.int j (i : Int))) n d k = k i := by
  show (AV.int j (i : Int)).idx (n + 1) k = _
  rw [idx_eq (by omega) (by omega)]; rfl
theorem hi_nils (s : St) (j : IntKind) : vslhi 3 .nils (.int j ((0 : Nat) : Int)) s = .ok .nils s := by
  show bnd (some (.int j ((0 : Nat) : Int))) 0 0 (fun h => R.ok .nils s) = _
  rw [bnd_some (by omega)]
theorem lo_nils (s : St) (j : IntKind) : vsllo 3 .nils (.int j ((0 : Nat) : Int)) s = .ok .nils s := by
  show bnd (some (.int j ((0 : Nat) : Int))) 0 0 (fun h => R.ok .nils s) = _
  rw [bnd_some (by omega)]
theorem hi_ts {cs : List AV} {n i : Nat} (h : i ≤ n) (s : St) (j : IntKind) : vslhi 3 (.ts cs n n false) (.int j (i : Int)) s = .ok (.ts (cs.take (i * 3)) i n false) s := by
  show bnd (some (.int j (i : Int))) (Nat.min n n) n (fun h => R.ok (.ts (dr (0 * 3) (tk (h * 3) cs)) (h - 0) (n - 0) false) s) = _
  rw [show Nat.min n n = n from Nat.min_self n, bnd_some h, Nat.zero_mul, tk_eq, dr_eq]; rfl
theorem lo_ts {cs : List AV} {n i : Nat} (h : i ≤ n) (s : St) (j : IntKind) : vsllo 3 (.ts cs n n false) (.int j (i : Int)) s = .ok (.ts ((cs.take (n * 3)).drop (i * 3)) (n - i) (n - i) false) s := by
  show bnd (some (.int j (i : Int))) n 0 (fun l => R.ok (.ts (dr (l * 3) (tk (n * 3) cs)) (n - l) (n - l) false) s) = _
  rw [bnd_some h, tk_eq, dr_eq]
theorem hi_sl {b : Id} {n i : Nat} (h : i ≤ n) (hn : n ≠ 0) (s : St) (j : IntKind) : vslhi 3 (.sl b 0 n n 3) (.int j (i : Int)) s = .ok (.sl b 0 i n 3) s := by
  show bnd (some (.int j (i : Int))) n n (fun h => br (br (Nat.beq 3 0) true (Nat.ble (0 + 1) n)) (R.ok (.sl b (br (Nat.beq n 0) 0 (0 + 0 * 3)) (h - 0) (n - 0) 3) s) (.ok (.ts [] 0 0 false) s)) = _
  rw [bnd_some h, ble_t (by omega), beq_f hn]; rfl
theorem lo_sl {b : Id} {n i : Nat} (h : i < n) (s : St) (j : IntKind) : vsllo 3 (.sl b 0 n n 3) (.int j (i : Int)) s = .ok (.sl b (i * 3) (n - i) (n - i) 3) s := by
  show bnd (some (.int j (i : Int))) n 0 (fun l => br (br (Nat.beq 3 0) true (Nat.ble (l + 1) n)) (R.ok (.sl b (br (Nat.beq n l) 0 (0 + l * 3)) (n - l) (n - l) 3) s) (.ok (.ts [] 0 0 false) s)) = _
  rw [bnd_some (by omega), ble_t (by omega), show Nat.beq n i = false from beq_f (by omega), Nat.zero_add]; rfl
theorem lo_slN {b : Id} {n : Nat} (s : St) (j : IntKind) : vsllo 3 (.sl b 0 n n 3) (.int j (n : Int)) s = .ok (.ts [] 0 0 false) s := by
  show bnd (some (.int j (n : Int))) n 0 (fun l => br (br (Nat.beq 3 0) true (Nat.ble (l + 1) n)) (R.ok (.sl b (br (Nat.beq n l) 0 (0 + l * 3)) (n - l) (n - l) 3) s) (.ok (.ts [] 0 0 false) s)) = _
  rw [bnd_some (by omega), ble_f (by omega)]; rfl
/-- Nothing more, to what has grown. -/
theorem vapp_zero {s : St} {sz bytes len : Nat} {b : Id} {y : AV} {cs : List AV} (hi : s.obj b = .cells cs) (hc : cs.length = len * sz) (hy : IsSl s y) (h0 : lenOf y = 0) : vapp sz bytes (.sl b 0 len len sz) y s = .ok (.sl b 0 len len sz) s := by
  unfold vapp
  rw [srcOf_sl hy (by rw [h0]; omega)]
  show (s.obj b).onCells R.no (fun cs => br (Nat.ble (0 + len * sz) (ln cs)) (br (Nat.ble (len + lenOf y) len) (.ok (.sl b 0 (len + lenOf y) len sz) (s.put b (.cells (splice (0 + len * sz) ((rowOf s y).take (lenOf y * sz)) cs)))) _) .no) = _
  rw [hi]
  show br (Nat.ble (0 + len * sz) (ln cs)) (br (Nat.ble (len + lenOf y) len) (R.ok (.sl b 0 (len + lenOf y) len sz) (s.put b (.cells (splice (0 + len * sz) ((rowOf s y).take (lenOf y * sz)) cs)))) _) .no = _
  rw [ln_eq, ble_t (by omega), ble_t (by omega), br_true', br_true', h0, Nat.zero_mul, List.take_zero, Nat.add_zero]
  have e : splice (0 + len * sz) [] cs = cs := by
    have key : ∀ (o : Nat) (l : List AV), splice o [] l = l := by
      intro o l
      induction l generalizing o with
      | nil => cases o <;> rfl
      | cons a l ih => cases o with
        | zero => rfl
        | succ o => show a :: splice o [] l = _; rw [ih]
    exact key _ _
  rw [e, ← hi]
  congr 1
  exact St.ext' (put_n _ _ _) (fun c => by
    rw [St.obj_put]
    split
    · rename_i h; rw [h]
    · rfl)
def RSg (r : List AV) (g : Sg) : Prop := ∃ rest, r = sgC g ++ rest
theorem flat3_drop (L : List Sg) : ∀ i, (L.flatMap sgC).drop (i * 3) = (L.drop i).flatMap sgC := by
  induction L with
  | nil => intro i; simp
  | cons g L ih =>
    intro i
    cases i with
    | zero => simp
    | succ i =>
      rw [List.flatMap_cons, List.drop_succ_cons, ← ih i, show (i + 1) * 3 = 3 + i * 3 by omega, ← List.drop_drop]
      rfl
theorem flat3_take (L : List Sg) : ∀ i, (L.flatMap sgC).take (i * 3) = (L.take i).flatMap sgC := by
  induction L with
  | nil => intro i; simp
  | cons g L ih =>
    intro i
    cases i with
    | zero => simp
    | succ i =>
      rw [List.flatMap_cons, List.take_succ_cons, List.flatMap_cons, ← ih i, show (i + 1) * 3 = i * 3 + 3 by omega]
      rfl
theorem flat3_len (es : List Sg) : (es.flatMap sgC).length = es.length * 3 := by
  induction es with
  | nil => rfl
  | cons g es ih => rw [List.flatMap_cons, List.length_append, ih, List.length_cons]; show 3 + _ = _; omega
theorem avI_ov (n : Nat) (l : List Int) : Ov n (avI l) := by
  unfold avI
  split
  · exact ov_nils n
  · refine ov_ts (fun c hc => ?_) _ _ _
    obtain ⟨m, _, rfl⟩ := List.mem_map.mp hc
    exact ov_int _ _ _
theorem sgC_ov (n : Nat) (es : List Sg) : ∀ c ∈ es.flatMap sgC, Ov n c := by
  intro c hc
  obtain ⟨g, _, hg⟩ := List.mem_flatMap.mp hc
  simp only [sgC, List.mem_cons, List.not_mem_nil, or_false] at hg
  rcases hg with rfl | rfl | rfl
  · exact ov_str _ _
  · exact avI_ov _ _
  · exact ov_int _ _ _
theorem avG_ov (n : Nat) (es : List Sg) : Ov n (avG es) := by
  unfold avG
  split
  · exact ov_nils n
  · exact ov_ts (sgC_ov n es) _ _ _
section
variable {s : St} {v : AV} {L : List Sg}
theorem RowG.len (h : RowG s v L) : lenOf v = L.length := by
  rcases h.h with rfl | ⟨b, rfl, _⟩
  · unfold avG
    split
    · rename_i e; rw [e]; rfl
    · rfl
  · rfl
theorem RowG.row (h : RowG s v L) : rowOf s v = L.flatMap sgC := by
  rcases h.h with rfl | ⟨b, rfl, h1, h2, h3⟩
  · unfold avG
    split
    · rename_i e; rw [e]; rfl
    · rfl
  · show (s.obj b).row.drop 0 = _
    rw [h2]; rfl
theorem RowG.isl (h : RowG s v L) (hl : L.length ≤ 1000) : IsSl s v := by
  rcases h.h with rfl | ⟨b, rfl, h1, h2, h3⟩
  · unfold avG
    split
    · exact .nils
    · exact .ts _ _ _ _ (by unfold limit; omega) (sgC_ov _ _)
  · exact .sl b 0 _ _ _ _ (by unfold limit; omega) h2 h3 (by omega)
theorem RowG.ext {s' : St} (h : RowG s v L) (hx : Ext s s') : RowG s' v L := by
  rcases h.h with h1 | ⟨b, h1, h2, h3, h4⟩
  · exact ⟨.inl h1⟩
  · exact ⟨.inr ⟨b, h1, h2, by rw [hx.old b h4]; exact h3, Nat.lt_of_lt_of_le h4 hx.n⟩⟩
theorem RowG.ov (h : RowG s v L) : Ov s.n.val v := by
  rcases h.h with rfl | ⟨b, rfl, h1, h2, h3⟩
  · exact avG_ov _ _
  · exact ov_sl h3 _ _ _ _
theorem RowG.slr (h : RowG s v L) (hl : L.length ≤ 1000) : SlR s v 3 RSg L := by
  refine ⟨h.isl hl, h.len, fun i hi => ?_⟩
  rw [h.row, flat3_drop, List.drop_eq_getElem_cons hi, List.flatMap_cons]
  exact ⟨_, rfl⟩
/-- An element. -/
theorem SlR.sgName (h : SlR s v 3 RSg L) {i : Nat} (hi : i < L.length) {σ : St} (hx : Ext s σ) : vload false 1 (elp v (i * 3)) σ = .ok (.str L[i].name) σ := by
  obtain ⟨t, ht⟩ := h.el i hi
  rw [vload_x h.sl (by rw [ht]; simp [sgC]) false 1 hx, ht]
  exact wrap1_one _ _ _ _
theorem SlR.sgLoad (h : SlR s v 3 RSg L) {i : Nat} (hi : i < L.length) {σ : St} (hx : Ext s σ) : vload true 3 (elp v (i * 3)) σ = .ok (.agg (sgC L[i])) σ := by
  obtain ⟨t, ht⟩ := h.el i hi
  rw [vload_x h.sl (by rw [ht]; simp [sgC]) true 3 hx, ht, wrap1_agg (by simp [sgC])]
  rfl
theorem SlR.sgFld (h : SlR s v 3 RSg L) {i : Nat} (hi : i < L.length) (σ : St) : vfaddr 0 (elp v (i * 3)) σ = .ok (elp v (i * 3)) σ := by
  obtain ⟨t, ht⟩ := h.el i hi
  exact vfaddr_any h.sl (by intro e; rw [e] at ht; simp [sgC] at ht) _ _ _
theorem RowG.hi (h : RowG s v L) (hl : L.length ≤ 1000) {i : Nat} (hi : i ≤ L.length) : ∃ x, (∀ (j : IntKind) (σ : St), vslhi 3 v (.int j (i : Int)) σ = .ok x σ) ∧ lenOf x = i ∧ ∀ σ, Ext s σ → IsSl σ x ∧ i * 3 ≤ (rowOf σ x).length ∧ (rowOf σ x).take (i * 3) = (L.take i).flatMap sgC := by
  rcases h.h with rfl | ⟨b, rfl, h1, h2, h3⟩
  · unfold avG
    split
    · rename_i e
      subst e
      have e0 : i = 0 := by simpa using hi
      subst e0
      exact ⟨.nils, fun j σ => hi_nils σ j, rfl, fun σ hx => ⟨.nils, by simp, by simp⟩⟩
    · refine ⟨_, fun j σ => hi_ts hi σ j, rfl, fun σ hx => ⟨.ts _ _ _ _ (by unfold limit; omega) (fun c hc => sgC_ov _ L c (List.mem_of_mem_take hc)), ?_, ?_⟩⟩
      · show i * 3 ≤ ((L.flatMap sgC).take (i * 3)).length
        rw [List.length_take, flat3_len]; omega
      · show ((L.flatMap sgC).take (i * 3)).take (i * 3) = _
        rw [List.take_take, Nat.min_self, flat3_take]
  · have hn : L.length ≠ 0 := fun e => h1 (List.eq_nil_of_length_eq_zero e)
    refine ⟨_, fun j σ => hi_sl hi hn σ j, rfl, fun σ hx => ?_⟩
    have ho : σ.obj b = .cells (L.flatMap sgC) := by rw [hx.old b h3]; exact h2
    refine ⟨.sl b 0 _ _ _ _ (by unfold limit; omega) ho (Nat.lt_of_lt_of_le h3 hx.n) (by omega), ?_, ?_⟩
    · show i * 3 ≤ ((σ.obj b).row.drop 0).length
      rw [ho]; show i * 3 ≤ (L.flatMap sgC).length; rw [flat3_len]; omega
    · show ((σ.obj b).row.drop 0).take (i * 3) = _
      rw [ho]; exact flat3_take L i
theorem RowG.lo (h : RowG s v L) (hl : L.length ≤ 1000) {i : Nat} (hi : i ≤ L.length) : ∃ x, (∀ (j : IntKind) (σ : St), vsllo 3 v (.int j (i : Int)) σ = .ok x σ) ∧ lenOf x = L.length - i ∧ ∀ σ, Ext s σ → IsSl σ x ∧ (L.length - i) * 3 ≤ (rowOf σ x).length ∧ (rowOf σ x).take ((L.length - i) * 3) = (L.drop i).flatMap sgC := by
  have hdl : ((L.drop i).flatMap sgC).length = (L.length - i) * 3 := by rw [flat3_len, List.length_drop]
  rcases h.h with rfl | ⟨b, rfl, h1, h2, h3⟩
  · unfold avG
    split
    · rename_i e
      subst e
      have e0 : i = 0 := by simpa using hi
      subst e0
      exact ⟨.nils, fun j σ => lo_nils σ j, rfl, fun σ hx => ⟨.nils, by simp, by simp⟩⟩
    · have e2 : ((L.flatMap sgC).take (L.length * 3)).drop (i * 3) = (L.drop i).flatMap sgC := by rw [List.take_of_length_le (by rw [flat3_len]; omega), flat3_drop]
      refine ⟨_, fun j σ => lo_ts hi σ j, rfl, fun σ hx => ⟨.ts _ _ _ _ (by unfold limit; omega) (fun c hc => sgC_ov _ L c (List.mem_of_mem_take (List.mem_of_mem_drop hc))), ?_, ?_⟩⟩
      · show _ ≤ (((L.flatMap sgC).take (L.length * 3)).drop (i * 3)).length
        rw [e2, hdl]; omega
      · show (((L.flatMap sgC).take (L.length * 3)).drop (i * 3)).take ((L.length - i) * 3) = _
        rw [e2, List.take_of_length_le (by rw [hdl]; omega)]
  · have hn : L.length ≠ 0 := fun e => h1 (List.eq_nil_of_length_eq_zero e)
    by_cases hlt : i < L.length
    · refine ⟨_, fun j σ => lo_sl hlt σ j, rfl, fun σ hx => ?_⟩
      have ho : σ.obj b = .cells (L.flatMap sgC) := by rw [hx.old b h3]; exact h2
      refine ⟨.sl b _ _ _ _ _ (by unfold limit; omega) ho (Nat.lt_of_lt_of_le h3 hx.n) (by rw [flat3_len]; omega), ?_, ?_⟩
      · show _ ≤ ((σ.obj b).row.drop (i * 3)).length
        rw [ho]; show _ ≤ ((L.flatMap sgC).drop (i * 3)).length; rw [flat3_drop, hdl]; omega
      · show ((σ.obj b).row.drop (i * 3)).take ((L.length - i) * 3) = _
        rw [ho]
        show ((L.flatMap sgC).drop (i * 3)).take _ = _
        rw [flat3_drop, List.take_of_length_le (by rw [hdl]; omega)]
    · have e : i = L.length := by omega
      subst e
      exact ⟨_, fun j σ => lo_slN σ j, by show 0 = _; omega, fun σ hx => ⟨.ts _ _ _ _ (by unfold limit; omega) (by simp), by simp, by simp⟩⟩
end
theorem bytesLess_eq (a b : List UInt8) : Op.bytesLess a b = decide (a < b) := by
  induction a generalizing b with
  | nil => cases b with
    | nil => simp [Op.bytesLess]
    | cons y b => simp [Op.bytesLess]
  | cons x a ih => cases b with
    | nil => simp [Op.bytesLess]
    | cons y b =>
      rw [Bool.eq_iff_iff, decide_eq_true_iff, List.cons_lt_cons_iff]
      simp only [Op.bytesLess, Bool.or_eq_true, Bool.and_eq_true, decide_eq_true_eq, beq_iff_eq, ih]
attribute [go_sem] p_sllo
end Go.Vm
namespace Go.Vm
set_option linter.unusedVariables false
theorem ov_ptr {n : Nat} {b : Id} (h : b.val < n) (o : Nat) : Ov n (.ptr b o) := fun _ => .ptrO b o h
theorem ov_undef (n : Nat) : Ov n undef := ov_tup (by simp)
theorem elp_ov {s : St} {v : AV} (h : IsSl s v) (k : Nat) : Ov s.n.val (elp v k) := by
  cases h with
  | nils => exact fun _ => .nilp
  | ts cs len cap ex hm ho => exact fun t => .tp _ _ rfl (ov_row (fun c hc => ho c (List.mem_of_mem_drop hc)) t)
  | sl b o len cap ex cs hm h hb hoo => exact ov_ptr hb _
end Go.Vm
namespace Go.Proofs.YtjnejkganejdbaaGreat
open Go Go.Vm
set_option linter.unusedVariables false
set_option linter.unusedSimpArgs false
abbrev NE : Nat → Fr AV → St → Prop := fun _ _ _ => False
abbrev NR : Fr AV → St → Prop := fun _ _ => False
theorem sigs_pre (k0 : Nat) {s : St} {cs : List AV} {t : T} {v : AV} {L : List Sg} {b : Bool} (hr : Room s) (hn : s.n.val + 60 * t.size ≤ 30000) (hsz : t.size ≤ 400) (h : RT6 s cs t) (hop : t.op = 4) (row : RowG s v L) :
    W (CS k0) S.r1 (fun f q => W (CS k0) S.r2 (fun f q => W (CS k0) S.r3 (fun f q => (vv 17).get f = .bool true ∧ W (CS k0) S.r4 (fun f q => W (CS k0) S.r5 (fun f σ => σ = Sx s [.cells cs, .cells (sgC (sgT t))] ∧ OvF (s.n.val + 2) f ∧ (vv 3).get f = .ptr (nm s 0) 0 ∧ (vv 8).get f = v ∧ (vv 9).get f = .bool b ∧ (vv 10).get f = .ptr (nm s 1) 0 ∧ (vv 11).get f = .int .i64 0) NE NR f q) NE NR f q) NE NR f q) NE NR f q) NE NR (frame0 [.agg cs, v, .bool b]) (Sx s []) := by
  obtain ⟨ng, mg, kv, rfl, hz, hk⟩ := h.ex
  have hkl := T.length_le t.kids
  have hks := T.size_kids t
  have v0 := nm_val hr (k := 0) (by omega)
  have v1 := nm_val hr (k := 1) (by omega)
  have x1 := ext_Sx (s := s) (l := [.cells [.int .i64 t.op, ng, mg, .str t.name, .int .i64 t.sort, kv]]) hr (by simp)
  have f1 := SigOfS_ok k0 (Sx s [.cells [.int .i64 t.op, ng, mg, .str t.name, .int .i64 t.sort, kv]]) _ t (hr.Sx (by simp; omega) (by simp)) (by rw [Sx_n hr (by simp)]; simp; omega) (by omega) (h.x x1)
  have oa : Ov (s.n.val + 2) (.agg [.int .i64 t.op, ng, mg, .str t.name, .int .i64 t.sort, kv]) := (ov_agg (by
    intro c hc
    simp only [List.mem_cons, List.not_mem_nil, or_false] at hc
    rcases hc with rfl | rfl | rfl | rfl | rfl | rfl
    · exact ov_int _ _ _
    · exact hz.ov.1
    · exact hz.ov.2
    · exact ov_str _ _
    · exact ov_int _ _ _
    · exact hk.sl.ov)).mono (by omega)
  have og : Ov (s.n.val + 2) (.agg [.str t.name, avI (t.kids.map T.sort), .int .i64 t.sort]) := ov_agg (by
    intro c hc
    simp only [List.mem_cons, List.not_mem_nil, or_false] at hc
    rcases hc with rfl | rfl | rfl
    · exact ov_str _ _
    · exact avI_ov _ _
    · exact ov_int _ _ _)
  have ov : Ov (s.n.val + 2) v := row.ov.mono (by omega)
  have o0 : Ov (s.n.val + 2) (.ptr (nm s 0) 0) := ov_ptr (by omega) _
  have o1 : Ov (s.n.val + 2) (.ptr (nm s 1) 0) := ov_ptr (by omega) _
  have hai := avI_one (t.kids.map T.sort)
  have hz1 := hz.one
  rw [hop] at f1 oa
  unfold S.r1 S.r2 S.r3 S.r4 S.r5
  simp only [go_sem, ↓reduceIte, Nat.reduceMod, Nat.reduceEqDiff, Nat.reduceAdd, Nat.reduceMul, Nat.reduceSub, Nat.reduceLeDiff, Nat.reduceLT, Int.reduceEq, Int.reduceLT, Int.reduceLE, Int.reduceAdd, Int.reduceSub, Int.reduceNeg, reduceCtorEq, Nat.reduceShiftRight, Nat.reduceAnd, Nat.reduceBNe, hr, hz1, hk.one, hop, f1, hai]
  refine ⟨rfl, ?_⟩
  rw [frame0_3]
  repeat' (first | exact OvF.rep _ | apply OvF.set)
  all_goals first | exact oa | exact og | exact ov | exact o0 | exact o1 | exact ov_bool _ _ | exact ov_int _ _ _ | exact ov_nils _ | exact ov_str _ _
theorem sigs_loop (k0 : Nat) {σ0 : St} {v : AV} {L : List Sg} {g : Sg} {b : Bool} {b3 b10 : Vm.Id} {f : Fr AV} (hr : Room σ0) (hn : σ0.n.val ≤ 40000) (hl : L.length ≤ 400) (row : RowG σ0 v L) (hb : b10.val < σ0.n.val) (ob : σ0.obj b10 = .cells (sgC g))
    (hov : OvF σ0.n.val f) (g3 : (vv 3).get f = .ptr b3 0) (g8 : (vv 8).get f = v) (g9 : (vv 9).get f = .bool b) (g10 : (vv 10).get f = .ptr b10 0) (g11 : (vv 11).get f = .int .i64 0) :
    W (CS k0) S.L (fun f1 s1 => Old σ0 s1 ∧ OvF σ0.n.val f1 ∧ (∃ i : Nat, i ≤ L.length ∧ (∀ j (h : j < L.length), j < i → L[j].name < g.name) ∧ (∀ h : i < L.length, ¬ L[i].name < g.name) ∧ (vv 3).get f1 = .ptr b3 0 ∧ (vv 8).get f1 = v ∧ (vv 9).get f1 = .bool b ∧ (vv 10).get f1 = .ptr b10 0 ∧ (vv 11).get f1 = .int .i64 (i : Int))) NE NR f (Sx σ0 []) := by
  have sl0 := row.slr (by omega)
  unfold sgC at ob
  unfold S.L
  simp only [go_sem, ↓reduceIte, Nat.reduceMod, Nat.reduceEqDiff, Nat.reduceAdd, Nat.reduceMul, Nat.reduceSub, Nat.reduceLeDiff, Nat.reduceLT, Int.reduceEq, Int.reduceLT, Int.reduceLE, Int.reduceAdd, Int.reduceSub, Int.reduceNeg, reduceCtorEq, Nat.reduceShiftRight, Nat.reduceAnd, Nat.reduceBNe]
  refine W_inv (fun k f τ => ∃ (i : Nat) (σ : St), Sx σ [] = τ ∧ Room σ ∧ Ext σ0 σ ∧ σ.n.val ≤ σ0.n.val + 14 * i ∧ k = L.length - i ∧ i ≤ L.length ∧ OvF σ0.n.val f ∧ (∀ j (h : j < L.length), j < i → L[j].name < g.name) ∧
    (vv 3).get f = .ptr b3 0 ∧ (vv 8).get f = v ∧ (vv 9).get f = .bool b ∧ (vv 10).get f = .ptr b10 0 ∧ (vv 11).get f = .int .i64 (i : Int)) ?_ ⟨0, σ0, Sx_nil _, hr, Ext.refl _, by omega, rfl, by omega, hov, by omega, g3, g8, g9, g10, g11⟩
  rintro k f τ ⟨i, σ, rfl, hr1, hx, hn1, rfl, hi, hov, hlt, g3, g8, g9, g10, g11⟩
  have w10 : b10.val < σ.n.val := by have := hx.n; omega
  have ob1 : σ.obj b10 = .cells [.str g.name, avI g.args, .int .i64 g.ret] := by rw [hx.old b10 hb]; exact ob
  have x2 : Ext σ0 (Sx σ [.dead, .dead, .dead, .dead, .dead, .dead, .dead, .dead, .dead, .dead, .dead, .dead, .dead, .dead]) := hx.trans (ext_Sx hr1 (by simp))
  have r2 := hr1.Sx (l := [.dead, .dead, .dead, .dead, .dead, .dead, .dead, .dead, .dead, .dead, .dead, .dead, .dead, .dead]) (by simp; omega) (by simp)
  have n2 := Sx_n (s := σ) (l := [.dead, .dead, .dead, .dead, .dead, .dead, .dead, .dead, .dead, .dead, .dead, .dead, .dead, .dead]) hr1 (by simp)
  simp only [List.length_cons, List.length_nil] at n2
  have ovv : Ov σ0.n.val v := row.ov
  have ov10 : Ov σ0.n.val (.ptr b10 0) := ov_ptr hb _
  have ove : Ov σ0.n.val (elp v (i * 3)) := elp_ov sl0.sl _
  simp only [go_sem, ↓reduceIte, Nat.reduceMod, Nat.reduceEqDiff, Nat.reduceAdd, Nat.reduceMul, Nat.reduceSub, Nat.reduceLeDiff, Nat.reduceLT, Int.reduceEq, Int.reduceLT, Int.reduceLE, Int.reduceAdd, Int.reduceSub, Int.reduceNeg, reduceCtorEq, Nat.reduceShiftRight, Nat.reduceAnd, Nat.reduceBNe]
  refine W_drawn hr1 _ (by simp) ?_
  by_cases c1 : i < L.length
  · by_cases c2 : L[i].name < g.name
    · simp only [go_sem, ↓reduceIte, Nat.reduceMod, Nat.reduceEqDiff, Nat.reduceAdd, Nat.reduceMul, Nat.reduceSub, Nat.reduceLeDiff, Nat.reduceLT, Int.reduceEq, Int.reduceLT, Int.reduceLE, Int.reduceAdd, Int.reduceSub, Int.reduceNeg, reduceCtorEq, Nat.reduceShiftRight, Nat.reduceAnd, Nat.reduceBNe, g8, g10, g11, w10, ob1, hr1, sl0.vlen, Int.ofNat_lt, c1, sl0.ia c1, sl0.sgFld c1, sl0.sgName c1 x2, bytesLess_eq, c2]
      refine ⟨L.length - (i + 1), by omega, i + 1, _, Sx_nil _, r2, x2, by omega, rfl, by omega, ?_, ?_, g3, g9, ?_⟩
      · repeat' (first | exact hov | apply OvF.set)
        all_goals first | exact ovv | exact ov10 | exact ove | exact ov_bool _ _ | exact ov_int _ _ _ | exact ov_str _ _ | exact ov_undef _
      · intro j h hj
        by_cases e : j = i
        · subst e; exact c2
        · exact hlt j h (by omega)
      · rw [wrap_i64 (by omega) (by omega)]; congr 1
    · simp only [go_sem, ↓reduceIte, Nat.reduceMod, Nat.reduceEqDiff, Nat.reduceAdd, Nat.reduceMul, Nat.reduceSub, Nat.reduceLeDiff, Nat.reduceLT, Int.reduceEq, Int.reduceLT, Int.reduceLE, Int.reduceAdd, Int.reduceSub, Int.reduceNeg, reduceCtorEq, Nat.reduceShiftRight, Nat.reduceAnd, Nat.reduceBNe, g8, g10, g11, w10, ob1, hr1, sl0.vlen, Int.ofNat_lt, c1, sl0.ia c1, sl0.sgFld c1, sl0.sgName c1 x2, bytesLess_eq, c2]
      refine ⟨x2.old, ?_, i, hi, hlt, fun h => c2, g3, g9, rfl⟩
      repeat' (first | exact hov | apply OvF.set)
      all_goals first | exact ovv | exact ov10 | exact ove | exact ov_bool _ _ | exact ov_int _ _ _ | exact ov_str _ _ | exact ov_undef _
  · simp only [go_sem, ↓reduceIte, Nat.reduceMod, Nat.reduceEqDiff, Nat.reduceAdd, Nat.reduceMul, Nat.reduceSub, Nat.reduceLeDiff, Nat.reduceLT, Int.reduceEq, Int.reduceLT, Int.reduceLE, Int.reduceAdd, Int.reduceSub, Int.reduceNeg, reduceCtorEq, Nat.reduceShiftRight, Nat.reduceAnd, Nat.reduceBNe, g8, g10, g11, w10, ob1, hr1, sl0.vlen, Int.ofNat_lt, c1]
    refine ⟨x2.old, ?_, i, hi, hlt, fun h => absurd h c1, g3, g9, rfl⟩
    repeat' (first | exact hov | apply OvF.set)
    all_goals first | exact ovv | exact ov10 | exact ove | exact ov_bool _ _ | exact ov_int _ _ _ | exact ov_str _ _ | exact ov_undef _
end Go.Proofs.YtjnejkganejdbaaGreat
namespace Go.Proofs.YtjnejkganejdbaaGreat
open Go Go.Vm
set_option linter.unusedVariables false
set_option linter.unusedSimpArgs false
theorem mk_obj (s : St) (n b : Vm.Id) : (St.mk s.h n).obj b = s.obj b := nd rfl
/-- The row behind a name is noted: as it was, or a new one. -/
structure Noted (σ : St) (v : AV) (L : List Sg) (g : Sg) (b : Bool) (σ' : St) (v0 : AV) (M0 : List Sg) : Prop where
  row : RowG σ' v0 M0
  sorted : sortG M0 = M0
  uniq : Uniq M0
  perm : M0.Perm (addG L g).1
  how : (v0 = v ∧ M0 = L ∧ (addG L g).1 = L) ∨ ∃ bb : Vm.Id, v0 = .sl bb 0 M0.length M0.length 3 ∧ M0 ≠ [] ∧ σ'.obj bb = .cells (M0.flatMap sgC) ∧ σ.n.val ≤ bb.val ∧ bb.val < σ'.n.val ∧ (addG L g).1 = L ++ [g]
theorem sigs_ins (k0 : Nat) {σ : St} {v : AV} {L : List Sg} {g : Sg} {b : Bool} {b3 b10 : Vm.Id} {f : Fr AV} {i : Nat} (hr : Room σ) (hn : σ.n.val ≤ 40000) (hl : L.length ≤ 400) (row : RowG σ v L) (hs : sortG L = L) (hu : Uniq L) (hal : ∀ o ∈ L, o.args.length ≤ 400) (hga : g.args.length ≤ 400) (hb : b10.val < σ.n.val) (ob : σ.obj b10 = .cells (sgC g))
    (hi : i ≤ L.length) (hlt : ∀ j (h : j < L.length), j < i → L[j].name < g.name) (hge : ∀ h : i < L.length, ¬ L[i].name < g.name) (g3 : (vv 3).get f = .ptr b3 0) (g8 : (vv 8).get f = v) (g9 : (vv 9).get f = .bool b) (g10 : (vv 10).get f = .ptr b10 0) (g11 : (vv 11).get f = .int .i64 (i : Int)) :
    W (CS k0) S.Y (fun f1 s1 => Room s1 ∧ Ext σ s1 ∧ s1.n.val ≤ σ.n.val + 30 ∧ (vv 3).get f1 = .ptr b3 0 ∧ (vv 9).get f1 = .bool (b && (addG L g).2) ∧ ∃ M0, Noted σ v L g b s1 ((vv 8).get f1) M0) NE NR f (Sx σ []) := by
  have sl0 := row.slr (by omega)
  have ob1 : σ.obj b10 = .cells [.str g.name, avI g.args, .int .i64 g.ret] := ob
  have ga := avI_one g.args
  have x2 : Ext σ (Sx σ [.dead, .dead, .dead, .dead, .dead, .dead, .dead, .dead, .dead, .dead, .dead, .dead, .dead, .dead]) := ext_Sx hr (by simp)
  unfold S.Y
  simp only [go_sem, ↓reduceIte, Nat.reduceMod, Nat.reduceEqDiff, Nat.reduceAdd, Nat.reduceMul, Nat.reduceSub, Nat.reduceLeDiff, Nat.reduceLT, Int.reduceEq, Int.reduceLT, Int.reduceLE, Int.reduceAdd, Int.reduceSub, Int.reduceNeg, reduceCtorEq, Nat.reduceShiftRight, Nat.reduceAnd, Nat.reduceBNe]
  refine W_drawn hr _ (by simp) ?_
  by_cases cf : ∃ h : i < L.length, L[i].name = g.name
  · obtain ⟨c1, c2⟩ := cf
    have ha : addG L g = (L, decide (L[i] = g)) := addG_found hu (List.getElem_mem c1) c2.symm
    rw [ha]
    have hx3 : Ext σ (Sx σ [.dead, .dead, .dead, .dead, .dead, .dead, .dead, .dead, .dead, .dead, .dead, .dead, .dead, .dead, .dead, .dead, .dead, .dead, .dead, .dead, .dead, .dead, .dead, .dead]) := ext_Sx hr (by simp)
    have hr3 := hr.Sx (l := [.dead, .dead, .dead, .dead, .dead, .dead, .dead, .dead, .dead, .dead, .dead, .dead, .dead, .dead, .dead, .dead, .dead, .dead, .dead, .dead, .dead, .dead, .dead, .dead]) (by simp; omega) (by simp)
    have n3 := Sx_n (s := σ) (l := [.dead, .dead, .dead, .dead, .dead, .dead, .dead, .dead, .dead, .dead, .dead, .dead, .dead, .dead, .dead, .dead, .dead, .dead, .dead, .dead, .dead, .dead, .dead, .dead]) hr (by simp)
    simp only [List.length_cons, List.length_nil] at n3
    have f1 := refSameS_ok k0 (Sx σ [.dead, .dead, .dead, .dead, .dead, .dead, .dead, .dead, .dead, .dead, .dead, .dead, .dead, .dead, .dead, .dead, .dead, .dead, .dead, .dead, .dead, .dead, .dead, .dead]) L[i] g (avI L[i].args) (avI g.args) hr3 (by have := hal _ (List.getElem_mem c1); omega) (avI_ints _ _ (by have := hal _ (List.getElem_mem c1); omega)) (avI_ints _ _ (by omega))
    have hld := sl0.sgLoad c1 hx3
    unfold sgC at hld
    rw [c2] at f1 hld
    have hw : Noted σ v L g b (Sx σ [.dead, .dead, .dead, .dead, .dead, .dead, .dead, .dead, .dead, .dead, .dead, .dead, .dead, .dead, .dead, .dead, .dead, .dead, .dead, .dead, .dead, .dead, .dead, .dead]) v L := ⟨row.ext hx3, hs, hu, by rw [ha], .inl ⟨rfl, rfl, by rw [ha]⟩⟩
    simp only [go_sem, ↓reduceIte, Nat.reduceMod, Nat.reduceEqDiff, Nat.reduceAdd, Nat.reduceMul, Nat.reduceSub, Nat.reduceLeDiff, Nat.reduceLT, Int.reduceEq, Int.reduceLT, Int.reduceLE, Int.reduceAdd, Int.reduceSub, Int.reduceNeg, reduceCtorEq, Nat.reduceShiftRight, Nat.reduceAnd, Nat.reduceBNe, g8, g10, g11, hb, ob1, hr, sl0.vlen, Int.ofNat_lt, c1, sl0.ia c1, sl0.sgFld c1, sl0.sgName c1 x2, c2]
    refine W_drawn hr _ (by simp) ?_
    cases b
    · simp only [go_sem, ↓reduceIte, Nat.reduceMod, Nat.reduceEqDiff, Nat.reduceAdd, Nat.reduceMul, Nat.reduceSub, Nat.reduceLeDiff, Nat.reduceLT, Int.reduceEq, Int.reduceLT, Int.reduceLE, Int.reduceAdd, Int.reduceSub, Int.reduceNeg, reduceCtorEq, Nat.reduceShiftRight, Nat.reduceAnd, Nat.reduceBNe, g8, g9, g10, g11, hb, ob1, hr]
      exact ⟨hr3, by omega, g3, by simp, L, hw⟩
    · simp only [go_sem, ↓reduceIte, Nat.reduceMod, Nat.reduceEqDiff, Nat.reduceAdd, Nat.reduceMul, Nat.reduceSub, Nat.reduceLeDiff, Nat.reduceLT, Int.reduceEq, Int.reduceLT, Int.reduceLE, Int.reduceAdd, Int.reduceSub, Int.reduceNeg, reduceCtorEq, Nat.reduceShiftRight, Nat.reduceAnd, Nat.reduceBNe, g8, g9, g10, g11, hb, ob1, hr, sl0.ia c1, hld, f1]
      exact ⟨hr3, by omega, g3, by simp, L, hw⟩
  · have hge2 : ∀ h : i < L.length, g.name < L[i].name := by
      intro h
      rcases List.le_iff_lt_or_eq.mp (List.not_lt.mp (hge h)) with h1 | h1
      · exact h1
      · exact absurd ⟨h, h1.symm⟩ cf
    obtain ⟨ha, hsort⟩ := ins_new hs hu hi hlt hge2
    rw [ha]
    have hu2 : Uniq (L.take i ++ g :: L.drop i) := by
      rw [← hsort]
      have h1 : Uniq (L ++ [g]) := by
        have e : (L ++ [g]) = (addG L g).1 := by rw [ha]
        rw [e]; exact addG_names hu
      exact uniq_perm (sortG_perm _).symm h1
    have hsf : sortG (L.take i ++ g :: L.drop i) = L.take i ++ g :: L.drop i := by
      rw [← hsort]
      refine sort_fix ?_
      have e : (L ++ [g]) = (addG L g).1 := by rw [ha]
      rw [e]; exact addG_names hu
    have hp : (L.take i ++ g :: L.drop i).Perm (addG L g).1 := by rw [ha, ← hsort]; exact sortG_perm _
    obtain ⟨x, xe, xl, xh⟩ := row.hi (by omega) hi
    obtain ⟨y, ye, yl, yh⟩ := row.lo (by omega) hi
    obtain ⟨A, hAd⟩ : ∃ A, A = (L.take i).flatMap sgC := ⟨_, rfl⟩
    obtain ⟨B, hBd⟩ : ∃ B, B = (L.drop i).flatMap sgC := ⟨_, rfl⟩
    simp only [← hAd] at xh
    simp only [← hBd] at yh
    by_cases c1 : i < L.length
    · have c2 : ¬ L[i].name = g.name := fun e => cf ⟨c1, e⟩
      simp only [go_sem, ↓reduceIte, Nat.reduceMod, Nat.reduceEqDiff, Nat.reduceAdd, Nat.reduceMul, Nat.reduceSub, Nat.reduceLeDiff, Nat.reduceLT, Int.reduceEq, Int.reduceLT, Int.reduceLE, Int.reduceAdd, Int.reduceSub, Int.reduceNeg, reduceCtorEq, Nat.reduceShiftRight, Nat.reduceAnd, Nat.reduceBNe, g8, g10, g11, hb, ob1, hr, sl0.vlen, Int.ofNat_lt, c1, sl0.ia c1, sl0.sgFld c1, sl0.sgName c1 x2, c2]
      refine W_drawn hr _ (by simp) ?_
      by_cases c0 : i = 0
      · subst c0
        have hA : A = [] := by rw [hAd]; rfl
        have hap1 : vapp 3 48 .nils x (Sx σ [.dead, .dead, .dead, .dead, .dead, .dead, .dead, .dead, .dead, .dead, .dead, .dead, .dead, .dead, .dead, .dead, .dead, .dead, .dead, .dead, .dead, .dead, .dead, .dead, .dead, .dead]) = .ok .nils (Sx σ [.dead, .dead, .dead, .dead, .dead, .dead, .dead, .dead, .dead, .dead, .dead, .dead, .dead, .dead, .dead, .dead, .dead, .dead, .dead, .dead, .dead, .dead, .dead, .dead, .dead, .dead]) := by
          obtain ⟨q1, q2, q3⟩ := xh _ (ext_Sx (s := σ) (l := [.dead, .dead, .dead, .dead, .dead, .dead, .dead, .dead, .dead, .dead, .dead, .dead, .dead, .dead, .dead, .dead, .dead, .dead, .dead, .dead, .dead, .dead, .dead, .dead, .dead, .dead]) hr (by simp))
          exact vapp_nils0 q1 (by rw [xl]; exact q2) xl
        have hap2 : vapp 3 48 .nils (.sl (nm σ 19) 0 1 1 0) (Sx σ [.dead, .dead, .dead, .dead, .dead, .dead, .dead, .dead, .dead, .dead, .dead, .dead, .dead, .dead, .dead, .dead, .dead, .dead, .dead, .cells [.str g.name, avI g.args, .int .i64 g.ret], .dead, .dead, .dead, .dead, .dead, .dead]) = .ok (.sl (nm σ 26) 0 1 1 3) (Sx σ [.dead, .dead, .dead, .dead, .dead, .dead, .dead, .dead, .dead, .dead, .dead, .dead, .dead, .dead, .dead, .dead, .dead, .dead, .dead, .cells [.str g.name, avI g.args, .int .i64 g.ret], .dead, .dead, .dead, .dead, .dead, .dead, .cells [.str g.name, avI g.args, .int .i64 g.ret]]) := vapp_row0 hr (by simp) rfl (i := 19) rfl (by unfold limit; omega)
        have hap3 : vapp 3 48 (.sl (nm σ 26) 0 1 1 3) y (Sx σ [.dead, .dead, .dead, .dead, .dead, .dead, .dead, .dead, .dead, .dead, .dead, .dead, .dead, .dead, .dead, .dead, .dead, .dead, .dead, .cells [.str g.name, avI g.args, .int .i64 g.ret], .dead, .dead, .dead, .dead, .dead, .dead, .cells [.str g.name, avI g.args, .int .i64 g.ret]]) = .ok (.sl (nm σ 27) 0 (1 + (L.length - 0)) (1 + (L.length - 0)) 3) (Sx σ [.dead, .dead, .dead, .dead, .dead, .dead, .dead, .dead, .dead, .dead, .dead, .dead, .dead, .dead, .dead, .dead, .dead, .dead, .dead, .cells [.str g.name, avI g.args, .int .i64 g.ret], .dead, .dead, .dead, .dead, .dead, .dead, .dead, .cells (.str g.name :: avI g.args :: .int .i64 g.ret :: B)]) := by
          obtain ⟨q1, q2, q3⟩ := yh _ (ext_Sx (s := σ) (l := [.dead, .dead, .dead, .dead, .dead, .dead, .dead, .dead, .dead, .dead, .dead, .dead, .dead, .dead, .dead, .dead, .dead, .dead, .dead, .cells [.str g.name, avI g.args, .int .i64 g.ret], .dead, .dead, .dead, .dead, .dead, .dead, .cells [.str g.name, avI g.args, .int .i64 g.ret]]) hr (by simp))
          rw [vapp_grow (i := 26) hr (by simp) rfl (by simp []) (by omega) q1 (by rw [yl]; exact q2) (by rw [yl]; unfold limit; omega) (by rw [yl]; unfold limit; omega) (by rw [yl]; omega), yl, q3]; rfl
        simp only [go_sem, ↓reduceIte, Nat.reduceMod, Nat.reduceEqDiff, Nat.reduceAdd, Nat.reduceMul, Nat.reduceSub, Nat.reduceLeDiff, Nat.reduceLT, Int.reduceEq, Int.reduceLT, Int.reduceLE, Int.reduceAdd, Int.reduceSub, Int.reduceNeg, reduceCtorEq, Nat.reduceShiftRight, Nat.reduceAnd, Nat.reduceBNe, g8, g9, g10, g11, hb, ob1, hr, xe, ye, ga, hap1, hap2, hap3, mk_obj]
        have hrf := hr.Sx (l := [.dead, .dead, .dead, .dead, .dead, .dead, .dead, .dead, .dead, .dead, .dead, .dead, .dead, .dead, .dead, .dead, .dead, .dead, .dead, .cells [.str g.name, avI g.args, .int .i64 g.ret], .dead, .dead, .dead, .dead, .dead, .dead, .dead, .cells (.str g.name :: avI g.args :: .int .i64 g.ret :: B)]) (by simp; omega) (by simp)
        have hnf := Sx_n (s := σ) (l := [.dead, .dead, .dead, .dead, .dead, .dead, .dead, .dead, .dead, .dead, .dead, .dead, .dead, .dead, .dead, .dead, .dead, .dead, .dead, .cells [.str g.name, avI g.args, .int .i64 g.ret], .dead, .dead, .dead, .dead, .dead, .dead, .dead, .cells (.str g.name :: avI g.args :: .int .i64 g.ret :: B)]) hr (by simp)
        simp only [List.length_cons, List.length_nil] at hnf
        have hob := Sx_obj? (s := σ) (l := [.dead, .dead, .dead, .dead, .dead, .dead, .dead, .dead, .dead, .dead, .dead, .dead, .dead, .dead, .dead, .dead, .dead, .dead, .dead, .cells [.str g.name, avI g.args, .int .i64 g.ret], .dead, .dead, .dead, .dead, .dead, .dead, .dead, .cells (.str g.name :: avI g.args :: .int .i64 g.ret :: B)]) hr (by simp) (i := 27) rfl
        have hnm := nm_val hr (k := 27) (by omega)
        have hlen : (L.take 0 ++ g :: L.drop 0).length = (1 + (L.length - 0)) := by rw [List.length_append, List.length_cons, List.length_take, List.length_drop]; omega
        have hcel : (L.take 0 ++ g :: L.drop 0).flatMap sgC = .str g.name :: avI g.args :: .int .i64 g.ret :: B := by
          rw [List.flatMap_append, List.flatMap_cons]
          rw [← hBd]; simp [sgC]
        refine ⟨hrf, by omega, g3, by simp, L.take 0 ++ g :: L.drop 0, ⟨⟨.inr ⟨nm σ 27, ?_, by simp, ?_, by omega⟩⟩, hsf, hu2, ?_, .inr ⟨nm σ 27, ?_, by simp, ?_, by omega, by omega, by rw [ha]⟩⟩⟩
        · rw [hlen]
        · rw [hcel]; exact hob
        · exact hp
        · rw [hlen]
        · rw [hcel]; exact hob
      · have hA : A.length = i * 3 := by rw [hAd, flat3_len, List.length_take]; omega
        have hap1 : vapp 3 48 .nils x (Sx σ [.dead, .dead, .dead, .dead, .dead, .dead, .dead, .dead, .dead, .dead, .dead, .dead, .dead, .dead, .dead, .dead, .dead, .dead, .dead, .dead, .dead, .dead, .dead, .dead, .dead, .dead]) = .ok (.sl (nm σ 26) 0 i i 3) (Sx σ [.dead, .dead, .dead, .dead, .dead, .dead, .dead, .dead, .dead, .dead, .dead, .dead, .dead, .dead, .dead, .dead, .dead, .dead, .dead, .dead, .dead, .dead, .dead, .dead, .dead, .dead, .cells A]) := by
          obtain ⟨q1, q2, q3⟩ := xh _ (ext_Sx (s := σ) (l := [.dead, .dead, .dead, .dead, .dead, .dead, .dead, .dead, .dead, .dead, .dead, .dead, .dead, .dead, .dead, .dead, .dead, .dead, .dead, .dead, .dead, .dead, .dead, .dead, .dead, .dead]) hr (by simp))
          rw [vapp_nils hr (by simp) q1 (by rw [xl]; exact q2) (by rw [xl]; unfold limit; omega) (by rw [xl]; exact c0), xl, q3]; rfl
        have hap2 : vapp 3 48 (.sl (nm σ 26) 0 i i 3) (.sl (nm σ 19) 0 1 1 0) (Sx σ [.dead, .dead, .dead, .dead, .dead, .dead, .dead, .dead, .dead, .dead, .dead, .dead, .dead, .dead, .dead, .dead, .dead, .dead, .dead, .cells [.str g.name, avI g.args, .int .i64 g.ret], .dead, .dead, .dead, .dead, .dead, .dead, .cells A]) = .ok (.sl (nm σ 27) 0 (i + 1) (i + 1) 3) (Sx σ [.dead, .dead, .dead, .dead, .dead, .dead, .dead, .dead, .dead, .dead, .dead, .dead, .dead, .dead, .dead, .dead, .dead, .dead, .dead, .cells [.str g.name, avI g.args, .int .i64 g.ret], .dead, .dead, .dead, .dead, .dead, .dead, .dead, .cells (A ++ [.str g.name, avI g.args, .int .i64 g.ret])]) := by
          obtain ⟨q1, q2, q3⟩ := isl_lit (s := σ) (L := [.dead, .dead, .dead, .dead, .dead, .dead, .dead, .dead, .dead, .dead, .dead, .dead, .dead, .dead, .dead, .dead, .dead, .dead, .dead, .cells [.str g.name, avI g.args, .int .i64 g.ret], .dead, .dead, .dead, .dead, .dead, .dead, .cells A]) (i := 19) (n := 1) hr (by simp) rfl (by unfold limit; omega) 1 0
          rw [vapp_grow (i := 26) hr (by simp) rfl hA (by omega) q1 (by rw [q2, q3]; simp) (by rw [q3]; unfold limit; omega) (by rw [q3]; unfold limit; omega) (by rw [q3]; omega), q2, q3]; rfl
        have hap3 : vapp 3 48 (.sl (nm σ 27) 0 (i + 1) (i + 1) 3) y (Sx σ [.dead, .dead, .dead, .dead, .dead, .dead, .dead, .dead, .dead, .dead, .dead, .dead, .dead, .dead, .dead, .dead, .dead, .dead, .dead, .cells [.str g.name, avI g.args, .int .i64 g.ret], .dead, .dead, .dead, .dead, .dead, .dead, .dead, .cells (A ++ [.str g.name, avI g.args, .int .i64 g.ret])]) = .ok (.sl (nm σ 28) 0 ((i + 1) + (L.length - i)) ((i + 1) + (L.length - i)) 3) (Sx σ [.dead, .dead, .dead, .dead, .dead, .dead, .dead, .dead, .dead, .dead, .dead, .dead, .dead, .dead, .dead, .dead, .dead, .dead, .dead, .cells [.str g.name, avI g.args, .int .i64 g.ret], .dead, .dead, .dead, .dead, .dead, .dead, .dead, .dead, .cells (A ++ [.str g.name, avI g.args, .int .i64 g.ret] ++ B)]) := by
          obtain ⟨q1, q2, q3⟩ := yh _ (ext_Sx (s := σ) (l := [.dead, .dead, .dead, .dead, .dead, .dead, .dead, .dead, .dead, .dead, .dead, .dead, .dead, .dead, .dead, .dead, .dead, .dead, .dead, .cells [.str g.name, avI g.args, .int .i64 g.ret], .dead, .dead, .dead, .dead, .dead, .dead, .dead, .cells (A ++ [.str g.name, avI g.args, .int .i64 g.ret])]) hr (by simp))
          rw [vapp_grow (i := 27) hr (by simp) rfl (by simp [hA]; omega) (by omega) q1 (by rw [yl]; exact q2) (by rw [yl]; unfold limit; omega) (by rw [yl]; unfold limit; omega) (by rw [yl]; omega), yl, q3]; rfl
        simp only [go_sem, ↓reduceIte, Nat.reduceMod, Nat.reduceEqDiff, Nat.reduceAdd, Nat.reduceMul, Nat.reduceSub, Nat.reduceLeDiff, Nat.reduceLT, Int.reduceEq, Int.reduceLT, Int.reduceLE, Int.reduceAdd, Int.reduceSub, Int.reduceNeg, reduceCtorEq, Nat.reduceShiftRight, Nat.reduceAnd, Nat.reduceBNe, g8, g9, g10, g11, hb, ob1, hr, xe, ye, ga, hap1, hap2, hap3, mk_obj]
        have hrf := hr.Sx (l := [.dead, .dead, .dead, .dead, .dead, .dead, .dead, .dead, .dead, .dead, .dead, .dead, .dead, .dead, .dead, .dead, .dead, .dead, .dead, .cells [.str g.name, avI g.args, .int .i64 g.ret], .dead, .dead, .dead, .dead, .dead, .dead, .dead, .dead, .cells (A ++ [.str g.name, avI g.args, .int .i64 g.ret] ++ B)]) (by simp; omega) (by simp)
        have hnf := Sx_n (s := σ) (l := [.dead, .dead, .dead, .dead, .dead, .dead, .dead, .dead, .dead, .dead, .dead, .dead, .dead, .dead, .dead, .dead, .dead, .dead, .dead, .cells [.str g.name, avI g.args, .int .i64 g.ret], .dead, .dead, .dead, .dead, .dead, .dead, .dead, .dead, .cells (A ++ [.str g.name, avI g.args, .int .i64 g.ret] ++ B)]) hr (by simp)
        simp only [List.length_cons, List.length_nil] at hnf
        have hob := Sx_obj? (s := σ) (l := [.dead, .dead, .dead, .dead, .dead, .dead, .dead, .dead, .dead, .dead, .dead, .dead, .dead, .dead, .dead, .dead, .dead, .dead, .dead, .cells [.str g.name, avI g.args, .int .i64 g.ret], .dead, .dead, .dead, .dead, .dead, .dead, .dead, .dead, .cells (A ++ [.str g.name, avI g.args, .int .i64 g.ret] ++ B)]) hr (by simp) (i := 28) rfl
        have hnm := nm_val hr (k := 28) (by omega)
        have hlen : (L.take i ++ g :: L.drop i).length = ((i + 1) + (L.length - i)) := by rw [List.length_append, List.length_cons, List.length_take, List.length_drop]; omega
        have hcel : (L.take i ++ g :: L.drop i).flatMap sgC = A ++ [.str g.name, avI g.args, .int .i64 g.ret] ++ B := by
          rw [List.flatMap_append, List.flatMap_cons]
          rw [← hAd, ← hBd]; simp [sgC]
        refine ⟨hrf, by omega, g3, by simp, L.take i ++ g :: L.drop i, ⟨⟨.inr ⟨nm σ 28, ?_, by simp, ?_, by omega⟩⟩, hsf, hu2, ?_, .inr ⟨nm σ 28, ?_, by simp, ?_, by omega, by omega, by rw [ha]⟩⟩⟩
        · rw [hlen]
        · rw [hcel]; exact hob
        · exact hp
        · rw [hlen]
        · rw [hcel]; exact hob
    · simp only [go_sem, ↓reduceIte, Nat.reduceMod, Nat.reduceEqDiff, Nat.reduceAdd, Nat.reduceMul, Nat.reduceSub, Nat.reduceLeDiff, Nat.reduceLT, Int.reduceEq, Int.reduceLT, Int.reduceLE, Int.reduceAdd, Int.reduceSub, Int.reduceNeg, reduceCtorEq, Nat.reduceShiftRight, Nat.reduceAnd, Nat.reduceBNe, g8, g10, g11, hb, ob1, hr, sl0.vlen, Int.ofNat_lt, c1]
      refine W_drawn hr _ (by simp) ?_
      by_cases c0 : i = 0
      · subst c0
        have hA : A = [] := by rw [hAd]; rfl
        have hap1 : vapp 3 48 .nils x (Sx σ [.dead, .dead, .dead, .dead, .dead, .dead, .dead, .dead, .dead, .dead, .dead, .dead, .dead, .dead, .dead, .dead, .dead, .dead, .dead, .dead, .dead, .dead, .dead, .dead, .dead, .dead]) = .ok .nils (Sx σ [.dead, .dead, .dead, .dead, .dead, .dead, .dead, .dead, .dead, .dead, .dead, .dead, .dead, .dead, .dead, .dead, .dead, .dead, .dead, .dead, .dead, .dead, .dead, .dead, .dead, .dead]) := by
          obtain ⟨q1, q2, q3⟩ := xh _ (ext_Sx (s := σ) (l := [.dead, .dead, .dead, .dead, .dead, .dead, .dead, .dead, .dead, .dead, .dead, .dead, .dead, .dead, .dead, .dead, .dead, .dead, .dead, .dead, .dead, .dead, .dead, .dead, .dead, .dead]) hr (by simp))
          exact vapp_nils0 q1 (by rw [xl]; exact q2) xl
        have hap2 : vapp 3 48 .nils (.sl (nm σ 19) 0 1 1 0) (Sx σ [.dead, .dead, .dead, .dead, .dead, .dead, .dead, .dead, .dead, .dead, .dead, .dead, .dead, .dead, .dead, .dead, .dead, .dead, .dead, .cells [.str g.name, avI g.args, .int .i64 g.ret], .dead, .dead, .dead, .dead, .dead, .dead]) = .ok (.sl (nm σ 26) 0 1 1 3) (Sx σ [.dead, .dead, .dead, .dead, .dead, .dead, .dead, .dead, .dead, .dead, .dead, .dead, .dead, .dead, .dead, .dead, .dead, .dead, .dead, .cells [.str g.name, avI g.args, .int .i64 g.ret], .dead, .dead, .dead, .dead, .dead, .dead, .cells [.str g.name, avI g.args, .int .i64 g.ret]]) := vapp_row0 hr (by simp) rfl (i := 19) rfl (by unfold limit; omega)
        have hap3 : vapp 3 48 (.sl (nm σ 26) 0 1 1 3) y (Sx σ [.dead, .dead, .dead, .dead, .dead, .dead, .dead, .dead, .dead, .dead, .dead, .dead, .dead, .dead, .dead, .dead, .dead, .dead, .dead, .cells [.str g.name, avI g.args, .int .i64 g.ret], .dead, .dead, .dead, .dead, .dead, .dead, .cells [.str g.name, avI g.args, .int .i64 g.ret]]) = .ok (.sl (nm σ 26) 0 1 1 3) (Sx σ [.dead, .dead, .dead, .dead, .dead, .dead, .dead, .dead, .dead, .dead, .dead, .dead, .dead, .dead, .dead, .dead, .dead, .dead, .dead, .cells [.str g.name, avI g.args, .int .i64 g.ret], .dead, .dead, .dead, .dead, .dead, .dead, .cells [.str g.name, avI g.args, .int .i64 g.ret]]) := by
          obtain ⟨q1, q2, q3⟩ := yh _ (ext_Sx (s := σ) (l := [.dead, .dead, .dead, .dead, .dead, .dead, .dead, .dead, .dead, .dead, .dead, .dead, .dead, .dead, .dead, .dead, .dead, .dead, .dead, .cells [.str g.name, avI g.args, .int .i64 g.ret], .dead, .dead, .dead, .dead, .dead, .dead, .cells [.str g.name, avI g.args, .int .i64 g.ret]]) hr (by simp))
          exact vapp_zero (Sx_obj? hr (by simp) (i := 26) rfl) (by simp []) q1 (by rw [yl]; omega)
        simp only [go_sem, ↓reduceIte, Nat.reduceMod, Nat.reduceEqDiff, Nat.reduceAdd, Nat.reduceMul, Nat.reduceSub, Nat.reduceLeDiff, Nat.reduceLT, Int.reduceEq, Int.reduceLT, Int.reduceLE, Int.reduceAdd, Int.reduceSub, Int.reduceNeg, reduceCtorEq, Nat.reduceShiftRight, Nat.reduceAnd, Nat.reduceBNe, g8, g9, g10, g11, hb, ob1, hr, xe, ye, ga, hap1, hap2, hap3, mk_obj]
        have hrf := hr.Sx (l := [.dead, .dead, .dead, .dead, .dead, .dead, .dead, .dead, .dead, .dead, .dead, .dead, .dead, .dead, .dead, .dead, .dead, .dead, .dead, .cells [.str g.name, avI g.args, .int .i64 g.ret], .dead, .dead, .dead, .dead, .dead, .dead, .cells [.str g.name, avI g.args, .int .i64 g.ret]]) (by simp; omega) (by simp)
        have hnf := Sx_n (s := σ) (l := [.dead, .dead, .dead, .dead, .dead, .dead, .dead, .dead, .dead, .dead, .dead, .dead, .dead, .dead, .dead, .dead, .dead, .dead, .dead, .cells [.str g.name, avI g.args, .int .i64 g.ret], .dead, .dead, .dead, .dead, .dead, .dead, .cells [.str g.name, avI g.args, .int .i64 g.ret]]) hr (by simp)
        simp only [List.length_cons, List.length_nil] at hnf
        have hob := Sx_obj? (s := σ) (l := [.dead, .dead, .dead, .dead, .dead, .dead, .dead, .dead, .dead, .dead, .dead, .dead, .dead, .dead, .dead, .dead, .dead, .dead, .dead, .cells [.str g.name, avI g.args, .int .i64 g.ret], .dead, .dead, .dead, .dead, .dead, .dead, .cells [.str g.name, avI g.args, .int .i64 g.ret]]) hr (by simp) (i := 26) rfl
        have hnm := nm_val hr (k := 26) (by omega)
        have hlen : (L.take 0 ++ g :: L.drop 0).length = 1 := by rw [List.length_append, List.length_cons, List.length_take, List.length_drop]; omega
        have hcel : (L.take 0 ++ g :: L.drop 0).flatMap sgC = [.str g.name, avI g.args, .int .i64 g.ret] := by
          rw [List.flatMap_append, List.flatMap_cons]
          rw [List.eq_nil_of_length_eq_zero (show L.length = 0 by omega)]; simp [sgC]
        refine ⟨hrf, by omega, g3, by simp, L.take 0 ++ g :: L.drop 0, ⟨⟨.inr ⟨nm σ 26, ?_, by simp, ?_, by omega⟩⟩, hsf, hu2, ?_, .inr ⟨nm σ 26, ?_, by simp, ?_, by omega, by omega, by rw [ha]⟩⟩⟩
        · rw [hlen]
        · rw [hcel]; exact hob
        · exact hp
        · rw [hlen]
        · rw [hcel]; exact hob
      · have hA : A.length = i * 3 := by rw [hAd, flat3_len, List.length_take]; omega
        have hap1 : vapp 3 48 .nils x (Sx σ [.dead, .dead, .dead, .dead, .dead, .dead, .dead, .dead, .dead, .dead, .dead, .dead, .dead, .dead, .dead, .dead, .dead, .dead, .dead, .dead, .dead, .dead, .dead, .dead, .dead, .dead]) = .ok (.sl (nm σ 26) 0 i i 3) (Sx σ [.dead, .dead, .dead, .dead, .dead, .dead, .dead, .dead, .dead, .dead, .dead, .dead, .dead, .dead, .dead, .dead, .dead, .dead, .dead, .dead, .dead, .dead, .dead, .dead, .dead, .dead, .cells A]) := by
          obtain ⟨q1, q2, q3⟩ := xh _ (ext_Sx (s := σ) (l := [.dead, .dead, .dead, .dead, .dead, .dead, .dead, .dead, .dead, .dead, .dead, .dead, .dead, .dead, .dead, .dead, .dead, .dead, .dead, .dead, .dead, .dead, .dead, .dead, .dead, .dead]) hr (by simp))
          rw [vapp_nils hr (by simp) q1 (by rw [xl]; exact q2) (by rw [xl]; unfold limit; omega) (by rw [xl]; exact c0), xl, q3]; rfl
        have hap2 : vapp 3 48 (.sl (nm σ 26) 0 i i 3) (.sl (nm σ 19) 0 1 1 0) (Sx σ [.dead, .dead, .dead, .dead, .dead, .dead, .dead, .dead, .dead, .dead, .dead, .dead, .dead, .dead, .dead, .dead, .dead, .dead, .dead, .cells [.str g.name, avI g.args, .int .i64 g.ret], .dead, .dead, .dead, .dead, .dead, .dead, .cells A]) = .ok (.sl (nm σ 27) 0 (i + 1) (i + 1) 3) (Sx σ [.dead, .dead, .dead, .dead, .dead, .dead, .dead, .dead, .dead, .dead, .dead, .dead, .dead, .dead, .dead, .dead, .dead, .dead, .dead, .cells [.str g.name, avI g.args, .int .i64 g.ret], .dead, .dead, .dead, .dead, .dead, .dead, .dead, .cells (A ++ [.str g.name, avI g.args, .int .i64 g.ret])]) := by
          obtain ⟨q1, q2, q3⟩ := isl_lit (s := σ) (L := [.dead, .dead, .dead, .dead, .dead, .dead, .dead, .dead, .dead, .dead, .dead, .dead, .dead, .dead, .dead, .dead, .dead, .dead, .dead, .cells [.str g.name, avI g.args, .int .i64 g.ret], .dead, .dead, .dead, .dead, .dead, .dead, .cells A]) (i := 19) (n := 1) hr (by simp) rfl (by unfold limit; omega) 1 0
          rw [vapp_grow (i := 26) hr (by simp) rfl hA (by omega) q1 (by rw [q2, q3]; simp) (by rw [q3]; unfold limit; omega) (by rw [q3]; unfold limit; omega) (by rw [q3]; omega), q2, q3]; rfl
        have hap3 : vapp 3 48 (.sl (nm σ 27) 0 (i + 1) (i + 1) 3) y (Sx σ [.dead, .dead, .dead, .dead, .dead, .dead, .dead, .dead, .dead, .dead, .dead, .dead, .dead, .dead, .dead, .dead, .dead, .dead, .dead, .cells [.str g.name, avI g.args, .int .i64 g.ret], .dead, .dead, .dead, .dead, .dead, .dead, .dead, .cells (A ++ [.str g.name, avI g.args, .int .i64 g.ret])]) = .ok (.sl (nm σ 27) 0 (i + 1) (i + 1) 3) (Sx σ [.dead, .dead, .dead, .dead, .dead, .dead, .dead, .dead, .dead, .dead, .dead, .dead, .dead, .dead, .dead, .dead, .dead, .dead, .dead, .cells [.str g.name, avI g.args, .int .i64 g.ret], .dead, .dead, .dead, .dead, .dead, .dead, .dead, .cells (A ++ [.str g.name, avI g.args, .int .i64 g.ret])]) := by
          obtain ⟨q1, q2, q3⟩ := yh _ (ext_Sx (s := σ) (l := [.dead, .dead, .dead, .dead, .dead, .dead, .dead, .dead, .dead, .dead, .dead, .dead, .dead, .dead, .dead, .dead, .dead, .dead, .dead, .cells [.str g.name, avI g.args, .int .i64 g.ret], .dead, .dead, .dead, .dead, .dead, .dead, .dead, .cells (A ++ [.str g.name, avI g.args, .int .i64 g.ret])]) hr (by simp))
          exact vapp_zero (Sx_obj? hr (by simp) (i := 27) rfl) (by simp [hA]; omega) q1 (by rw [yl]; omega)
        simp only [go_sem, ↓reduceIte, Nat.reduceMod, Nat.reduceEqDiff, Nat.reduceAdd, Nat.reduceMul, Nat.reduceSub, Nat.reduceLeDiff, Nat.reduceLT, Int.reduceEq, Int.reduceLT, Int.reduceLE, Int.reduceAdd, Int.reduceSub, Int.reduceNeg, reduceCtorEq, Nat.reduceShiftRight, Nat.reduceAnd, Nat.reduceBNe, g8, g9, g10, g11, hb, ob1, hr, xe, ye, ga, hap1, hap2, hap3, mk_obj]
        have hrf := hr.Sx (l := [.dead, .dead, .dead, .dead, .dead, .dead, .dead, .dead, .dead, .dead, .dead, .dead, .dead, .dead, .dead, .dead, .dead, .dead, .dead, .cells [.str g.name, avI g.args, .int .i64 g.ret], .dead, .dead, .dead, .dead, .dead, .dead, .dead, .cells (A ++ [.str g.name, avI g.args, .int .i64 g.ret])]) (by simp; omega) (by simp)
        have hnf := Sx_n (s := σ) (l := [.dead, .dead, .dead, .dead, .dead, .dead, .dead, .dead, .dead, .dead, .dead, .dead, .dead, .dead, .dead, .dead, .dead, .dead, .dead, .cells [.str g.name, avI g.args, .int .i64 g.ret], .dead, .dead, .dead, .dead, .dead, .dead, .dead, .cells (A ++ [.str g.name, avI g.args, .int .i64 g.ret])]) hr (by simp)
        simp only [List.length_cons, List.length_nil] at hnf
        have hob := Sx_obj? (s := σ) (l := [.dead, .dead, .dead, .dead, .dead, .dead, .dead, .dead, .dead, .dead, .dead, .dead, .dead, .dead, .dead, .dead, .dead, .dead, .dead, .cells [.str g.name, avI g.args, .int .i64 g.ret], .dead, .dead, .dead, .dead, .dead, .dead, .dead, .cells (A ++ [.str g.name, avI g.args, .int .i64 g.ret])]) hr (by simp) (i := 27) rfl
        have hnm := nm_val hr (k := 27) (by omega)
        have hlen : (L.take i ++ g :: L.drop i).length = (i + 1) := by rw [List.length_append, List.length_cons, List.length_take, List.length_drop]; omega
        have hcel : (L.take i ++ g :: L.drop i).flatMap sgC = A ++ [.str g.name, avI g.args, .int .i64 g.ret] := by
          rw [List.flatMap_append, List.flatMap_cons]
          rw [← hAd, List.drop_of_length_le (by omega)]; simp [sgC]
        refine ⟨hrf, by omega, g3, by simp, L.take i ++ g :: L.drop i, ⟨⟨.inr ⟨nm σ 27, ?_, by simp, ?_, by omega⟩⟩, hsf, hu2, ?_, .inr ⟨nm σ 27, ?_, by simp, ?_, by omega, by omega, by rw [ha]⟩⟩⟩
        · rw [hlen]
        · rw [hcel]; exact hob
        · exact hp
        · rw [hlen]
        · rw [hcel]; exact hob
end Go.Proofs.YtjnejkganejdbaaGreat
namespace Go.Proofs.YtjnejkganejdbaaGreat
open Go Go.Vm
set_option linter.unusedVariables false
set_option linter.unusedSimpArgs false
set_option maxRecDepth 100000
theorem res_step {v0 : AV} {M0 X : List Sg} {t : T} (hu : Uniq X) (hX : ∃ e, X = M0 ++ e) : resG (resG v0 M0 X) (sortG X) (namesT (sortG X) t).1 = resG v0 M0 (namesT X t).1 := by
  obtain ⟨hp, _⟩ := namesT_perm t (sortG X) X (sortG_perm X) (uniq_perm (sortG_perm X).symm hu)
  have hl := hp.length_eq
  have huY : Uniq (namesT X t).1 := namesT_uniq t X hu
  by_cases h : (namesT (sortG X) t).1 = sortG X
  · have e : (namesT X t).1 = X := app_same (namesT_app t X) (by rw [← hl, h, sortG_len]; exact Nat.le_refl _)
    rw [h, e]
    unfold resG
    rw [if_pos rfl]
  · have hne : (namesT X t).1 ≠ M0 := by
      intro e
      obtain ⟨e1, h1⟩ := hX
      have hlx : M0.length ≤ X.length := by rw [h1, List.length_append]; omega
      refine h (app_same (namesT_app t _) ?_)
      rw [hl, e, sortG_len]; exact hlx
    unfold resG
    rw [if_neg h, if_neg hne, sortG_eq huY hp]
theorem resG_row {σ : St} {v0 : AV} {M0 X : List Sg} (row : RowG σ v0 M0) (hs : sortG M0 = M0) : RowG σ (resG v0 M0 X) (sortG X) := by
  unfold resG
  by_cases h : X = M0
  · rw [if_pos h, h, hs]; exact row
  · rw [if_neg h]; exact ⟨.inl rfl⟩
theorem sigs_rest (k0 : Nat) {σ : St} {v0 : AV} {M0 : List Sg} {b0 : Bool} {b3 : Vm.Id} {f : Fr AV} {t : T} {kv c0 c1 c2 c3 c4 : AV} (hr : Room σ) (hn : σ.n.val + 60 * T.sizes t.kids ≤ 30000) (hk0 : T.sizes t.kids ≤ k0) (hl : M0.length + T.sizes t.kids ≤ 400) (hal : ∀ o ∈ M0, o.args.length ≤ 400)
    (row : RowG σ v0 M0) (hs : sortG M0 = M0) (hu : Uniq M0) (hb : b3.val < σ.n.val) (ob : σ.obj b3 = .cells [c0, c1, c2, c3, c4, kv]) (hk : Ts σ kv t.kids) (g3 : (vv 3).get f = .ptr b3 0) (g8 : (vv 8).get f = v0) (g9 : (vv 9).get f = .bool b0) :
    W (CS k0) S.rest NR NE (fun f' σ' => σ' = σ ∧ (vv 6).get f' = resG v0 M0 (namesTs M0 t.kids).1 ∧ (vv 7).get f' = .bool (b0 && (namesTs M0 t.kids).2)) f (Sx σ []) := by
  generalize t.kids = l at *
  have hm := hk.most
  unfold S.rest
  simp only [go_sem, ↓reduceIte, Nat.reduceMod, Nat.reduceEqDiff, Nat.reduceAdd, Nat.reduceMul, Nat.reduceSub, Nat.reduceLeDiff, Nat.reduceLT, Int.reduceEq, Int.reduceLT, Int.reduceLE, Int.reduceAdd, Int.reduceSub, Int.reduceNeg, reduceCtorEq, Nat.reduceShiftRight, Nat.reduceAnd, Nat.reduceBNe]
  refine W_inv (fun k f τ => ∃ (i : Nat), Sx σ [] = τ ∧ k = l.length - i ∧ i ≤ l.length ∧ (vv 3).get f = .ptr b3 0 ∧ (vv 8).get f = resG v0 M0 (namesTs M0 (l.take i)).1 ∧ (vv 9).get f = .bool (b0 && (namesTs M0 (l.take i)).2) ∧ (vv 12).get f = .int .i64 (i : Int)) ?_ ⟨0, rfl, rfl, by omega, ?_, ?_, ?_, ?_⟩
  · rintro k f τ ⟨i, rfl, rfl, hi, g3, g8, g9, g12⟩
    by_cases c1 : i < l.length
    · obtain ⟨cs, hat⟩ := hk.at c1
      have hs1 := T.size_at c1
      have hs2 := T.sizes_take l i c1
      have hs3 := T.sizes_le l (i + 1)
      have het : l.take (i + 1) = l.take i ++ [l[i]] := (List.take_append_getElem c1).symm
      have hnn := namesTs_snoc M0 (l.take i) l[i]
      rw [← het] at hnn
      have hXa := namesTs_app (l.take i) M0
      have hXu : Uniq (namesTs M0 (l.take i)).1 := namesTs_uniq _ _ hu
      have hXl := namesTs_len (l.take i) M0
      have hXg := namesTs_args (l.take i) M0 (by omega) hal
      generalize (namesTs M0 (l.take i)).1 = X at *
      generalize (namesTs M0 (l.take i)).2 = B at *
      obtain ⟨hp, hf2⟩ := namesT_perm l[i] (sortG X) X (sortG_perm X) (uniq_perm (sortG_perm X).symm hXu)
      have f1 := sigsS_ok (k := k0) (a := [.agg cs, resG v0 M0 X, .bool (b0 && B)]) (s := σ) (t := l[i]) (v := resG v0 M0 X) (L := sortG X) (b := (b0 && B)) ⟨⟨cs, rfl, hat.t6⟩, resG_row row hs, sort_fix hXu, uniq_perm (sortG_perm X).symm hXu, hr, by omega, by omega, by rw [sortG_len]; omega, fun o ho => hXg o ((sortG_perm X).mem_iff.mp ho)⟩
      rw [res_step hXu hXa, hf2] at f1
      simp only [go_sem, ↓reduceIte, Nat.reduceMod, Nat.reduceEqDiff, Nat.reduceAdd, Nat.reduceMul, Nat.reduceSub, Nat.reduceLeDiff, Nat.reduceLT, Int.reduceEq, Int.reduceLT, Int.reduceLE, Int.reduceAdd, Int.reduceSub, Int.reduceNeg, reduceCtorEq, Nat.reduceShiftRight, Nat.reduceAnd, Nat.reduceBNe, g3, g8, g9, g12, hb, ob, hr, hk.vlen, Int.ofNat_lt, c1, hk.ia c1, hat.ld, f1, Sx_nil]
      refine ⟨l.length - (i + 1), by omega, i + 1, rfl, by omega, ?_, ?_, ?_⟩
      · rw [hnn]
      · rw [hnn]; simp only [Bool.and_assoc]
      · rw [wrap_i64 (by omega) (by omega)]; congr 1
    · have e : i = l.length := by omega
      subst e
      rw [List.take_length] at g8 g9
      simp only [go_sem, ↓reduceIte, Nat.reduceMod, Nat.reduceEqDiff, Nat.reduceAdd, Nat.reduceMul, Nat.reduceSub, Nat.reduceLeDiff, Nat.reduceLT, Int.reduceEq, Int.reduceLT, Int.reduceLE, Int.reduceAdd, Int.reduceSub, Int.reduceNeg, reduceCtorEq, Nat.reduceShiftRight, Nat.reduceAnd, Nat.reduceBNe, g3, g8, g9, g12, hb, ob, hr, hk.vlen, Int.ofNat_lt, c1]
      rfl
  · simp only [go_sem, ↓reduceIte, Nat.reduceMod, Nat.reduceEqDiff, Nat.reduceAdd, Nat.reduceMul, Nat.reduceSub, Nat.reduceLeDiff, Nat.reduceLT, Int.reduceEq, Int.reduceLT, Int.reduceLE, Int.reduceAdd, Int.reduceSub, Int.reduceNeg, reduceCtorEq, Nat.reduceShiftRight, Nat.reduceAnd, Nat.reduceBNe, g3]
  · simp only [go_sem, ↓reduceIte, Nat.reduceMod, Nat.reduceEqDiff, Nat.reduceAdd, Nat.reduceMul, Nat.reduceSub, Nat.reduceLeDiff, Nat.reduceLT, Int.reduceEq, Int.reduceLT, Int.reduceLE, Int.reduceAdd, Int.reduceSub, Int.reduceNeg, reduceCtorEq, Nat.reduceShiftRight, Nat.reduceAnd, Nat.reduceBNe, g8]
    simp [namesTs, resG]
  · simp only [go_sem, ↓reduceIte, Nat.reduceMod, Nat.reduceEqDiff, Nat.reduceAdd, Nat.reduceMul, Nat.reduceSub, Nat.reduceLeDiff, Nat.reduceLT, Int.reduceEq, Int.reduceLT, Int.reduceLE, Int.reduceAdd, Int.reduceSub, Int.reduceNeg, reduceCtorEq, Nat.reduceShiftRight, Nat.reduceAnd, Nat.reduceBNe, g9]
    simp [namesTs]
  · simp only [go_sem, ↓reduceIte, Nat.reduceMod, Nat.reduceEqDiff, Nat.reduceAdd, Nat.reduceMul, Nat.reduceSub, Nat.reduceLeDiff, Nat.reduceLT, Int.reduceEq, Int.reduceLT, Int.reduceLE, Int.reduceAdd, Int.reduceSub, Int.reduceNeg, reduceCtorEq, Nat.reduceShiftRight, Nat.reduceAnd, Nat.reduceBNe]
    rfl
/-- What is to be at the end. -/
def SEnd (s : St) (v : AV) (L : List Sg) (t : T) (b : Bool) (rc : RC) : Prop := ∃ f' s', rc = .ret f' s' ∧ Ext s s' ∧ Fz s.n.val s' ((vv 6).get f') (resG v L (namesT L t).1) ∧ (vv 7).get f' = .bool (b && (namesT L t).2)
theorem resG_ov {s : St} {v : AV} {L X : List Sg} (row : RowG s v L) : Ov s.n.val (resG v L X) := by
  unfold resG
  split
  · exact row.ov
  · exact avG_ov _ _
theorem sigs_runs (k0 : Nat) (hsc : SoundCall Tryz.prog (CS k0)) {s : St} {cs : List AV} {t : T} {v : AV} {L : List Sg} {b : Bool} (h6 : RT6 s cs t) (H : ToSig (k0 + 1) [.agg cs, v, .bool b] s t v L b) :
    Runs Tryz.prog Tryz.f52.ntmps S.b (frame0 [.agg cs, v, .bool b]) s (SEnd s v L t b) := by
  have hdr := Vm.drawn_ok follows (CS k0) hsc
  have hr := H.room
  have hn := H.n
  have hsz := H.size
  have hlen := H.len
  have hks := T.size_kids t
  have hne := namesT_eq L t
  have v0n := nm_val hr (k := 0) (by omega)
  have v1n := nm_val hr (k := 1) (by omega)
  obtain ⟨ng, mg, kv, hcs, hz, hk⟩ := h6.ex
  have hkl := T.length_le t.kids
  rw [S.split]
  by_cases hop : t.op = 4
  · rw [if_pos hop, if_pos hop] at hne
    have hx := ext_Sx (s := s) (l := [.cells cs, .cells (sgC (sgT t))]) hr (by simp)
    have hrr := hr.Sx (l := [.cells cs, .cells (sgC (sgT t))]) (by simp; omega) (by simp)
    have hnn := Sx_n (s := s) (l := [.cells cs, .cells (sgC (sgT t))]) hr (by simp)
    simp only [List.length_cons, List.length_nil] at hnn
    have q0 := Sx_obj? (s := s) (l := [.cells cs, .cells (sgC (sgT t))]) hr (by simp) (i := 0) rfl
    have q1 := Sx_obj? (s := s) (l := [.cells cs, .cells (sgC (sgT t))]) hr (by simp) (i := 1) rfl
    refine Runs.seqN (Runs.ofW hsc hdr S.hr1 (sigs_pre k0 hr hn (by omega) h6 hop H.row)) fun f1 s1 h1 => ?_
    refine Runs.seqN (Runs.ofW hsc hdr S.hr2 h1) fun f2 s2 h2 => ?_
    refine Runs.seqN (K := fun f7 s7 => Room s7 ∧ Ext (Sx s [.cells cs, .cells (sgC (sgT t))]) s7 ∧ s7.n.val ≤ (Sx s [.cells cs, .cells (sgC (sgT t))]).n.val + 30 ∧ (vv 3).get f7 = .ptr (nm s 0) 0 ∧ (vv 9).get f7 = .bool (b && (addG L (sgT t)).2) ∧ ∃ M0, Noted (Sx s [.cells cs, .cells (sgC (sgT t))]) v L (sgT t) b s7 ((vv 8).get f7) M0) ?_ ?_
    · refine Runs.seqN (Runs.ofW hsc hdr S.hr3 h2) fun f3 s3 h3 => ?_
      refine Runs.cond S.hc (t := true) h3.1 ?_
      rw [if_pos rfl]
      refine Runs.seqN (Runs.ofW hsc hdr S.hr4 h3.2) fun f4 s4 h4 => ?_
      refine Runs.seqN (Runs.ofW hsc hdr S.hr5 h4) fun f5 s5 h5 => ?_
      obtain ⟨rfl, hov, g3, g8, g9, g10, g11⟩ := h5
      refine Runs.seqN (Runs.forget (Runs.ofW hsc hdr S.hL (sigs_loop k0 hrr (by omega) (by omega) (H.row.ext hx) (by omega) q1 (hov.mono (by omega)) g3 g8 g9 g10 g11))) fun f6 s6 h6 => ?_
      obtain ⟨rfl, i, hi, hlt, hge, g3, g8, g9, g10, g11⟩ := h6
      exact Runs.ofW hsc hdr S.hY (sigs_ins k0 hrr (by omega) (by omega) (H.row.ext hx) H.sorted H.uniq H.argl (by show (t.kids.map T.sort).length ≤ 400; rw [List.length_map]; omega) (by omega) q1 hi hlt hge g3 g8 g9 g10 g11)
    · rintro f7 s7 ⟨r7, x7, n7, g3, g9, M0, N⟩
      have hcl : M0.length ≤ L.length + 1 := by rw [N.perm.length_eq]; exact addG_len _ _
      have hu1 : Uniq (addG L (sgT t)).1 := addG_names H.uniq
      obtain ⟨p1, p2⟩ := namesTs_perm t.kids M0 (addG L (sgT t)).1 N.perm N.uniq
      have hal : ∀ o ∈ M0, o.args.length ≤ 400 := fun o ho => addG_args H.argl (by show (t.kids.map T.sort).length ≤ 400; rw [List.length_map]; omega) o (N.perm.mem_iff.mp ho)
      have hw := sigs_rest k0 (t := t) (kv := kv) r7 (by omega) (by omega) (by omega) hal N.row N.sorted N.uniq (b3 := nm s 0) (by have := x7.n; omega) (by rw [x7.old _ (by omega), q0, hcs]) ((hk.x hx).x x7) g3 rfl g9
      refine (Runs.ofW hsc hdr S.hrest hw).mono fun rc hrc => ?_
      cases rc with
      | no => exact hrc.elim
      | nor f1 s1 => exact hrc.elim
      | exit i f1 s1 => exact hrc.elim
      | ret f1 s1 =>
        obtain ⟨rfl, e6, e7⟩ := hrc
        refine ⟨f1, s1, rfl, hx.trans x7, ?_, ?_⟩
        · rw [e6, hne]
          rcases N.how with ⟨h1, h2, h3⟩ | ⟨bb, h1, h2, h3, h4, h5, h8⟩
          · rw [h1, h2, h3]
            exact resG_ov H.row _
          · have hX : (namesTs (addG L (sgT t)).1 t.kids).1 ≠ L := by
              intro e
              obtain ⟨e1, he1⟩ := namesTs_app t.kids (addG L (sgT t)).1
              have := congrArg List.length (he1.symm.trans e)
              rw [h8] at this
              simp at this
            have hsg := sortG_eq (namesTs_uniq t.kids _ hu1) p1
            show Fz s.n.val s1 (resG ((vv 8).get f7) M0 (namesTs M0 t.kids).1) (resG v L (namesTs (addG L (sgT t)).1 t.kids).1)
            unfold resG
            rw [if_neg hX]
            by_cases hm : (namesTs M0 t.kids).1 = M0
            · rw [if_pos hm, ← hsg, hm, N.sorted, h1]
              unfold avG
              rw [if_neg h2]
              refine .slN bb 0 _ _ _ _ _ (by omega) h3 rfl (fun j c d hc hd => ?_)
              have hc' : (M0.flatMap sgC)[j]? = some c := hc
              rw [hd] at hc'; cases hc'
              exact sgC_ov _ M0 _ (List.mem_of_getElem? hd) _
            · rw [if_neg hm, hsg]
              exact avG_ov _ _ _
        · rw [e7, hne, p2, Bool.and_assoc]
  · rw [if_neg hop, if_neg hop] at hne
    have hx := ext_Sx (s := s) (l := [.cells cs]) hr (by simp)
    have hrr := hr.Sx (l := [.cells cs]) (by simp; omega) (by simp)
    have hnn := Sx_n (s := s) (l := [.cells cs]) hr (by simp)
    simp only [List.length_cons, List.length_nil] at hnn
    have q0 := Sx_obj? (s := s) (l := [.cells cs]) hr (by simp) (i := 0) rfl
    have hpre : W (CS k0) S.r1 (fun f q => W (CS k0) S.r2 (fun f q => W (CS k0) S.r3 (fun f σ => (vv 17).get f = .bool false ∧ σ = Sx s [.cells cs] ∧ (vv 3).get f = .ptr (nm s 0) 0 ∧ (vv 8).get f = v ∧ (vv 9).get f = .bool b) NE NR f q) NE NR f q) NE NR (frame0 [.agg cs, v, .bool b]) (Sx s []) := by
      subst hcs
      unfold S.r1 S.r2 S.r3
      simp only [go_sem, ↓reduceIte, Nat.reduceMod, Nat.reduceEqDiff, Nat.reduceAdd, Nat.reduceMul, Nat.reduceSub, Nat.reduceLeDiff, Nat.reduceLT, Int.reduceEq, Int.reduceLT, Int.reduceLE, Int.reduceAdd, Int.reduceSub, Int.reduceNeg, reduceCtorEq, Nat.reduceShiftRight, Nat.reduceAnd, Nat.reduceBNe, hr, hz.one, hk.one, hop]
    refine Runs.seqN (Runs.ofW hsc hdr S.hr1 hpre) fun f1 s1 h1 => ?_
    refine Runs.seqN (Runs.ofW hsc hdr S.hr2 h1) fun f2 s2 h2 => ?_
    refine Runs.seqN (K := fun f7 s7 => s7 = Sx s [.cells cs] ∧ (vv 3).get f7 = .ptr (nm s 0) 0 ∧ (vv 8).get f7 = v ∧ (vv 9).get f7 = .bool b) ?_ ?_
    · refine Runs.seqN (Runs.ofW hsc hdr S.hr3 h2) fun f3 s3 h3 => ?_
      refine Runs.cond S.hc (t := false) h3.1 ?_
      rw [if_neg (by simp)]
      have hsk : W (CS k0) .skip (fun f7 s7 => s7 = Sx s [.cells cs] ∧ (vv 3).get f7 = .ptr (nm s 0) 0 ∧ (vv 8).get f7 = v ∧ (vv 9).get f7 = .bool b) NE NR f3 s3 := by rw [W_skip]; exact h3.2
      exact Runs.ofW hsc hdr S.skip hsk
    · rintro f7 s7 ⟨rfl, g3, g8, g9⟩
      have hw := sigs_rest k0 (t := t) (kv := kv) hrr (by omega) (by omega) (by omega) H.argl (H.row.ext hx) H.sorted H.uniq (b3 := nm s 0) (by omega) (by rw [q0, hcs]) (hk.x hx) g3 g8 g9
      refine (Runs.ofW hsc hdr S.hrest hw).mono fun rc hrc => ?_
      cases rc with
      | no => exact hrc.elim
      | nor f1 s1 => exact hrc.elim
      | exit i f1 s1 => exact hrc.elim
      | ret f1 s1 =>
        obtain ⟨rfl, e6, e7⟩ := hrc
        refine ⟨f1, _, rfl, hx, ?_, ?_⟩
        · rw [e6, hne]; exact resG_ov H.row _
        · rw [e7, hne, Bool.true_and]
theorem sigsK_sound : ∀ k, Sound1 F.ref10_sigs (SigsK k)
  | 0 => by
    intro args s r s' h
    obtain ⟨t, v, L, b, ht, _⟩ := sigsK_ok h
    have h1 := ht.size
    have h2 := T.size_kids t
    omega
  | k + 1 => by
    have hsc : SoundCall Tryz.prog (CS k) := cc_sound (Vm.drawn_ok follows) (base_set (sigsK_sound k) base_rep)
    intro args s r s' h
    obtain ⟨t, v, L, b, ht, rfl, rfl⟩ := sigsK_ok h
    have ev : F.ref10_sigs.val = 52 := by kernel_rfl
    obtain ⟨cs, rfl, h6⟩ := ht.args
    refine ⟨⟨Tryz.f52, by rw [ev]; exact Tryz.func52, by kernel_rfl, by decide⟩, fun E w vals rel hrl => ?_⟩
    rw [ev]
    refine Calls.mono (fn_runs S.hf S.hb S.hrs S.hnt (by show 3 ≤ Tryz.f52.ntmps; decide) (sigs_runs k hsc h6 ht) (W := fun r s1 => ∃ av, r = .tup [av, .bool (b && (namesT L t).2)] ∧ Ext s' s1 ∧ Fz s'.n.val s1 av (resG v L (namesT L t).1)) ?_ rel hrl) ?_
    · rintro rc ⟨f', s1, rfl, x, fz, g7⟩
      refine ⟨.tup [(vv 6).get f', .bool (b && (namesT L t).2)], s1, ?_, _, rfl, x, fz⟩
      show R.ok (.tup [(vv 6).get f', (vv 7).get f']) s1 = _
      rw [g7]
    · rintro e w' ⟨r, s1, E', u, ⟨av, rfl, x, fz⟩, rfl, k1, k2⟩
      obtain ⟨G, g1, g2⟩ := settled_went (r := .tup [resG v L (namesT L t).1, .bool (b && (namesT L t).2)]) rel k1 k2 (settled_fz x (.tup _ _ rfl (fzl_cons fz (fzl_cons (.bool _) (fzl_nil _ _)))))
      exact ⟨G, u, rfl, g1, g2⟩
theorem sigs_sound : Sound1 F.ref10_sigs Sigs_B := sigsK_sound 120
end Go.Proofs.YtjnejkganejdbaaGreat
namespace Go.Proofs.YtjnejkganejdbaaGreat
open Go Go.Vm
set_option linter.unusedVariables false
set_option linter.unusedSimpArgs false
theorem avG_one (l : List Sg) : (avG l).one = true := by unfold avG; split <;> rfl
theorem avG_nil : avG [] = .nils := by unfold avG; rw [if_pos rfl]
theorem avG_row (s : St) (l : List Sg) : RowG s (avG l) l := ⟨.inl rfl⟩
theorem resG_nil (X : List Sg) : resG .nils [] X = avG (sortG X) := by
  unfold resG
  by_cases h : X = []
  · rw [if_pos h, h]; show AV.nils = avG (sortG []); rw [show sortG [] = [] from by simp [sortG], avG_nil]
  · rw [if_neg h]
theorem names_one (t : T) : (namesTs [] [t]).1 = (namesT [] t).1 ∧ (namesTs [] [t]).2 = (namesT [] t).2 := by
  rw [namesTs, namesTs]; simp
theorem ref_Sigs_ok (s : St) (cs : List AV) (t : T) (hr : Room s) (hn : s.n.val ≤ 20000) (hsz : t.size ≤ 120) (h : RT6 s cs t) : CA F.ref10_Sigs [.agg cs] s = .ok (.tup [avG (sortG (namesT [] t).1), .bool (namesT [] t).2]) s := by
  have h6 := h
  obtain ⟨ng, mg, kv, rfl, hz, hk⟩ := h.ex
  have hx := ext_Sx (s := s) (l := [.cells [.int .i64 t.op, ng, mg, .str t.name, .int .i64 t.sort, kv]]) hr (by simp)
  have hrr := hr.Sx (l := [.cells [.int .i64 t.op, ng, mg, .str t.name, .int .i64 t.sort, kv]]) (by simp; omega) (by simp)
  have hnn := Sx_n (s := s) (l := [.cells [.int .i64 t.op, ng, mg, .str t.name, .int .i64 t.sort, kv]]) hr (by simp)
  simp only [List.length_cons, List.length_nil] at hnn
  have f1 : CA F.ref10_sigs [.agg [.int .i64 t.op, ng, mg, .str t.name, .int .i64 t.sort, kv], .nils, .bool true] (Sx s [.cells [.int .i64 t.op, ng, mg, .str t.name, .int .i64 t.sort, kv]]) = .ok (.tup [resG .nils [] (namesT [] t).1, .bool (true && (namesT [] t).2)]) (Sx s [.cells [.int .i64 t.op, ng, mg, .str t.name, .int .i64 t.sort, kv]]) :=
    cc_ok.mpr (.base _ _ _ _ _ (by rw [show F.ref10_sigs.get BT = Sigs_B from by kernel_rfl]; exact sigsK_eq ⟨⟨_, rfl, h6.x hx⟩, ⟨.inl avG_nil.symm⟩, by simp [sortG], by simp [Uniq], hrr, by omega, by omega, by simp; omega, by simp⟩))
  rw [resG_nil, Bool.true_and] at f1
  have ga := avG_one (sortG (namesT [] t).1)
  refine fn_of code_ref10_Sigs (by simp) ?_
  simp only [go_sem, ↓reduceIte, Nat.reduceMod, Nat.reduceEqDiff, Nat.reduceAdd, Nat.reduceMul, Nat.reduceSub, Nat.reduceLeDiff, Nat.reduceLT, Int.reduceEq, Int.reduceLT, Int.reduceLE, Int.reduceAdd, Int.reduceSub, Int.reduceNeg, reduceCtorEq, Nat.reduceShiftRight, Nat.reduceAnd, Nat.reduceBNe, hr, hz.one, hk.one, f1, ga]
  exact settled_fz hx (fz_tup2 (avG_ov _ _ _) (.bool _))
theorem term_Sigs_ok (s : St) (cs : List AV) (t : T) (htm : t.tame) (hr : Room s) (hn : s.n.val ≤ 20000) (h : RT6 s cs t) : CA F.term_Sigs [.agg cs] s = .ok (.tup [avG (if isT t = true then sortG (namesT [] t).1 else []), .bool (if isT t = true then (namesT [] t).2 else true)]) s := by
  have h6 := h
  obtain ⟨ng, mg, kv, rfl, hz, hk⟩ := h.ex
  have hx := ext_Sx (s := s) (l := [.cells [.int .i64 t.op, ng, mg, .str t.name, .int .i64 t.sort, kv]]) hr (by simp)
  have hrr := hr.Sx (l := [.cells [.int .i64 t.op, ng, mg, .str t.name, .int .i64 t.sort, kv]]) (by simp; omega) (by simp)
  have hnn := Sx_n (s := s) (l := [.cells [.int .i64 t.op, ng, mg, .str t.name, .int .i64 t.sort, kv]]) hr (by simp)
  simp only [List.length_cons, List.length_nil] at hnn
  have f1 := Is_tm t htm _ _ hrr (by omega) (h6.x hx)
  cases hB : isT t
  · rw [hB] at f1
    refine fn_of code_term_Sigs (by simp) ?_
    simp only [go_sem, ↓reduceIte, Nat.reduceMod, Nat.reduceEqDiff, Nat.reduceAdd, Nat.reduceMul, Nat.reduceSub, Nat.reduceLeDiff, Nat.reduceLT, Int.reduceEq, Int.reduceLT, Int.reduceLE, Int.reduceAdd, Int.reduceSub, Int.reduceNeg, reduceCtorEq, Nat.reduceShiftRight, Nat.reduceAnd, Nat.reduceBNe, hr, hz.one, hk.one, f1, Bool.not_false]
    refine settled_fz hx (fz_tup2 ?_ (.bool _))
    rw [avG_nil]; exact .nils
  · rw [hB] at f1
    have hsz : t.size ≤ 400 := by
      unfold isT at hB
      rw [Bool.and_eq_true, decide_eq_true_eq] at hB
      exact hB.1
    have hx2 := ext_Sx (s := s) (l := [.cells [.int .i64 t.op, ng, mg, .str t.name, .int .i64 t.sort, kv], .cells [.int .i64 t.op, ng, mg, .str t.name, .int .i64 t.sort, kv]]) hr (by simp)
    have hr2 := hr.Sx (l := [.cells [.int .i64 t.op, ng, mg, .str t.name, .int .i64 t.sort, kv], .cells [.int .i64 t.op, ng, mg, .str t.name, .int .i64 t.sort, kv]]) (by simp; omega) (by simp)
    have hn2 := Sx_n (s := s) (l := [.cells [.int .i64 t.op, ng, mg, .str t.name, .int .i64 t.sort, kv], .cells [.int .i64 t.op, ng, mg, .str t.name, .int .i64 t.sort, kv]]) hr (by simp)
    simp only [List.length_cons, List.length_nil] at hn2
    have f2 := All_ok hr2 (by omega) (l := [t]) (by show t.size + 0 ≤ 400; omega) (ts_one hr (by simp) (i := 1) rfl (h6.x hx2))
    rw [(names_one t).1, (names_one t).2] at f2
    have ga := avG_one (sortG (namesT [] t).1)
    refine fn_of code_term_Sigs (by simp) ?_
    simp only [go_sem, ↓reduceIte, Nat.reduceMod, Nat.reduceEqDiff, Nat.reduceAdd, Nat.reduceMul, Nat.reduceSub, Nat.reduceLeDiff, Nat.reduceLT, Int.reduceEq, Int.reduceLT, Int.reduceLE, Int.reduceAdd, Int.reduceSub, Int.reduceNeg, reduceCtorEq, Nat.reduceShiftRight, Nat.reduceAnd, Nat.reduceBNe, hr, hz.one, hk.one, f1, f2, ga, Bool.not_true]
    refine settled_fz hx2 (fz_tup2 ?_ (.bool _))
    exact avG_ov _ _ _
theorem sameSigs_ok (s : St) (a b : List Sg) (hr : Room s) (hn : s.n.val ≤ 30000) (ha : a.length ≤ 400) (hb : b.length ≤ 400) (hal : ∀ o ∈ a, o.args.length ≤ 400) (hbl : ∀ o ∈ b, o.args.length ≤ 400) : CA F.ref10_SameSigs [avG a, avG b] s = .ok (.bool (decide (a = b))) s := by
  have va := (avG_row s a).slr (by omega)
  have vb := (avG_row s b).slr (by omega)
  refine fn_of code_ref10_SameSigs (by simp) ?_
  by_cases c0 : (a.length : Int) = (b.length : Int)
  · have c0' : a.length = b.length := by omega
    simp only [go_sem, ↓reduceIte, Nat.reduceMod, Nat.reduceEqDiff, Nat.reduceAdd, Nat.reduceMul, Nat.reduceSub, Nat.reduceLeDiff, Nat.reduceLT, Int.reduceEq, Int.reduceLT, Int.reduceLE, Int.reduceAdd, Int.reduceSub, Int.reduceNeg, reduceCtorEq, Nat.reduceShiftRight, Nat.reduceAnd, Nat.reduceBNe, va.vlen, vb.vlen, c0, ne_eq, not_true_eq_false]
    refine W_inv (fun k f τ => ∃ i : Nat, ∃ σ : St, Sx σ [] = τ ∧ Room σ ∧ Ext s σ ∧ σ.n.val ≤ s.n.val + 10 * i ∧ k = a.length - i ∧ i ≤ a.length ∧ a.take i = b.take i ∧ (vv 0).get f = avG a ∧ (vv 1).get f = avG b ∧ (vv 5).get f = .int .i64 (i : Int)) ?_ ⟨0, s, rfl, hr, Ext.refl s, by omega, rfl, by omega, by simp, ?_⟩
    · rintro k f τ ⟨i, σ, rfl, hr1, hx, hn1, rfl, hi, hti, g0, g1, g5⟩
      by_cases c1 : i < a.length
      · have c1' : i < b.length := by omega
        have hx2 : Ext s (Sx σ [.dead, .dead, .dead, .dead, .dead, .dead, .dead, .dead, .dead, .dead]) := hx.trans (ext_Sx hr1 (by simp))
        have hr2 := hr1.Sx (l := [.dead, .dead, .dead, .dead, .dead, .dead, .dead, .dead, .dead, .dead]) (by simp; omega) (by simp)
        have n2 := Sx_n (s := σ) (l := [.dead, .dead, .dead, .dead, .dead, .dead, .dead, .dead, .dead, .dead]) hr1 (by simp)
        simp only [List.length_cons, List.length_nil] at n2
        have la := va.sgLoad c1 hx2
        have lb := vb.sgLoad c1' hx2
        unfold sgC at la lb
        have hga := hal _ (List.getElem_mem c1)
        have hgb := hbl _ (List.getElem_mem c1')
        have f1 := refSame_ok (Sx σ [.dead, .dead, .dead, .dead, .dead, .dead, .dead, .dead, .dead, .dead]) a[i] b[i] (avI a[i].args) (avI b[i].args) hr2 (by omega) (avI_ints _ _ (by omega)) (avI_ints _ _ (by omega))
        simp only [go_sem, ↓reduceIte, Nat.reduceMod, Nat.reduceEqDiff, Nat.reduceAdd, Nat.reduceMul, Nat.reduceSub, Nat.reduceLeDiff, Nat.reduceLT, Int.reduceEq, Int.reduceLT, Int.reduceLE, Int.reduceAdd, Int.reduceSub, Int.reduceNeg, reduceCtorEq, Nat.reduceShiftRight, Nat.reduceAnd, Nat.reduceBNe, g0, g1, g5, va.vlen, Int.ofNat_lt, c1]
        refine W_drawn hr1 _ (by simp) ?_
        by_cases c2 : a[i] = b[i]
        · rw [decide_eq_true c2] at f1
          simp only [go_sem, ↓reduceIte, Nat.reduceMod, Nat.reduceEqDiff, Nat.reduceAdd, Nat.reduceMul, Nat.reduceSub, Nat.reduceLeDiff, Nat.reduceLT, Int.reduceEq, Int.reduceLT, Int.reduceLE, Int.reduceAdd, Int.reduceSub, Int.reduceNeg, reduceCtorEq, Nat.reduceShiftRight, Nat.reduceAnd, Nat.reduceBNe, g0, g1, g5, hr1, va.ia c1, vb.ia c1', la, lb, f1, Bool.not_true]
          refine ⟨a.length - (i + 1), by omega, i + 1, _, Sx_nil _, hr2, hx2, by omega, rfl, by omega, ?_, ?_⟩
          · rw [← List.take_append_getElem c1, ← List.take_append_getElem c1', hti, c2]
          · rw [wrap_i64 (by omega) (by omega)]; congr 1
        · rw [decide_eq_false c2] at f1
          simp only [go_sem, ↓reduceIte, Nat.reduceMod, Nat.reduceEqDiff, Nat.reduceAdd, Nat.reduceMul, Nat.reduceSub, Nat.reduceLeDiff, Nat.reduceLT, Int.reduceEq, Int.reduceLT, Int.reduceLE, Int.reduceAdd, Int.reduceSub, Int.reduceNeg, reduceCtorEq, Nat.reduceShiftRight, Nat.reduceAnd, Nat.reduceBNe, g0, g1, g5, hr1, va.ia c1, vb.ia c1', la, lb, f1, Bool.not_false]
          refine settled_bool hx2 ?_
          rw [eq_comm, decide_eq_false_iff_not]
          intro e; subst e; exact c2 rfl
      · have e : i = a.length := by omega
        subst e
        rw [List.take_length, c0', List.take_length] at hti
        simp only [go_sem, ↓reduceIte, Nat.reduceMod, Nat.reduceEqDiff, Nat.reduceAdd, Nat.reduceMul, Nat.reduceSub, Nat.reduceLeDiff, Nat.reduceLT, Int.reduceEq, Int.reduceLT, Int.reduceLE, Int.reduceAdd, Int.reduceSub, Int.reduceNeg, reduceCtorEq, Nat.reduceShiftRight, Nat.reduceAnd, Nat.reduceBNe, g0, g1, g5, va.vlen, Int.ofNat_lt, c1]
        exact settled_bool hx (by simp [hti])
    · simp only [go_sem, ↓reduceIte, Nat.reduceMod, Nat.reduceEqDiff, Nat.reduceAdd, Nat.reduceMul, Nat.reduceSub, Nat.reduceLeDiff, Nat.reduceLT, Int.reduceEq, Int.reduceLT, Int.reduceLE, Int.reduceAdd, Int.reduceSub, Int.reduceNeg, reduceCtorEq, Nat.reduceShiftRight, Nat.reduceAnd, Nat.reduceBNe]
      rfl
  · simp only [go_sem, ↓reduceIte, Nat.reduceMod, Nat.reduceEqDiff, Nat.reduceAdd, Nat.reduceMul, Nat.reduceSub, Nat.reduceLeDiff, Nat.reduceLT, Int.reduceEq, Int.reduceLT, Int.reduceLE, Int.reduceAdd, Int.reduceSub, Int.reduceNeg, reduceCtorEq, Nat.reduceShiftRight, Nat.reduceAnd, Nat.reduceBNe, va.vlen, vb.vlen, c0, ne_eq, not_false_eq_true]
    refine settled_bool (Ext.refl s) ?_
    rw [eq_comm, decide_eq_false_iff_not]
    intro e; rw [e] at c0; exact c0 rfl
end Go.Proofs.YtjnejkganejdbaaGreat
namespace Go.Proofs.YtjnejkganejdbaaGreat
open Go Go.Vm
theorem bt_sound : SoundCall Tryz.prog fun g a s => g.get BT a s := base_set known_sound (base_set index_sound (base_set all_sound (base_set sigs_sound base_rep)))
theorem ca_sound : SoundCall Tryz.prog CA := cc_sound (Vm.drawn_ok follows) bt_sound
end Go.Proofs.YtjnejkganejdbaaGreat
