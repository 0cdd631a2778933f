/- Functions of the program: no number is chosen. No condition. -/
import Derived.Test.YtfndnjmnakdglaaGreatDoorLibJ
namespace Go.Proofs.YtfndnjmnakdglaaGreatDoor
open Go Go.Vm
set_option linter.unusedVariables false
set_option linter.unusedSimpArgs false
theorem lifts_chok : ChOk liftsX := by
  refine ⟨fun X t m hB => ?_, fun X t hB ht => ?_, fun X t hf => ?_⟩
  · have h0 := hB.n0; have h1 := hB.n1; have h2 := hB.m1; have h3 := hB.h1
    unfold liftsX
    split
    · exact hB.le (by omega)
    · split
      · exact ⟨by simp only [iteX]; omega, by simp only [iteX]; omega, by simp only [iteX, List.length_append, List.length_cons, List.length_nil]; omega, by simp only [iteX, List.length_append, List.length_cons, List.length_nil]; omega⟩
      · exact ⟨by simp only [absX]; omega, by simp only [absX]; omega, by simp only [absX, List.length_append, List.length_cons, List.length_nil]; omega, by simp only [absX, List.length_append, List.length_cons, List.length_nil]; omega⟩
  · have h0 := hB.n0; have h1 := hB.n1
    unfold liftsX
    split
    · exact ht
    · split
      · exact frT_tame t.sort (by omega)
      · exact frT_tame t.sort (by omega)
  · unfold liftsX
    rw [if_pos (by rw [hf]; rfl)]; exact hf
theorem p_mkfn (call : CallT) (f : Fr AV) (s : St) (g : Vm.Id) (p q : List CO) : exop (.mkfn g p q) call f s = .ok (.fn g (evs f p) (evs f q)) s := by kernel_rfl
theorem ch_kids {t : T} (h : isN t = true) (hc : chT t = true) : (t.op = 12 → 3 ≤ t.kids.length) ∧ (t.op ≠ 12 → 1 ≤ t.kids.length) := by
  rw [isN_eq, Bool.and_eq_true] at h
  have hn := h.2
  unfold chT at hc
  have ho : t.op = 12 ∨ t.op = 18 := by
    simp only [Bool.or_eq_true, Bool.and_eq_true, decide_eq_true_eq] at hc
    rcases hc with hc | hc
    · exact .inl hc.1
    · exact .inr hc
  unfold nodeOk at hn
  rw [if_neg (by omega), if_neg (by omega), if_neg (by omega)] at hn
  simp only [Bool.and_eq_true] at hn
  have hk := hn.2.2.1
  refine ⟨fun h12 => ?_, fun h12 => kids1 hk⟩
  rw [h12] at hk
  have := kids12 hk
  omega
theorem lifts_call (s : St) (b : Vm.Id) : ChCall s b liftsX F.lift_Maker_lifts := by
  intro σ hv mv hc mc X cs t h h6 ht hN hB hn
  have h0 := hB.n0; have h1 := hB.n1; have h2 := hB.m1; have h3 := hB.h1
  exact lifts_ok h h6 ht (fun hf hc => ch_kids (hN hf) hc) h0 (by omega) (by omega) (by omega) hn
theorem exk_fz {n m : Nat} (hmn : m ≤ n) {σ : St} {k : Nat} {a : AV} {cs : List AV} (h : ExK σ k a cs) (hi : ∀ i ∈ ids a, n ≤ i.val) (ho : ∀ c ∈ cs, Ov m c) : ∃ f, Fz n σ a f ∧ lenOf f = lenOf a ∧ ∀ s : St, s.n.val = m → IsSl s f ∧ rowOf s f = cs := by
  cases h with
  | nils => exact ⟨.nils, .nils, rfl, fun s _ => ⟨.nils, rfl⟩⟩
  | sl i len _ h h1 h0 hm =>
    refine ⟨.ts cs len len false, .slN i 0 len len k cs cs (hi i (List.mem_singleton.mpr rfl)) h (by simp) (fun j c d e1 e2 => ?_), rfl, fun s hs => ⟨.ts cs len len false hm (by rw [hs]; exact ho), rfl⟩⟩
    rw [List.drop_zero] at e1
    rw [e1] at e2
    injection e2 with e2
    subst e2
    exact (ho c (List.mem_of_getElem? e1)).mono hmn σ
theorem rowsM_ov {s : St} {mc : List AV} {l : List Mn} (h : RowsM s mc l) (hl : mc.length = l.length * 8) : ∀ c ∈ mc, Ov s.n.val c := by
  intro c hc
  obtain ⟨j, hj⟩ := List.getElem?_of_mem hc
  have hj1 := (List.getElem?_eq_some_iff.mp hj).1
  have hq : j / 8 < l.length := by omega
  obtain ⟨cs, rest, e1, e2, e3⟩ := h.el (j / 8) hq
  have e4 : (mc.drop (j / 8 * 8))[j - j / 8 * 8]? = some c := by rw [List.getElem?_drop]; rw [show j / 8 * 8 + (j - j / 8 * 8) = j by omega]; exact hj
  rw [e1] at e4
  have hlt : j - j / 8 * 8 < 8 := by omega
  generalize j - j / 8 * 8 = q at e4 hlt
  cases q with
  | zero => simp at e4; subst e4; exact ov_str _ _
  | succ q =>
    rw [List.getElem?_cons_succ] at e4
    by_cases c6 : q < 6
    · rw [List.getElem?_append_left (by omega)] at e4
      exact rt6_ov e3 c (List.mem_of_getElem? e4)
    · have : q = 6 := by omega
      subst this
      rw [List.getElem?_append_right (by omega), e2] at e4
      simp at e4; subst e4; exact ov_bool _ _
def doneX (next : Int) (t : T) : T × MV := if isT t = true then walkT liftsX t ⟨next, [], false, []⟩ else (t, ⟨next, [], true, []⟩)
theorem fz_done {n : Nat} {s0 : St} {c : List AV} (hov : ∀ x ∈ c, Ov n x) {b : Vm.Id} (hb : n ≤ b.val) {next : Int} {fl : Bool} {hv mv hf mf : AV} (ob : s0.obj b = .cells [.int .i64 next, hv, .bool fl, mv]) (h1 : Fz n s0 hv hf) (h2 : Fz n s0 mv mf) : Fz n s0 (.tup [.agg c, .ptr b 0]) (.tup [.agg c, .tp [.int .i64 next, hf, .bool fl, mf]]) :=
  .tup _ _ rfl (fzl_cons (ov_agg hov s0) (fzl_cons (.ptrN b 0 _ _ hb ob rfl (fzl_cons (.int _ _) (fzl_cons h1 (fzl_cons (.bool _) (fzl_cons h2 (fzl_nil n s0)))))) (fzl_nil n s0)))
theorem mk0_new (s0 s : St) (hx0 : Ext s0 s) (hr : Room s) (c : List AV) (next : Int) (f : Bool) : Mk0 s0 (Sx s [.cells c, .cells zeroC, .cells [.int .i64 next, .nils, .bool f, .nils]]) (nm s 2) .nils .nils [] [] ⟨next, [], f, []⟩ :=
  ⟨hr.sx (by simp), hx0.trans (ext_Sx hr (by simp)), Sx_objD hr (by simp) (by simp), .nils, .nils, ⟨fun i hi => by simp at hi, by simp⟩, rfl, ⟨fun i hi => by simp at hi⟩, rfl, by simp [ids, AV.onSl], fun i hi => by
    have : i = nm s 2 := by simpa [ids, AV.onSl] using hi
    have := hx0.n; rw [‹i = nm s 2›, Sx_n hr (by simp), nm_val hr (by omega)]; simp only [List.length_cons, List.length_nil]; omega⟩
theorem done_ok (s0 s : St) (hx0 : Ext s0 s) (cs : List AV) (t : T) (next : Int) (hr : Room s) (hn : s.n.val + 4000 * t.size ≤ 999999000) (h : RT6 s0 cs t) (htm : t.tame) (h0 : 0 ≤ next) (h1 : next ≤ 899900000) :
    ∃ cs' hf mf, CA F.lift_done [.agg cs, .int .i64 next] s = .ok (.tup [.agg cs', .tp [.int .i64 (doneX next t).2.next, hf, .bool (doneX next t).2.fails, mf]]) s ∧ RT6 s0 cs' (doneX next t).1 ∧ Ts s0 hf (doneX next t).2.holds ∧ IsSl s0 mf ∧ RowsM s0 (rowOf s0 mf) (doneX next t).2.means ∧ lenOf mf = (doneX next t).2.means.length := by
  have hc7 := h
  have hsz := T.size_pos t
  obtain ⟨ng, mg, kv, rfl, hz, hkv⟩ := h.ex
  have o1 := hz.one
  have o2 := hkv.one
  have hx2 := ext_Sx (s := s) (l := [.cells [.int .i64 t.op, ng, mg, .str t.name, .int .i64 t.sort, kv], .cells zeroC]) hr (by simp)
  have fi := Is_tm t htm (Sx s [.cells [.int .i64 t.op, ng, mg, .str t.name, .int .i64 t.sort, kv], .cells zeroC]) _ (hr.sx (by simp)) (by rw [Sx_n hr (by simp)]; simp only [List.length_cons, List.length_nil]; omega) (hc7.x (hx0.trans hx2))
  cases hi : isT t
  · have e : doneX next t = (t, ⟨next, [], true, []⟩) := by unfold doneX; rw [hi]; rfl
    rw [e]
    refine ⟨[.int .i64 t.op, ng, mg, .str t.name, .int .i64 t.sort, kv], .nils, .nils, ?_, hc7, ts_nil s0, .nils, ⟨fun i hi => by simp at hi⟩, rfl⟩
    refine fn_of code_lift_done (by simp) ?_
    simp only [go_sem, ↓reduceIte, Nat.reduceMod, Nat.reduceEqDiff, Nat.reduceAdd, Nat.reduceMul, Nat.reduceSub, Nat.reduceLeDiff, Nat.reduceLT, Int.reduceEq, Int.reduceLT, Int.reduceLE, Int.reduceAdd, Int.reduceSub, Int.reduceNeg, reduceCtorEq, Nat.reduceShiftRight, Nat.reduceAnd, Nat.reduceBNe, hr, fi, hi, o1, o2, Bool.not_false]
    exact settled_fz (ext_Sx hr (by simp)) (fz_done (rt6_ov (hc7.x hx0)) (by rw [nm_val hr (by omega)]; omega) (Sx_objD hr (by simp) (by simp)) .nils .nils)
  · have hsz4 : t.size ≤ 400 ∧ isN t = true := by unfold isT at hi; simpa using hi
    have e : doneX next t = walkT liftsX t ⟨next, [], false, []⟩ := by unfold doneX; rw [hi]; rfl
    rw [e]
    have hM := mk0_new s0 s hx0 hr [.int .i64 t.op, ng, mg, .str t.name, .int .i64 t.sort, kv] next false
    have hn3 : (Sx s [.cells [.int .i64 t.op, ng, mg, .str t.name, .int .i64 t.sort, kv], .cells zeroC, .cells [.int .i64 next, .nils, .bool false, .nils]]).n.val = s.n.val + 3 := by rw [Sx_n hr (by simp)]; simp
    obtain ⟨cs', τ, f1, r1, hv, mv, hc, mc, m1, m2, m3⟩ := walk_ok (b := nm s 2) lifts_chok (lifts_call s0 (nm s 2)) _ t (Nat.le_refl _) hsz4.1 htm _ _ _ _ _ ⟨next, [], false, []⟩ _ hM hc7 (fun _ => hsz4.2) ⟨h0, by simp; omega, by simp; omega, by simp; omega⟩ (by omega)
    generalize hX : (walkT liftsX t ⟨next, [], false, []⟩).2 = X' at *
    generalize hT : (walkT liftsX t ⟨next, [], false, []⟩).1 = u at *
    obtain ⟨ng1, mg1, kv1, rfl, hz1, hk1⟩ := r1.ex
    have p1 : ng1.one = true := by rw [hz1.neg]; rfl
    have p2 := hz1.one.2
    have p3 := hk1.one
    have nv : ∀ k, k < 3 → (nm s k).val = s.n.val + k := fun k hk => nm_val hr (by omega)
    have l1 : (nm s 1).val < τ.n.val := by have := nv 1 (by omega); have := m2.n; omega
    have hm2 := m1.put (c := nm s 1) l1 (by have := nv 1 (by omega); have := hx0.n; omega) (fun hm => by
      have q1 := nv 1 (by omega)
      have q2 := nv 2 (by omega)
      rcases m2.foot _ hm with q | q
      · have : nm s 1 = nm s 2 := by simpa [ids, AV.onSl] using q
        rw [this] at q1; omega
      · omega) (.cells [.int .i64 u.op, ng1, mg1, .str u.name, .int .i64 u.sort, kv1])
    have hge : ∀ i ∈ nm s 2 :: (ids hv ++ ids mv), s.n.val ≤ i.val := fun i hi => by
      rcases m2.foot i hi with q | q
      · have : i = nm s 2 := by simpa [ids, AV.onSl] using q
        rw [this, nv 2 (by omega)]; omega
      · omega
    have hxs : Ext s (τ.put (nm s 1) (.cells [.int .i64 u.op, ng1, mg1, .str u.name, .int .i64 u.sort, kv1])) := by
      refine ⟨by rw [put_n]; have := m2.n; omega, fun c hc => ?_⟩
      rw [St.obj_put, if_neg (fun e => by rw [e, nv 1 (by omega)] at hc; omega), m2.old c (fun hm => by
        have : c = nm s 2 := by simpa [ids, AV.onSl] using hm
        rw [this, nv 2 (by omega)] at hc; omega) (by omega)]
      exact Sx_old hr (by simp) hc
    obtain ⟨hf, z1, z2, z3⟩ := exk_fz (n := s.n.val) hx0.n hm2.hh (fun i hi => hge i (by simp [hi])) hm2.hr.ov
    obtain ⟨mf, y1, y2, y3⟩ := exk_fz (n := s.n.val) hx0.n hm2.hm (fun i hi => hge i (by simp [hi])) (rowsM_ov hm2.mr (by rw [hm2.hm.len, hm2.ml]))
    obtain ⟨z4, z5⟩ := z3 s0 rfl
    obtain ⟨y4, y5⟩ := y3 s0 rfl
    have hl6 := m1.hh.len
    refine ⟨_, hf, mf, ?_, r1, rows6_ts (Ext.refl s0) z4 (by rw [z2, m1.hl]) (by rw [z5, hl6, m1.hl]; omega) (by rw [z5, ← m1.hl, ← hl6, List.take_length]; exact m1.hr), y4, by rw [y5]; exact m1.mr, by rw [y2, m1.ml]⟩
    have hrt := m1.room
    have w1 : τ.obj (nm s 1) = .cells zeroC := by
      rw [m2.old (nm s 1) (by
        simp only [ids, AV.onSl, List.append_nil, List.mem_singleton]
        intro e; have := nv 1 (by omega); have := nv 2 (by omega); rw [e] at *; omega) (by have := nv 1 (by omega); omega)]
      exact Sx_objD hr (by simp) (by simp)
    rw [← Sx_nil τ] at f1
    refine fn_of code_lift_done (by simp) ?_
    simp only [go_sem, ↓reduceIte, Nat.reduceMod, Nat.reduceEqDiff, Nat.reduceAdd, Nat.reduceMul, Nat.reduceSub, Nat.reduceLeDiff, Nat.reduceLT, Int.reduceEq, Int.reduceLT, Int.reduceLE, Int.reduceAdd, Int.reduceSub, Int.reduceNeg, reduceCtorEq, Nat.reduceShiftRight, Nat.reduceAnd, Nat.reduceBNe, hr, fi, hi, o1, o2, Bool.not_true, p_mkfn, f1, hrt, w1, l1, p1, p2, p3]
    rw [Sx_nil]
    exact settled_fz hxs (fz_done (rt6_ov (r1.x hx0)) (by have := nv 2 (by omega); omega) hm2.ob z1 y1)
end Go.Proofs.YtfndnjmnakdglaaGreatDoor
namespace Go.Proofs.YtfndnjmnakdglaaGreatDoor
open Go Go.Vm
set_option linter.unusedVariables false
set_option linter.unusedSimpArgs false
theorem ov_tup3 {n : Nat} {a b c : AV} (h1 : Ov n a) (h2 : Ov n b) (h3 : Ov n c) : Ov n (.tup [a, b, c]) := ov_tup (by intro x hx; simp at hx; rcases hx with rfl | rfl | rfl <;> assumption)
theorem Told_ok (s : St) (hr : Room s) {cs ds : List AV} {t u : T} (h1 : RT6 s cs t) (h2 : RT6 s ds u) {hf mf : AV} {l : List T} (h3 : Ts s hf l) (n' next : Int) (fl : Bool) : CA F.lift_Maker_Told [.tp [.int .i64 n', hf, .bool fl, mf], .agg cs, .agg ds, .int .i64 next] s = .ok (if fl = true then .tup [.agg cs, .nils, .int .i64 next] else .tup [.agg ds, hf, .int .i64 n']) s := by
  have v1 := rt6_ov h1
  have v2 := rt6_ov h2
  obtain ⟨ng1, mg1, kv1, rfl, hz1, hk1⟩ := h1.ex
  obtain ⟨ng2, mg2, kv2, rfl, hz2, hk2⟩ := h2.ex
  have a1 := hz1.one
  have a2 := hk1.one
  have a3 := hz2.one
  have a4 := hk2.one
  have a5 := h3.one
  refine fn_of code_lift_Maker_Told (by simp) ?_
  cases fl
  · simp only [go_sem, ↓reduceIte, Nat.reduceMod, Nat.reduceEqDiff, Nat.reduceAdd, Nat.reduceMul, Nat.reduceSub, Nat.reduceLeDiff, Nat.reduceLT, Int.reduceEq, Int.reduceLT, Int.reduceLE, Int.reduceAdd, Int.reduceSub, Int.reduceNeg, reduceCtorEq, Nat.reduceShiftRight, Nat.reduceAnd, Nat.reduceBNe, hr, a1, a2, a3, a4, a5, List.drop_succ_cons, List.drop_zero]
    refine W_drawn hr _ (by simp) ?_
    simp only [List.nil_append, List.cons_append, List.length_nil, List.length_cons, List.replicate_succ, List.replicate_zero, Nat.reduceAdd]
    simp only [go_sem, ↓reduceIte, Nat.reduceMod, Nat.reduceEqDiff, Nat.reduceAdd, Nat.reduceMul, Nat.reduceSub, Nat.reduceLeDiff, Nat.reduceLT, Int.reduceEq, Int.reduceLT, Int.reduceLE, Int.reduceAdd, Int.reduceSub, Int.reduceNeg, reduceCtorEq, Nat.reduceShiftRight, Nat.reduceAnd, Nat.reduceBNe, hr, a1, a2, a3, a4, a5, List.drop_succ_cons, List.drop_zero]
    exact settled_ov (ext_Sx hr (by simp)) (ov_tup3 (ov_agg v2) h3.sl.ov (ov_int _ _ _))
  · simp only [go_sem, ↓reduceIte, Nat.reduceMod, Nat.reduceEqDiff, Nat.reduceAdd, Nat.reduceMul, Nat.reduceSub, Nat.reduceLeDiff, Nat.reduceLT, Int.reduceEq, Int.reduceLT, Int.reduceLE, Int.reduceAdd, Int.reduceSub, Int.reduceNeg, reduceCtorEq, Nat.reduceShiftRight, Nat.reduceAnd, Nat.reduceBNe, hr, a1, a2, a3, a4, a5, List.drop_succ_cons, List.drop_zero]
    exact settled_ov (ext_Sx hr (by simp)) (ov_tup3 (ov_agg v1) (ov_nils _) (ov_int _ _ _))
def doX (next : Int) (t : T) : T × List T × Int := if (doneX next t).2.fails = true then (t, [], next) else ((doneX next t).1, (doneX next t).2.holds, (doneX next t).2.next)
theorem Do_ok (s0 s : St) (hx0 : Ext s0 s) (cs : List AV) (t : T) (next : Int) (hr : Room s) (hn : s.n.val + 4000 * t.size ≤ 999998000) (h : RT6 s0 cs t) (htm : t.tame) (h0 : 0 ≤ next) (h1 : next ≤ 899900000) :
    ∃ ng mg kv hf, CA F.lift_Do [.agg cs, .int .i64 next] s = .ok (.tup [.agg [.int .i64 (doX next t).1.op, ng, mg, .str (doX next t).1.name, .int .i64 (doX next t).1.sort, kv], hf, .int .i64 (doX next t).2.2]) s ∧ RT6 s0 [.int .i64 (doX next t).1.op, ng, mg, .str (doX next t).1.name, .int .i64 (doX next t).1.sort, kv] (doX next t).1 ∧ Ts s0 hf (doX next t).2.1 := by
  have hc7 := h
  obtain ⟨ng, mg, kv, rfl, hz, hkv⟩ := h.ex
  have o1 := hz.one
  have o2 := hkv.one
  have v1 := rt6_ov hc7
  have e1 := ext_Sx (s := s) (l := [.cells [.int .i64 t.op, ng, mg, .str t.name, .int .i64 t.sort, kv], .cells zeroC]) hr (by simp)
  obtain ⟨cs', hf, mf, f1, r1, r2, r3, r4, r5⟩ := done_ok s0 (Sx s [.cells [.int .i64 t.op, ng, mg, .str t.name, .int .i64 t.sort, kv], .cells zeroC]) (hx0.trans e1) _ t next (hr.sx (by simp)) (by rw [Sx_n hr (by simp)]; simp only [List.length_cons, List.length_nil]; omega) hc7 htm h0 h1
  obtain ⟨ng1, mg1, kv1, rfl, hz1, hk1⟩ := r1.ex
  have a1 := hz1.one
  have a2 := hk1.one
  have a3 := r2.one
  have e2 := ext_Sx (s := s) (l := [.cells [.int .i64 t.op, ng, mg, .str t.name, .int .i64 t.sort, kv], .cells zeroC, .cells [.int .i64 (doneX next t).1.op, ng1, mg1, .str (doneX next t).1.name, .int .i64 (doneX next t).1.sort, kv1]]) hr (by simp)
  have f2 := Told_ok (Sx s [.cells [.int .i64 t.op, ng, mg, .str t.name, .int .i64 t.sort, kv], .cells zeroC, .cells [.int .i64 (doneX next t).1.op, ng1, mg1, .str (doneX next t).1.name, .int .i64 (doneX next t).1.sort, kv1]]) (hr.sx (by simp)) (hc7.x (hx0.trans e2)) (r1.x (hx0.trans e2)) (r2.x (hx0.trans e2)) (mf := mf) (doneX next t).2.next next (doneX next t).2.fails
  have hmf : mf.one = true := by cases r3 <;> rfl
  unfold doX
  cases hfl : (doneX next t).2.fails
  · rw [hfl] at f2 f1
    simp only [Bool.false_eq_true, ↓reduceIte] at f2 ⊢
    refine ⟨ng1, mg1, kv1, hf, ?_, r1, r2⟩
    refine fn_of code_lift_Do (by simp) ?_
    simp only [go_sem, ↓reduceIte, Nat.reduceMod, Nat.reduceEqDiff, Nat.reduceAdd, Nat.reduceMul, Nat.reduceSub, Nat.reduceLeDiff, Nat.reduceLT, Int.reduceEq, Int.reduceLT, Int.reduceLE, Int.reduceAdd, Int.reduceSub, Int.reduceNeg, reduceCtorEq, Nat.reduceShiftRight, Nat.reduceAnd, Nat.reduceBNe, hr, o1, o2, f1, a1, a2, a3, hmf, f2]
    exact settled_ov (ext_Sx hr (by simp)) (ov_tup3 (ov_agg (rt6_ov (r1.x hx0))) (r2.x hx0).sl.ov (ov_int _ _ _))
  · rw [hfl] at f2 f1
    simp only [↓reduceIte] at f2 ⊢
    refine ⟨ng, mg, kv, .nils, ?_, hc7, ts_nil s0⟩
    refine fn_of code_lift_Do (by simp) ?_
    simp only [go_sem, ↓reduceIte, Nat.reduceMod, Nat.reduceEqDiff, Nat.reduceAdd, Nat.reduceMul, Nat.reduceSub, Nat.reduceLeDiff, Nat.reduceLT, Int.reduceEq, Int.reduceLT, Int.reduceLE, Int.reduceAdd, Int.reduceSub, Int.reduceNeg, reduceCtorEq, Nat.reduceShiftRight, Nat.reduceAnd, Nat.reduceBNe, hr, o1, o2, f1, a1, a2, a3, hmf, f2]
    exact settled_ov (ext_Sx hr (by simp)) (ov_tup3 (ov_agg (rt6_ov (hc7.x hx0))) (ov_nils _) (ov_int _ _ _))
end Go.Proofs.YtfndnjmnakdglaaGreatDoor
namespace Go.Proofs.YtfndnjmnakdglaaGreatDoor
open Go Go.Vm
set_option linter.unusedVariables false
set_option linter.unusedSimpArgs false
theorem isT_kids {t : T} (h : isN t = true) (hs : t.size ≤ 400) : t.kids.all isT = true := by
  rw [isN_eq, isNs_all, Bool.and_eq_true, List.all_eq_true] at h
  rw [List.all_eq_true]
  intro u hu
  have h1 := h.1 u hu
  obtain ⟨i, hi, rfl⟩ := List.getElem_of_mem hu
  have := T.size_at hi
  have := T.size_kids t
  unfold isT
  rw [h1, Bool.and_true]; simpa using (by omega : t.kids[i].size ≤ 400)
theorem pure_make {t : T} (h : isN t = true) (hs : t.size ≤ 400) (ho : t.op ≠ 4) (hk : t.kids ≠ []) : makeE t.op t.kids = 0 ∧ makeT t.op t.kids = t := by
  have hkt := isT_kids h hs
  have hsk := T.size_kids t
  rw [isN_eq, Bool.and_eq_true] at h
  have h2 := h.2
  unfold nodeOk at h2
  split at h2
  · simp only [Bool.and_eq_true, decide_eq_true_eq] at h2; exact absurd h2.2.2.2 hk
  · split at h2
    · simp only [Bool.and_eq_true, decide_eq_true_eq] at h2; exact absurd h2.2.2 hk
    · simp only [Bool.and_eq_true, decide_eq_true_eq] at h2
      obtain ⟨g1, g2, g3, g4, g5⟩ := h2
      have he : makeE t.op t.kids = 0 := by
        unfold makeE
        rw [if_neg (by rw [g1]; simp), if_neg (by rw [g3]; simp), if_neg (by rw [hkt]; simp), check_le, if_neg (by rw [g4]; simp), if_neg (by omega)]
      refine ⟨he, ?_⟩
      unfold makeT
      rw [if_pos he]
      unfold plainB at g2
      simp only [Bool.and_eq_true, decide_eq_true_eq, Bool.not_eq_true'] at g2
      refine T.ext' rfl ?_ g2.2.symm g5.symm rfl
      show (⟨false, []⟩ : Z) = t.n
      rw [← g2.1.1, ← g2.1.2]
theorem pure_app {t : T} (h : isN t = true) (hs : t.size ≤ 400) (ho : t.op = 4) : appE ⟨t.name, t.kids.map T.sort, t.sort⟩ t.kids = 0 ∧ appT ⟨t.name, t.kids.map T.sort, t.sort⟩ t.kids = t := by
  have hkt := isT_kids h hs
  have hsk := T.size_kids t
  rw [isN_eq, Bool.and_eq_true] at h
  have h2 := h.2
  unfold nodeOk at h2
  rw [if_neg (by omega), if_neg (by omega), if_pos ho] at h2
  simp only [Bool.and_eq_true, decide_eq_true_eq, Bool.not_eq_true'] at h2
  have he : appE ⟨t.name, t.kids.map T.sort, t.sort⟩ t.kids = 0 := by
    unfold appE
    rw [if_neg (by rw [h2.2.2]; simp), if_neg (by simp), if_neg (by rw [hkt]; simp), if_neg (by simp), if_neg (by omega)]
  refine ⟨he, ?_⟩
  unfold appT
  rw [if_pos he]
  refine T.ext' ho.symm ?_ rfl rfl rfl
  show (⟨false, []⟩ : Z) = t.n
  rw [← h2.1, ← h2.2.1]
theorem walk_pure {ch : MV → T → T × MV} {p : T → Bool} (hp : ∀ X t, p t = false → ch X t = (t, X)) : ∀ (n : Nat), (∀ (t : T), t.size ≤ n → t.size ≤ 400 → isN t = true → anyT p t = false → ∀ X : MV, X.fails = false → walkT ch t X = (t, X)) ∧
    (∀ (l : List T), T.sizes l ≤ n → T.sizes l ≤ 400 → isNs l = true → anyTs p l = false → ∀ X : MV, X.fails = false → walkTs ch l X = (l, X)) := by
  intro n
  induction n with
  | zero =>
    refine ⟨fun t ht => by have := T.size_pos t; omega, fun l hl _ _ _ X _ => ?_⟩
    have hlen := T.length_le l
    have e : l = [] := List.eq_nil_of_length_eq_zero (by omega)
    subst e
    rfl
  | succ n ih =>
    have h1 : ∀ (t : T), t.size ≤ n + 1 → t.size ≤ 400 → isN t = true → anyT p t = false → ∀ X : MV, X.fails = false → walkT ch t X = (t, X) := by
      intro t ht h4 hN ha X hf
      have hs := T.size_kids t
      rw [anyT_eq, Bool.or_eq_false_iff] at ha
      rw [walkT_eq]
      by_cases c : t.kids = []
      · rw [if_pos (.inl c)]; exact hp X t ha.1
      · rw [if_neg (by rintro (h | h); exact c h; rw [hf] at h; cases h)]
        have hNs : isNs t.kids = true := by rw [isN_eq, Bool.and_eq_true] at hN; exact hN.1
        rw [ih.2 t.kids (by omega) (by omega) hNs ha.2 X hf]
        by_cases c4 : t.op ≠ 4
        · rw [if_pos c4]
          obtain ⟨e1, e2⟩ := pure_make hN h4 c4 c
          show ch (mkX X t.op t.kids) (makeT t.op t.kids) = _
          rw [e2, hp _ t ha.1]
          unfold mkX
          rw [e1, hf]; simp only [ne_eq, not_true_eq_false, decide_false, Bool.or_false]
          rw [← hf]
        · rw [if_neg c4]
          obtain ⟨e1, e2⟩ := pure_app hN h4 (by omega)
          show ch {X with fails := X.fails || decide (appE ⟨t.name, t.kids.map T.sort, t.sort⟩ t.kids ≠ 0)} (appT ⟨t.name, t.kids.map T.sort, t.sort⟩ t.kids) = _
          rw [e2, hp _ t ha.1, e1, hf]; simp only [ne_eq, not_true_eq_false, decide_false, Bool.or_false]
          rw [← hf]
    refine ⟨h1, fun l hl h4 hN ha X hf => ?_⟩
    induction l with
    | nil => rfl
    | cons a l ihl =>
      simp only [T.sizes] at hl h4
      simp only [isNs, Bool.and_eq_true] at hN
      simp only [anyTs, Bool.or_eq_false_iff] at ha
      simp only [walkTs]
      rw [h1 a (by omega) (by omega) hN.1 ha.1 X hf]
      show (a :: (walkTs ch l X).1, (walkTs ch l X).2) = _
      rw [ihl (by omega) (by omega) hN.2 ha.2]
theorem lifts_pure (X : MV) (t : T) (h : chT t = false) : liftsX X t = (t, X) := by unfold liftsX; rw [if_pos (by rw [h]; simp)]
theorem doneX_pure {t : T} (h : isT t = true) (hp : anyT chT t = false) (next : Int) : doneX next t = (t, ⟨next, [], false, []⟩) := by
  have hs : t.size ≤ 400 ∧ isN t = true := by unfold isT at h; simpa using h
  unfold doneX
  rw [if_pos h]
  exact (walk_pure lifts_pure _).1 t (Nat.le_refl _) hs.1 hs.2 hp _ rfl
theorem doX_pure {t : T} (h : isT t = true) (hp : anyT chT t = false) (next : Int) : doX next t = (t, [], next) := by
  unfold doX
  rw [doneX_pure h hp]; rfl
theorem resSort_map {op : Int} {l m : List T} (h : l.map T.sort = m.map T.sort) : resSort op l = resSort op m := by
  unfold resSort
  have : (l[1]?).map T.sort = (m[1]?).map T.sort := by rw [← List.getElem?_map, ← List.getElem?_map, h]
  rw [this]
theorem isT_of {t : T} (h1 : isN t = true) (h2 : t.size ≤ 400) : isT t = true := by unfold isT; rw [h1, Bool.and_true]; simpa using h2
theorem dec_dig (n : Nat) : ∀ x ∈ Lib.decDigits n, isDig x = true := by
  induction n using Nat.strongRecOn with
  | ind n ih =>
    by_cases h : n < 10
    · rw [dec_small h]
      intro x hx
      rw [List.mem_singleton.mp hx]
      unfold isDig
      have : (UInt8.ofNat (48 + n)).toNat = 48 + n := by simp; omega
      rw [this]; simp; omega
    · rw [dec_big h]
      intro x hx
      rcases List.mem_append.mp hx with hx | hx
      · exact ih _ (by omega) x hx
      · rw [List.mem_singleton.mp hx]
        unfold isDig
        have : (UInt8.ofNat (48 + n % 10)).toNat = 48 + n % 10 := by simp; omega
        rw [this]; simp; omega
theorem fr_sym {n : Nat} (h : n < 1000000000) : symOk (frName n) = true := by
  have hl := fr_len h
  unfold symOk frName
  have h1 : (33 :: Lib.decDigits n).all isLet = true := by
    rw [List.all_cons, List.all_eq_true.mpr (fun x hx => by unfold isLet; rw [dec_dig n x hx]; rfl)]
    decide
  rw [h1]
  simp only [List.length_cons, List.getElem?_cons_zero, Option.map_some, Option.getD_some]
  have : isDig 33 = false := by decide
  rw [this]
  simp; omega
theorem fr_isT {n : Nat} (h : n < 1000000000) {k : Int} (hk : sortB k = true) : isT (frT n k) = true := by
  refine isT_of ?_ (by simp [frT, T.size, T.sizes])
  rw [isN_eq]
  show (true && nodeOk (frT n k)) = true
  unfold nodeOk frT
  rw [if_neg (by simp [T.op]), if_neg (by simp [T.op]), if_pos (by simp [T.op])]
  simp [T.n, T.name, T.sort, T.kids, sigOk, fr_sym h, hk]
theorem fr_pure (n : Nat) (k : Int) : anyT chT (frT n k) = false := by
  rw [anyT_eq]
  simp [frT, T.kids, anyTs, chT, T.op]
end Go.Proofs.YtfndnjmnakdglaaGreatDoor
namespace Go.Proofs.YtfndnjmnakdglaaGreatDoor
open Go Go.Vm
set_option linter.unusedVariables false
set_option linter.unusedSimpArgs false
theorem isT_app {g : Sg} {l : List T} (h : appE g l = 0) : isT (appT g l) = true := by
  refine isT_of (isN_appT h) ?_
  unfold appT
  rw [if_pos h]
  unfold appE at h
  have hs : (T.mk 4 ⟨false, []⟩ g.name g.ret l).size = 1 + T.sizes l := T.size_kids _
  rw [hs]
  apply Decidable.byContradiction
  intro hc
  by_cases c1 : sigOk g = false
  · rw [if_pos c1] at h; omega
  rw [if_neg c1] at h
  by_cases c2 : l.length ≠ g.args.length
  · rw [if_pos c2] at h; omega
  rw [if_neg c2] at h
  by_cases c3 : l.all isT = false
  · rw [if_pos c3] at h; omega
  rw [if_neg c3] at h
  by_cases c4 : l.map T.sort ≠ g.args
  · rw [if_pos c4] at h; omega
  rw [if_neg c4, if_pos (by omega)] at h; omega
structure Rel (R : MV → MV → Prop) : Prop where
  refl : ∀ X, R X X
  trans : ∀ X Y Z, R X Y → R Y Z → R X Z
  fl : ∀ (X : MV) (c : Bool), R X {X with fails := c}
theorem walk_goes {ch : MV → T → T × MV} {p : T → Bool} {R : MV → MV → Prop} (hR : Rel R) (hch : ChOk ch)
    (hg : ∀ X t, isT t = true → t.tame → Bud X 1 → anyTs p t.kids = false → (ch X t).2.fails = false → isT (ch X t).1 = true ∧ (ch X t).1.sort = t.sort ∧ anyT p (ch X t).1 = false ∧ R X (ch X t).2) :
    ∀ (n : Nat), (∀ (t : T), t.size ≤ n → t.size ≤ 400 → t.tame → isN t = true → ∀ (X : MV), Bud X t.size → (walkT ch t X).2.fails = false → isT (walkT ch t X).1 = true ∧ (walkT ch t X).1.sort = t.sort ∧ anyT p (walkT ch t X).1 = false ∧ R X (walkT ch t X).2) ∧
    (∀ (l : List T), T.sizes l ≤ n → T.sizes l ≤ 400 → T.tames l → isNs l = true → ∀ (X : MV), Bud X (T.sizes l) → (walkTs ch l X).2.fails = false → (walkTs ch l X).1.map T.sort = l.map T.sort ∧ anyTs p (walkTs ch l X).1 = false ∧ R X (walkTs ch l X).2) := by
  have hfl : ∀ X t, (ch X t).2.fails = false → X.fails = false := fun X t h => by
    cases hx : X.fails
    · rfl
    · rw [hch.fails X t hx] at h; cases h
  intro n
  induction n with
  | zero =>
    refine ⟨fun t ht => by have := T.size_pos t; omega, fun l hl _ _ _ X _ _ => ?_⟩
    have hlen := T.length_le l
    have e : l = [] := List.eq_nil_of_length_eq_zero (by omega)
    subst e
    exact ⟨rfl, rfl, hR.refl X⟩
  | succ n ih =>
    have h1 : ∀ (t : T), t.size ≤ n + 1 → t.size ≤ 400 → t.tame → isN t = true → ∀ (X : MV), Bud X t.size → (walkT ch t X).2.fails = false → isT (walkT ch t X).1 = true ∧ (walkT ch t X).1.sort = t.sort ∧ anyT p (walkT ch t X).1 = false ∧ R X (walkT ch t X).2 := by
      intro t ht h4 htm hN X hB hf
      have hs := T.size_kids t
      have hNs : isNs t.kids = true := by rw [isN_eq, Bool.and_eq_true] at hN; exact hN.1
      have hkt := (T.tame_kids htm).2
      rw [walkT_eq] at hf ⊢
      by_cases c : t.kids = []
      · rw [if_pos (.inl c)] at hf ⊢
        exact hg X t (isT_of hN h4) htm (hB.le (by omega)) (by rw [c]; rfl) hf
      · by_cases hXf : X.fails = true
        · rw [if_pos (.inr hXf)] at hf ⊢
          rw [hch.fails X t hXf] at hf; cases hf
        · rw [if_neg (by rintro (h | h); exact c h; exact hXf h)] at hf ⊢
          obtain ⟨q1, q2, q3⟩ := (walk_plain hch _).2 t.kids (Nat.le_refl _) hkt X 1 (hB.le (by omega))
          have hI := ih.2 t.kids (by omega) (by omega) hkt hNs X (hB.le (by omega))
          generalize hwl : (walkTs ch t.kids X).1 = wl at *
          generalize hwX : (walkTs ch t.kids X).2 = XW at *
          by_cases c4 : t.op ≠ 4
          · rw [if_pos c4] at hf ⊢
            have hm := hfl _ _ hf
            simp only [Bool.or_eq_false_iff, decide_eq_false_iff_not, Decidable.not_not] at hm
            obtain ⟨i1, i2, i3⟩ := hI hm.1
            have hmk : makeT t.op wl = .mk t.op ⟨false, []⟩ [] (resSort t.op wl) wl := by unfold makeT; rw [if_pos hm.2]
            have hso : (makeT t.op wl).sort = t.sort := by
              have hp := (pure_make hN h4 c4 c).2
              have hmk2 : makeT t.op t.kids = .mk t.op ⟨false, []⟩ [] (resSort t.op t.kids) t.kids := by unfold makeT; rw [if_pos (pure_make hN h4 c4 c).1]
              rw [hmk2] at hp
              rw [hmk]
              show resSort t.op wl = _
              rw [resSort_map i1, ← hp]; rfl
            obtain ⟨g1, g2, g3, g4⟩ := hg (mkX XW t.op wl) (makeT t.op wl) (by rw [hmk]; exact isT_make hm.2) (makeT_tame q2) (bud_mk q1 _ _) (by rw [hmk]; exact i2) hf
            exact ⟨g1, g2.trans hso, g3, hR.trans _ _ _ i3 (hR.trans _ _ _ (hR.fl XW _) g4)⟩
          · rw [if_neg c4] at hf ⊢
            have hm := hfl _ _ hf
            simp only [Bool.or_eq_false_iff, decide_eq_false_iff_not, Decidable.not_not] at hm
            obtain ⟨i1, i2, i3⟩ := hI hm.1
            have hmk : appT ⟨t.name, t.kids.map T.sort, t.sort⟩ wl = .mk 4 ⟨false, []⟩ t.name t.sort wl := by unfold appT; rw [if_pos hm.2]
            obtain ⟨g1, g2, g3, g4⟩ := hg {XW with fails := XW.fails || decide (appE ⟨t.name, t.kids.map T.sort, t.sort⟩ wl ≠ 0)} (appT ⟨t.name, t.kids.map T.sort, t.sort⟩ wl) (isT_app hm.2) (appT_tame q2 (T.tame_name htm)) (bud_fl q1 _) (by rw [hmk]; exact i2) hf
            exact ⟨g1, g2.trans (by rw [hmk]; rfl), g3, hR.trans _ _ _ i3 (hR.trans _ _ _ (hR.fl XW _) g4)⟩
    refine ⟨h1, fun l hl h4 htm hN X hB hf => ?_⟩
    induction l generalizing X with
    | nil => exact ⟨rfl, rfl, hR.refl X⟩
    | cons a l ihl =>
      simp only [T.sizes] at hl h4 hB
      simp only [isNs, Bool.and_eq_true] at hN
      simp only [walkTs] at hf ⊢
      have hpl := (walk_plain hch _).1 a (Nat.le_refl _) htm.1 X (T.sizes l) (hB.le (by omega))
      have hp2 := (walk_plain hch _).2 l (Nat.le_refl _) htm.2 (walkT ch a X).2 0 (hpl.1.le (by omega))
      have hfa : (walkT ch a X).2.fails = false := by
        cases hx : (walkT ch a X).2.fails
        · rfl
        · rw [hp2.2.2 hx] at hf; cases hf
      obtain ⟨a1, a2, a3, a4⟩ := h1 a (by omega) (by omega) htm.1 hN.1 X (hB.le (by omega)) hfa
      obtain ⟨b1, b2, b3⟩ := ihl (by omega) (by omega) htm.2 hN.2 (walkT ch a X).2 hpl.1 hf
      refine ⟨by rw [List.map_cons, List.map_cons, a2, b1], by simp only [anyTs]; rw [a3, b2]; rfl, hR.trans _ _ _ a4 b3⟩
def R2 (X Y : MV) : Prop := X.next ≤ Y.next ∧ (Y.holds.length : Int) = X.holds.length + 2 * (Y.next - X.next)
theorem R2_rel : Rel R2 := ⟨fun X => ⟨Int.le_refl _, by omega⟩, fun X Y Z h k => ⟨by have := h.1; have := k.1; omega, by have := h.2; have := k.2; omega⟩, fun X c => ⟨Int.le_refl _, by simp⟩⟩
theorem lifts_goes (X : MV) (t : T) (h : isT t = true) (ht : t.tame) (hB : Bud X 1) (hk : anyTs chT t.kids = false) (hf : (liftsX X t).2.fails = false) : isT (liftsX X t).1 = true ∧ (liftsX X t).1.sort = t.sort ∧ anyT chT (liftsX X t).1 = false ∧ R2 X (liftsX X t).2 := by
  have h0 := hB.n0; have h1 := hB.n1
  have hX : X.fails = false := by
    cases hx : X.fails
    · rfl
    · rw [lifts_chok.fails X t hx] at hf; cases hf
  cases hc : chT t
  · rw [lifts_pure X t hc]
    exact ⟨h, rfl, by rw [anyT_eq, hc, hk]; rfl, R2_rel.refl X⟩
  · have hs2 : t.size ≤ 400 ∧ isN t = true := by unfold isT at h; simpa using h
    have hb := isN_sort _ t (Nat.le_refl _) hs2.2
    unfold liftsX
    rw [if_neg (by rw [hX, hc]; simp)]
    split
    · exact ⟨fr_isT (by omega) hb, rfl, fr_pure _ _, ⟨by simp only [iteX]; omega, by simp only [iteX, List.length_append, List.length_cons, List.length_nil]; omega⟩⟩
    · exact ⟨fr_isT (by omega) hb, rfl, fr_pure _ _, ⟨by simp only [absX]; omega, by simp only [absX, List.length_append, List.length_cons, List.length_nil]; omega⟩⟩
theorem doX_goes {t : T} (h : isT t = true) (ht : t.tame) {next : Int} (h0 : 0 ≤ next) (h1 : next ≤ 1000000) : doX next t = (t, [], next) ∨ (isT (doX next t).1 = true ∧ (doX next t).1.tame ∧ (doX next t).1.sort = t.sort ∧ anyT chT (doX next t).1 = false ∧ next ≤ (doX next t).2.2 ∧ (doX next t).2.2 ≤ 899800000 ∧ ((doX next t).2.1.length : Int) = 2 * ((doX next t).2.2 - next)) := by
  have hs : t.size ≤ 400 ∧ isN t = true := by unfold isT at h; simpa using h
  have hB : ∀ m, m ≤ 100000 → Bud ⟨next, [], false, []⟩ (m + t.size) := fun m hm => ⟨h0, by simp; omega, by simp; omega, by simp; omega⟩
  unfold doX
  by_cases hf : (doneX next t).2.fails = true
  · rw [if_pos hf]; exact .inl rfl
  · rw [if_neg hf]
    refine .inr ?_
    have e : doneX next t = walkT liftsX t ⟨next, [], false, []⟩ := by unfold doneX; rw [if_pos h]
    rw [e] at hf ⊢
    have hf' : (walkT liftsX t ⟨next, [], false, []⟩).2.fails = false := by simpa using hf
    obtain ⟨g1, g2, g3, g4⟩ := (walk_goes R2_rel lifts_chok lifts_goes _).1 t (Nat.le_refl _) hs.1 ht hs.2 _ ((hB 0 (by omega)).le (by omega)) hf'
    obtain ⟨q1, q2, q3⟩ := (walk_plain lifts_chok _).1 t (Nat.le_refl _) ht _ 100000 (hB 100000 (by omega))
    refine ⟨g1, q2, g2, g3, g4.1, by show (walkT liftsX t ⟨next, [], false, []⟩).2.next ≤ _; have := q1.n1; omega, by have := g4.2; simpa using this⟩
end Go.Proofs.YtfndnjmnakdglaaGreatDoor
