/- The abstract machine is sound: appending, the operation. No condition. -/
import Derived.Test.YtjnejkganejdbaaVmP
namespace Go.Vm
set_option linter.unusedVariables false
variable {P : Program}
section
variable {E : Env} {w : World} {nt : Nat} {f : Fr AV} {a : Act} {s s' : St} {r : AV} {call : CallT} {n n' : Nat} {o : Oper} {x y z : Operand} {cx cy cz : CO}
theorem run_app {t tx : TypeId} {cl : Call} (ho : o.op = .call cl) (hb : cl.callee = .builtin .append) (ha : cl.args.toList = [x, y]) (hat : cl.argTypes.toList = [t, tx]) {v : Value} {w' : World}
    (h : (Builtin.append_ #[t, tx] o.type #[a.eval x, a.eval y]).run P w = .ok v w') : (execOp a.eval o).run P w = .ok (.value v) w' := by
  simp [execOp, ho, resolve, hb, arr2 ha, arr2 hat, invoke, builtin, h]
theorem s_app {t tx e : TypeId} {i : TypeInfo} {l : List AV} {cl : Call} (ht : P.underlying t = some (.slice e)) (hi : P.info? e = some i) (hz : zeroAt P e = some l) (hk : (∃ e', P.underlying tx = some (.slice e')) ∨ P.underlying tx = some .string)
    (ho : o.op = .call cl) (hb : cl.callee = .builtin .append) (ha : cl.args.toList = [x, y]) (hat : cl.argTypes.toList = [t, tx]) (hx : cod x = some cx) (hy : cod y = some cy) (rf : RF E w nt f a) (rh : RelH s.obj E w) (hf : ¬ E.D s.n)
    (h : opApp i.size i.bytes cx cy call f s = .ok r s') : s.n.val ≤ s'.n.val ∧ Out P (execOp a.eval o) s.n.val s'.n.val s.obj E w r s'.obj := by
  obtain ⟨i', zv, hi', hzv, hpos, hll, hrow⟩ := zeroAt_ok hz
  rw [hi] at hi'; cases hi'
  have hzs : zv.cells.size = i.size := by rw [← hll, ← (hrow E w).1.len, Array.length_toList]
  have h1 := cod_rv hx rf
  have h2 := cod_rv hy rf
  obtain ⟨m, new, news, hsrc, hnew, hnew1, hnl, hh⟩ := srcOf_ok hk rh h2 h
  have hnsl := hsrc.newsLen
  rcases onSl_ok hh with ⟨hv, hh1⟩ | ⟨b, off, len, cap, ex, hv, hh1⟩ | ⟨cs, len, cap, ex, hv, hh1⟩ | ⟨hh1, _⟩
  · rw [hv] at h1
    generalize hu : a.eval x = u at h1
    cases h1
    cases hm : Nat.beq m 0 with
    | true =>
      rw [hm] at hh1
      obtain ⟨rfl, rfl⟩ := ok_inj hh1
      have hm0 := Nat.eq_of_beq_eq_true hm
      subst hm0
      exact ⟨Nat.le_refl _, .same (run_app ho hb ha hat (by rw [hu]; exact run_append_none_vm ht hi hsrc (Nat.le_refl _))) rh .nils⟩
    | false =>
      rw [hm] at hh1
      have hm0 : m ≠ 0 := fun h0 => by subst h0; cases hm
      have hg := app_grow (P := P) (w := w) (E := E) (ty := o.type) (sLen := 0) (sCap := 0) (base := none) (old := []) (olds := []) (md := execOp a.eval o) ht hi hzv hpos hzs hsrc hnew hnew1 (RL.nil _ _) (fun c hc => by cases hc) (by simp) (run_firstCells_none w.drew i.size 0 0 0) (by omega) rh hf
        (show grown s i.size i.bytes (0 + m) ([] ++ new) = .ok r s' by rw [Nat.zero_add]; exact hh1) (fun v w' hr => run_app ho hb ha hat (by rw [hu]; exact hr))
      exact ⟨by rw [hg.1]; omega, by rw [hg.1]; exact hg.2⟩
  · rw [hv] at h1
    obtain ⟨cs, hcs, hh2⟩ := onCells_ok hh1
    obtain ⟨hle, hh3⟩ := br_ok hh2
    have hle' : off + cap * i.size ≤ cs.length := by have := Nat.le_of_ble_eq_true hle; rwa [ln_eq] at this
    obtain ⟨c, te, us, H⟩ := rh.cells b cs hcs
    have hlen := H.row.len
    generalize hu : a.eval x = u at h1
    cases h1 with | sl _ _ _ _ cap' _ hD hlc hc hxx hss =>
    have hmul : len * i.size ≤ cap * i.size := Nat.mul_le_mul_right _ hlc
    have hcell : ∀ (j : Nat) (q : Value), ((us.drop off).take (len * i.size))[j]? = some q → w.cell? ((⟨(E.φ b).block, (E.φ b).off + off, none⟩ : Addr).add j) = some q := fun j q hj => by
      rw [addr_add]
      rw [List.getElem?_take] at hj
      split at hj
      · rw [List.getElem?_drop] at hj; rw [Nat.add_assoc]; exact holds_cell H _ q hj
      · cases hj
    have hol : ((us.drop off).take (len * i.size)).length = len * i.size := by rw [List.length_take, List.length_drop]; omega
    have hold : RL E w ((cs.drop off).take (len * i.size)) ((us.drop off).take (len * i.size)) := (H.row.drop off).take _
    have hold1 : ∀ c ∈ (cs.drop off).take (len * i.size), c.one = true := fun c hc => H.one c (List.mem_of_mem_drop (List.mem_of_mem_take hc))
    have hfirst : (Builtin.firstCells i.size len (.slice (some ⟨(E.φ b).block, (E.φ b).off + off, none⟩) len cap')).run P w.drew = .ok ((us.drop off).take (len * i.size)).toArray w.drew :=
      run_firstCells_some w.drew i.size len _ len cap' _ hol (by simpa using hcell)
    cases hroom : Nat.ble (Nat.add len m) cap with
    | true =>
      rw [hroom] at hh3
      obtain ⟨rfl, rfl⟩ := ok_inj hh3
      have hroom' : len + m ≤ cap := Nat.le_of_ble_eq_true hroom
      have hmul2 : len * i.size + m * i.size ≤ cap * i.size := by rw [← Nat.add_mul]; exact Nat.mul_le_mul_right _ hroom'
      obtain ⟨w', k1, k2, k3, k4⟩ := write_row (P := P) (s' := s.put b (.cells (splice (off + len * i.size) new cs))) s.n.val s.n.val rh hcs (fun c => St.obj_put s b c _) hnew hnew1 (by omega)
      rw [← Nat.add_assoc] at k1
      refine ⟨by simp, E, w', _, .inl (run_app ho hb ha hat (by rw [hu]; exact run_append_room_vm ht hi hsrc (by omega) k1)), k3, ?_, by simpa using k4⟩
      refine .sl b off (len + m) cap cap' ex hD hroom' hc hxx (fun hne => ?_)
      obtain ⟨c0, e0, fr0, g1, g2⟩ := hss hne
      obtain ⟨c1, fr1, g3, g4⟩ := k2.shape _ c0 e0 fr0 g1
      exact ⟨c1, e0, fr1, g3, by rw [g4]; exact g2⟩
    | false =>
      rw [hroom] at hh3
      have hnr : cap < len + m := by
        apply Decidable.byContradiction
        intro hn
        have : Nat.ble (Nat.add len m) cap = true := Nat.ble_eq_true_of_le (show len + m ≤ cap by omega)
        rw [this] at hroom; cases hroom
      cases hx0 : Nat.beq ex 0 with
      | true =>
        rw [hx0, br_false, br_true] at hh3
        have hcc := hxx (Nat.eq_of_beq_eq_true hx0)
        rw [apd_eq, tk_eq, dr_eq] at hh3
        have hg := app_grow (P := P) (w := w) (E := E) (ty := o.type) (md := execOp a.eval o) ht hi hzv hpos hzs hsrc hnew hnew1 hold hold1 hol hfirst (by omega) rh hf hh3 (fun v w' hr => run_app ho hb ha hat (by rw [hu]; exact hr))
        exact ⟨by rw [hg.1]; omega, by rw [hg.1]; exact hg.2⟩
      | false =>
        rw [hx0, br_false, br_false] at hh3
        obtain ⟨hxs, hh4⟩ := br_ok hh3
        have hxs' : ex = i.size := Nat.eq_of_beq_eq_true hxs
        rw [apd_eq, tk_eq, dr_eq] at hh4
        have hkill : ∀ c, (s.put b .dead).obj c = if c = b then .dead else s.obj c := fun c => St.obj_put s b c _
        by_cases hin : len + m ≤ cap'
        · obtain ⟨g1, g2, g3, g4, rfl⟩ := grown_ok hh4
          obtain ⟨c0, e0, fr0, q1, q2⟩ := hss (by omega)
          rw [H.heap] at q1
          cases q1
          rw [hxs'] at q2
          have hmul2 : len * i.size + m * i.size ≤ cap' * i.size := by rw [← Nat.add_mul]; exact Nat.mul_le_mul_right _ hin
          have g4' : ∀ d, s'.obj d = if d = s.n then .cells ((cs.drop off).take (len * i.size) ++ new) else if d = b then .dead else s.obj d := fun d => by rw [g4 d, St.n_put, hkill]; rfl
          obtain ⟨E', w', k1, k2, k3, k4, k5, k6, c', k7, k8⟩ := app_slack (P := P) H rh hcs hf g4' hnew hnew1 (by omega) (by omega)
          rw [St.n_put] at g3
          refine ⟨by omega, E', w', _, .inl (run_app ho hb ha hat (by rw [hu]; exact run_append_room_vm ht hi hsrc hin k1)), k3, ?_, by rw [g3]; exact k4⟩
          rw [St.n_put]
          have := RV.sl (E := E') (w := w') s.n 0 (len + m) (len + m) cap' i.size k5 (Nat.le_refl _) hin (fun h0 => by omega)
          rw [k6] at this
          refine this (fun _ => ⟨c', te, (0, 0), k7, ?_⟩)
          rw [k8]; simp only [Nat.add_zero]; exact q2
        · have rh2 : RelH (s.put b .dead).obj E w := rh.kill (fun c => by rw [hkill]; by_cases hcb : c = b <;> simp [hcb])
          have hg := app_grow (P := P) (w := w) (E := E) (ty := o.type) (md := execOp a.eval o) ht hi hzv hpos hzs hsrc hnew hnew1 hold hold1 hol hfirst (by omega) rh2 (by rw [St.n_put]; exact hf) hh4 (fun v w' hr => run_app ho hb ha hat (by rw [hu]; exact hr))
          rw [St.n_put] at hg
          exact ⟨by rw [hg.1]; omega, by rw [hg.1]; exact hg.2.kill (fun c hc => by rw [hkill] at hc; by_cases hcb : c = b <;> simp_all)⟩
  · rw [hv] at h1
    cases hm : Nat.beq m 0 with
    | true =>
      rw [hm] at hh1
      obtain ⟨rfl, rfl⟩ := ok_inj hh1
      have hm0 := Nat.eq_of_beq_eq_true hm
      subst hm0
      rw [hv]
      generalize hu : a.eval x = u at h1
      cases h1 with | ts _ _ _ cap' _ g off us hI hl hc hr ho1 hlen hcap hxx =>
      exact ⟨Nat.le_refl _, .same (run_app ho hb ha hat (by rw [hu]; exact run_append_none_vm ht hi hsrc hlen)) rh (.ts cs len cap cap' ex g off us hI hl hc hr ho1 hlen hcap hxx)⟩
    | false =>
      rw [hm, br_false] at hh1
      obtain ⟨hex, hh2⟩ := br_ok hh1
      obtain ⟨hgr, hh3⟩ := br_ok hh2
      obtain ⟨hln, hh4⟩ := br_ok hh3
      generalize hu : a.eval x = u at h1
      cases h1 with | ts _ _ _ cap' _ g off us hI hl hc hr ho1 hlen hcap hxx =>
      have hln' : cs.length = len * i.size := by have := Nat.eq_of_beq_eq_true hln; rwa [ln_eq] at this
      have hcc := hxx hex
      have hgr' : cap < len + m := Nat.le_of_ble_eq_true hgr
      rw [apd_eq] at hh4
      have hol : us.length = len * i.size := by rw [hl, hln']
      have hfirst : (Builtin.firstCells i.size len (.slice (some ⟨g, off, none⟩) len cap')).run P w.drew = .ok us.toArray w.drew :=
        run_firstCells_some w.drew i.size len _ len cap' _ hol (fun j q hj => by rw [addr_add]; simpa using hc j q hj)
      have hg := app_grow (P := P) (w := w) (E := E) (ty := o.type) (md := execOp a.eval o) ht hi hzv hpos hzs hsrc hnew hnew1 ⟨hl, hr⟩ ho1 hol hfirst (by omega) rh hf hh4 (fun v w' hr => run_app ho hb ha hat (by rw [hu]; exact hr))
      exact ⟨by rw [hg.1]; omega, by rw [hg.1]; exact hg.2⟩
  · exact R.noConfusion hh1
end
end Go.Vm
