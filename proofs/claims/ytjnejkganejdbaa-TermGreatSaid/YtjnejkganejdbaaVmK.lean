/- The abstract machine is sound: greatest and least, lookups, a text's bytes; blocks that are made, blocks that are written, in general. No condition. -/
import Derived.Test.YtjnejkganejdbaaVmJ
namespace Go.Vm
set_option linter.unusedVariables false
variable {P : Program}
section
variable {E : Env} {w : World} {nt : Nat} {f : Fr AV} {a : Act} {s s' : St} {r : AV} {call : CallT} {n n' : Nat} {o : Oper} {x y z : Operand} {cx cy cz : CO}

/-! ### The greatest, the least -/
theorem mm_fold {mx : Bool} {rs : List CO} {us : List Value} (hr : RL E w (evs f rs) us) {v : AV} {u : Value} (hv : RV E w v u)
    (h : List.rec (motive := fun _ => AV → R) (fun v => .ok v s) (fun y _ ih v => v.onInt .no fun j a => (ev1 f y).onInt .no fun k b => ih (.int j (best mx a b))) rs v = .ok r s') :
    s' = s ∧ ∃ q, (us.foldlM (if mx then Builtin.max2 else Builtin.min2) u).run P w = .ok q w ∧ RV E w r q := by
  induction rs generalizing us v u with
  | nil =>
    obtain ⟨rfl, rfl⟩ := ok_inj h
    have : us = [] := List.eq_nil_of_length_eq_zero (by simpa [evs] using hr.len)
    subst this
    exact ⟨rfl, u, by simp, hv⟩
  | cons y rs ih =>
    obtain ⟨u1, us, rfl, h1, h2⟩ := RL.cons_inv (show RL E w (ev1 f y :: evs f rs) us from hr)
    obtain ⟨j, m, hv', h'⟩ := onInt_ok (v := v) h
    subst hv'
    obtain ⟨k, i, hy, h''⟩ := onInt_ok (v := ev1 f y) h'
    rw [hy] at h1
    obtain rfl := rv_int hv
    obtain rfl := rv_int h1
    obtain ⟨rfl, q, h3, h4⟩ := ih h2 (.int j (best mx m i)) h''
    refine ⟨rfl, q, ?_, h4⟩
    rw [← h3]
    have e : ((if mx then Builtin.max2 else Builtin.min2) (.int j m) (.int k i)).run P w = .ok (.int j (best mx m i)) w := by
      cases mx with
      | true =>
        simp only [if_true]
        show (Builtin.max2 _ _).run P w = .ok (.int j (br (ilt m i) i m)) w
        rw [ilt_eq]
        by_cases hlt : m < i
        · simp [Builtin.max2, hlt]
        · simp [Builtin.max2, hlt]
      | false =>
        simp only [Bool.false_eq_true, if_false]
        show (Builtin.min2 _ _).run P w = .ok (.int j (br (ilt i m) i m)) w
        rw [ilt_eq]
        by_cases hlt : i < m
        · simp [Builtin.min2, hlt]
        · simp [Builtin.min2, hlt]
    simp only [List.foldlM_cons, Sem.run_bind, e, Result.andThen_ok]
theorem s_mm {mx : Bool} {cl : Call} {rs : List Operand} {crs : List CO} (ho : o.op = .call cl) (hb : cl.callee = .builtin (if mx then .max else .min)) (ha : cl.args.toList = x :: rs) (hx : cod x = some cx) (hr : rs.mapM cod = some crs) (rf : RF E w nt f a) (rh : RelH s.obj E w)
    (h : opMm mx cx crs call f s = .ok r s') : s' = s ∧ Out P (execOp a.eval o) n n' s.obj E w r s.obj := by
  obtain ⟨rfl, q, h1, h2⟩ := mm_fold (P := P) (cods_rl hr rf) (cod_rv hx rf) h
  refine ⟨rfl, .same (v := q) ?_ rh h2⟩
  have ea : (cl.args.map a.eval).toList = a.eval x :: rs.map a.eval := by simp [ha]
  cases mx with
  | true => simp only [if_true] at hb h1; simp [execOp, ho, resolve, hb, invoke, builtin, Builtin.max_, ha, h1]
  | false => simp at hb h1; simp [execOp, ho, resolve, hb, invoke, builtin, Builtin.min_, ha, h1]

/-! ### Lookups -/
theorem keyEq_ok {str : Bool} {d : TypeDesc} (hd : (str = true ∧ d = .string) ∨ (str = false ∧ ∃ k, d = .int k)) {c e : AV} {u v : Value} (h1 : RV E w c u) (h2 : RV E w e v) {q p : R} (hk : ∀ R0 : R, isKey str c R0 = R0)
    (h : keyEq c e .no q p = .ok r s') : (Instr.sameNow d u v = some true ∧ q = .ok r s') ∨ (Instr.sameNow d u v = some false ∧ p = .ok r s') := by
  rcases hd with ⟨rfl, rfl⟩ | ⟨rfl, k, rfl⟩
  · cases c <;> first | exact R.noConfusion (hk (.ok undef s')) | skip
    rename_i l
    obtain ⟨l', hl', hh⟩ := onStr_ok (v := e) (show e.onStr .no (fun m => br (beqs l m) q p) = .ok r s' from h)
    clear h
    subst hl'
    obtain ⟨x1, rfl, e1⟩ := rv_str h1
    obtain ⟨x2, rfl, e2⟩ := rv_str h2
    rw [beqs_eq] at hh
    have key : (x1 == x2) = (l == l') := by
      have h0 : (x1 == x2) = (x1.data == x2.data) := by cases x1; cases x2; rfl
      rw [h0, Bool.eq_iff_iff]
      simp only [beq_iff_eq]
      constructor
      · intro e; rw [← e1, ← e2, e]
      · intro e; exact Array.ext' (e1.trans (e.trans e2.symm))
    cases hb : (l == l') with
    | true => rw [hb] at hh; exact .inl ⟨by simp [Instr.sameNow, key, hb], hh⟩
    | false => rw [hb] at hh; exact .inr ⟨by simp [Instr.sameNow, key, hb], hh⟩
  · cases c <;> first | exact R.noConfusion (hk (.ok undef s')) | skip
    rename_i j m
    obtain ⟨i, m', hm', hh⟩ := onInt_ok (v := e) (show e.onInt .no (fun k b => br (keq j k) (br (ieq m b) q p) .no) = .ok r s' from h)
    clear h
    subst hm'
    obtain rfl := rv_int h1
    obtain rfl := rv_int h2
    obtain ⟨hj, hk2⟩ := br_ok hh
    clear hh
    have hj' := (keq_iff _ _).mp hj
    subst hj'
    rw [ieq_eq] at hk2
    cases hb : (m == m') with
    | true => rw [hb] at hk2; exact .inl ⟨by simp only [Instr.sameNow, if_true, hb], hk2⟩
    | false => rw [hb] at hk2; exact .inr ⟨by simp only [Instr.sameNow, if_true, hb], hk2⟩
theorem mget_ok {str : Bool} {d : TypeDesc} (hd : (str = true ∧ d = .string) ∨ (str = false ∧ ∃ k, d = .int k)) {c : AV} {u : Value} (h1 : RV E w c u) (hk : ∀ R0 : R, isKey str c R0 = R0) {es : List (AV × AV)} {ms : List MapEntry} {q : R} {yes : AV → R}
    (hks : RL E w (es.map (·.1)) (ms.map (·.key))) (hvs : RL E w (es.map (·.2)) (ms.map (·.val))) (i : Nat) (h : mget es c q yes = .ok r s') :
    (Instr.findNow d u ms i = some none ∧ q = .ok r s') ∨ ∃ (j : Nat) (e : MapEntry) (v : AV), Instr.findNow d u ms i = some (some (i + j, e.val)) ∧ ms[j]? = some e ∧ RV E w v e.val ∧ yes v = .ok r s' := by
  induction es generalizing ms i with
  | nil =>
    have : ms = [] := List.eq_nil_of_length_eq_zero (by simpa using hks.len)
    subst this
    exact .inl ⟨rfl, h⟩
  | cons e es ih =>
    obtain ⟨b, v⟩ := e
    cases ms with
    | nil => have := hks.len; simp at this
    | cons m ms =>
      obtain ⟨_, _, e1, g1, g2⟩ := RL.cons_inv (show RL E w (b :: es.map (·.1)) (m.key :: ms.map (·.key)) from hks)
      cases e1
      obtain ⟨_, _, e1, g3, g4⟩ := RL.cons_inv (show RL E w (v :: es.map (·.2)) (m.val :: ms.map (·.val)) from hvs)
      cases e1
      rcases keyEq_ok hd h1 g1 hk (show keyEq c b .no (yes v) (mget es c q yes) = .ok r s' from h) with ⟨k1, k2⟩ | ⟨k1, k2⟩
      · exact .inr ⟨0, m, v, by simp [Instr.findNow, k1], rfl, g3, k2⟩
      · rcases ih g2 g4 (i + 1) k2 with ⟨k3, k4⟩ | ⟨j, e, v', k3, k4, k5, k6⟩
        · exact .inl ⟨by simp only [Instr.findNow, k1]; exact k3, k4⟩
        · exact .inr ⟨j + 1, e, v', by simp only [Instr.findNow, k1]; rw [k3]; congr 3; omega, by simpa using k4, k5, k6⟩
theorem isKey_ok {str : Bool} {c : AV} {q : R} (h : isKey str c q = .ok r s') : (∀ R0 : R, isKey str c R0 = R0) ∧ q = .ok r s' := by
  cases str <;> cases c <;> first | exact R.noConfusion h | exact ⟨fun _ => rfl, h⟩
theorem run_checkKey_vm {str : Bool} {d : TypeDesc} {kt : TypeId} (ht : P.underlying kt = some d) (hd : (str = true ∧ d = .string) ∨ (str = false ∧ ∃ k, d = .int k)) (em : Bool) (m : Nat) (v : Value) : (Instr.checkKey em (m + 1) kt v).run P w = .ok () w := by
  unfold Instr.checkKey
  simp only [Sem.run_bind, run_underlying ht, Result.andThen]
  rcases hd with ⟨_, rfl⟩ | ⟨_, k, rfl⟩ <;> rfl
theorem run_lookup_of {t kt e : TypeId} {d : TypeDesc} {str : Bool} {i : TypeInfo} {zv : Value} (ht : P.underlying t = some (.map kt e)) (hkt : P.underlying kt = some d) (hd : (str = true ∧ d = .string) ∨ (str = false ∧ ∃ k, d = .int k))
    (hi : P.info? e = some i) (hz : i.zero = some zv) {mv : Value} {ms : List MapEntry} {u : Value} (ok : Bool)
    (hm : (mv = .map none ∧ ms = []) ∨ ∃ g clock, mv = .map (some g) ∧ w.heap[g]? = some (.map ms.toArray clock)) {a : Option (Nat × Value)} (hf : Instr.findNow d u ms 0 = some a) :
    (Instr.lookup t mv u ok).run P w = .ok (if ok then .tuple #[(a.map (·.2)).getD zv, .bool a.isSome] else (a.map (·.2)).getD zv) w := by
  rcases hm with ⟨rfl, rfl⟩ | ⟨g, clock, rfl, hg⟩
  · cases hf
    cases ok <;> simp [Instr.lookup, run_underlying ht, run_checkKey_vm hkt hd, Instr.findKey, run_underlying hkt, Instr.findNow, zeroValue, typeInfo, hi, hz]
  · have hgo : (getObj g).run P w = .ok (.map ms.toArray clock) w := by simp [getObj, Sem.run, hg]
    cases a with
    | none => cases ok <;> simp [Instr.lookup, run_underlying ht, hgo, run_checkKey_vm hkt hd, Instr.findKey, run_underlying hkt, hf, zeroValue, typeInfo, hi, hz]
    | some p => cases ok <;> simp [Instr.lookup, run_underlying ht, hgo, run_checkKey_vm hkt hd, Instr.findKey, run_underlying hkt, hf]
theorem looked_ok {ok b : Bool} {v : AV} {u : Value} (hv : RV E w v u) (h : looked ok b v s = .ok r s') : s' = s ∧ RV E w r (if ok then .tuple #[u, .bool b] else u) := by
  cases ok with
  | true =>
    obtain ⟨rfl, rfl⟩ := ok_inj h
    have := RL.cons hv (RL.cons (RV.bool (E := E) (w := w) b) (RL.nil _ _))
    exact ⟨rfl, .tup _ _ this.len this.each⟩
  | false => obtain ⟨rfl, rfl⟩ := ok_inj h; exact ⟨rfl, hv⟩
theorem s_lookup {t kt e : TypeId} {d : TypeDesc} {str ok : Bool} {i : TypeInfo} {zv : Value} {v : AV} (ht : P.underlying t = some (.map kt e)) (hkt : P.underlying kt = some d) (hd : (str = true ∧ d = .string) ∨ (str = false ∧ ∃ k, d = .int k))
    (hi : P.info? e = some i) (hz : i.zero = some zv) (hvz : valAt zv = some v) (ho : o.op = .lookup t x y ok) (hx : cod x = some cx) (hy : cod y = some cy) (rf : RF E w nt f a) (rh : RelH s.obj E w)
    (h : opLookup str v cx cy ok call f s = .ok r s') : s' = s ∧ Out P (execOp a.eval o) n n' s.obj E w r s.obj := by
  have h1 := cod_rv hx rf
  have h2 := cod_rv hy rf
  obtain ⟨hk, h⟩ := isKey_ok h
  rcases onMap_ok h with ⟨hv, h⟩ | ⟨b, hv, h⟩ | h
  · rw [hv] at h1
    generalize hu : a.eval x = u at h1
    cases h1
    obtain ⟨rfl, h3⟩ := looked_ok (valAt_rv hvz E w) h
    refine ⟨rfl, .same (v := _) ?_ rh h3⟩
    simp [execOp, ho, hu, run_lookup_of (w := w) (u := a.eval y) ht hkt hd hi hz ok (.inl ⟨rfl, rfl⟩) (a := none) rfl]
  · rw [hv] at h1
    obtain ⟨es, he, h⟩ := onMapO_ok h
    obtain ⟨ms, cl, H⟩ := rh.map b es he
    generalize hu : a.eval x = u at h1
    cases h1
    have hm : (Value.map (some (E.φ b).block) = .map none ∧ ms.toList = []) ∨ ∃ g clock, Value.map (some (E.φ b).block) = .map (some g) ∧ w.heap[g]? = some (.map ms.toList.toArray clock) := .inr ⟨_, cl, rfl, by simpa using H.heap⟩
    rcases mget_ok hd h2 hk H.keys H.vals 0 h with ⟨k1, k2⟩ | ⟨j, e', v', k1, k2, k3, k4⟩
    · obtain ⟨rfl, h3⟩ := looked_ok (valAt_rv hvz E w) k2
      refine ⟨rfl, .same (v := _) ?_ rh h3⟩
      simp [execOp, ho, hu, run_lookup_of ht hkt hd hi hz ok hm k1]
    · obtain ⟨rfl, h3⟩ := looked_ok k3 k4
      refine ⟨rfl, .same (v := _) ?_ rh h3⟩
      simp [execOp, ho, hu, run_lookup_of ht hkt hd hi hz ok hm k1]
  · exact R.noConfusion h
end
end Go.Vm
