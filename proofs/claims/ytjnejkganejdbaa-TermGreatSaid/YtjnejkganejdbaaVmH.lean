/- The abstract machine is sound: operations that make no block and write nothing. No condition. -/
import Derived.Test.YtjnejkganejdbaaVmG
namespace Go.Vm
set_option linter.unusedVariables false
variable {P : Program}
section
variable {E : Env} {w : World} {nt : Nat} {f : Fr AV} {a : Act} {s s' : St} {r : AV} {call : CallT} {n n' : Nat} {o : Oper} {x y z : Operand} {cx cy cz : CO}

/-! ### Numbers, texts -/
theorem run_eqGuard_int (op : BinOp) (t : TypeId) (x y : Operand) (j k : IntKind) (m n : Int) (w : World) : (eqGuard op t x y (.int j m) (.int k n)).run P w = .ok () w := by
  unfold eqGuard; split <;> rfl
theorem run_eqGuard_str (op : BinOp) (t : TypeId) (x y : Operand) (a b : ByteArray) (w : World) : (eqGuard op t x y (.string a) (.string b)).run P w = .ok () w := by
  unfold eqGuard; split <;> rfl
theorem intBin_ok {op : BinOp} {j k : IntKind} {m n : Int} (t : TypeId) (h : intBin op j m k n s = .ok r s') (w : World) :
    s' = s ∧ ∃ v, (binOp op t (.int j m) (.int k n)).run P w = .ok v w ∧ RV E w r v := by
  cases op
  case shl =>
    obtain ⟨h1, h2⟩ := br_not_ok h
    obtain ⟨rfl, rfl⟩ := ok_inj h2
    rw [ilt_eq] at h1
    refine ⟨rfl, _, ?_, .int _ _⟩
    have : ¬ n < 0 := by simpa using h1
    simp [binOp, Op.shift, this, wr_eq]
  case shr =>
    obtain ⟨h1, h2⟩ := br_not_ok h
    obtain ⟨rfl, rfl⟩ := ok_inj h2
    rw [ilt_eq] at h1
    refine ⟨rfl, _, ?_, .int _ _⟩
    have : ¬ n < 0 := by simpa using h1
    simp [binOp, Op.shift, this]
  case quo =>
    obtain ⟨h0, h⟩ := br_ok h
    obtain ⟨h1, h2⟩ := br_not_ok h
    obtain ⟨rfl, rfl⟩ := ok_inj h2
    have e := (keq_iff _ _).mp h0
    subst e
    rw [ieq_eq] at h1
    refine ⟨rfl, _, ?_, .int _ _⟩
    have : ¬ n = 0 := by simpa using h1
    simp [binOp, Op.intDiv, this, wr_eq]
  case rem =>
    obtain ⟨h0, h⟩ := br_ok h
    obtain ⟨h1, h2⟩ := br_not_ok h
    obtain ⟨rfl, rfl⟩ := ok_inj h2
    have e := (keq_iff _ _).mp h0
    subst e
    rw [ieq_eq] at h1
    refine ⟨rfl, _, ?_, .int _ _⟩
    have : ¬ n = 0 := by simpa using h1
    simp [binOp, Op.intDiv, this]
  all_goals
    obtain ⟨h0, h⟩ := br_ok h
    obtain ⟨rfl, rfl⟩ := ok_inj h
    have e := (keq_iff _ _).mp h0
    subst e
    refine ⟨rfl, _, ?_, by first | exact .int _ _ | exact .bool _⟩
    first
      | (simp [binOp, Op.intArith, wr_eq, iadd_eq, ineg_eq]; done)
      | (simp [binOp, Op.intArith, wr_eq, iadd_eq, ineg_eq]; rfl)
      | (simp [binOp, Op.intBits]; done)
      | (simp [binOp, Op.intCmp, ieq_eq, ilt_eq]; done)
      | (simp only [binOp, Op.intCmp, ieq_eq, ilt_eq]; cases hb : (m == n) <;> simp [bne, hb]; done)
      | (simp only [binOp, Op.intCmp, ilt_eq]; by_cases hb : n < m <;> simp [hb] <;> omega)
      | (simp only [binOp, Op.intCmp, ilt_eq]; by_cases hb : m < n <;> simp [hb] <;> omega)
theorem strBin_ok {op : BinOp} {l m : List UInt8} {p q : ByteArray} (t : TypeId) (hp : p.data.toList = l) (hq : q.data.toList = m) (h : strBin op l m s = .ok r s') (w : World) :
    s' = s ∧ ∃ v, (binOp op t (.string p) (.string q)).run P w = .ok v w ∧ RV E w r v := by
  subst hp; subst hq
  have e1 := ByteArray.toList_eq p
  have e2 := ByteArray.toList_eq q
  cases op
  case add =>
    obtain ⟨h0, h⟩ := br_ok h
    obtain ⟨rfl, rfl⟩ := ok_inj h
    have h1 := Nat.le_of_ble_eq_true h0
    rw [ln_eq, ln_eq] at h1
    have h2 : ¬ (((p.size + q.size : Nat) : Int) > IntKind.i64.max) := by
      have e3 : p.size = p.data.toList.length := Array.length_toList.symm
      have e4 : q.size = q.data.toList.length := Array.length_toList.symm
      have h1' : p.data.toList.length + q.data.toList.length ≤ 9223372036854775807 := h1
      simp only [IntKind.max, IntKind.signed, IntKind.bits]
      simp; omega
    refine ⟨rfl, .string (p ++ q), ?_, ?_⟩
    · simp only [binOp, Op.stringOp, if_neg h2]; rfl
    · rw [apd_eq]; exact .str _ _ (by simp)
  all_goals first
    | exact R.noConfusion h
    | (obtain ⟨rfl, rfl⟩ := ok_inj h
       refine ⟨rfl, _, ?_, .bool _⟩
       simp only [binOp, Op.stringOp, e1, e2, beqs_eq]
       first | rfl | (cases p.data.toList == q.data.toList <;> rfl))
theorem s_bin {op : BinOp} {t u : TypeId} (ho : o.op = .binOp op t x y u) (hx : cod x = some cx) (hy : cod y = some cy) (rf : RF E w nt f a) (rh : RelH s.obj E w)
    (h : opBin op cx cy call f s = .ok r s') : s' = s ∧ Out P (execOp a.eval o) n n' s.obj E w r s.obj := by
  have h1 := cod_rv hx rf
  have h2 := cod_rv hy rf
  unfold opBin at h
  generalize hp : a.eval x = p at h1
  generalize hq : a.eval y = q at h2
  cases hv : ev1 f cx with
  | int j m =>
    rw [hv] at h h1
    obtain ⟨k, i, hv2, h⟩ := onInt_ok (show (ev1 f cy).onInt .no (fun k b => intBin op j m k b s) = .ok r s' from h)
    rw [hv2] at h2
    obtain rfl := rv_int h1
    obtain rfl := rv_int h2
    obtain ⟨rfl, v, h3, h4⟩ := intBin_ok (P := P) (E := E) t h w
    exact ⟨rfl, .same (v := v) (by simp [execOp, ho, hp, hq, run_eqGuard_int, h3]) rh h4⟩
  | str l =>
    rw [hv] at h h1
    obtain ⟨m, hv2, h⟩ := onStr_ok (show (ev1 f cy).onStr .no (fun b => strBin op l b s) = .ok r s' from h)
    rw [hv2] at h2
    obtain ⟨p', rfl, hp'⟩ := rv_str h1
    obtain ⟨q', rfl, hq'⟩ := rv_str h2
    obtain ⟨rfl, v, h3, h4⟩ := strBin_ok (P := P) (E := E) t hp' hq' h w
    exact ⟨rfl, .same (v := v) (by simp [execOp, ho, hp, hq, run_eqGuard_str, h3]) rh h4⟩
  | _ => rw [hv] at h; exact R.noConfusion h
theorem run_equalIn_bool (d : Nat) {t : TypeId} (ht : P.underlying t = some .bool) (b c : Bool) (w : World) : (Op.equalIn (d + 1) t (.bool b) (.bool c)).run P w = .ok (b == c) w := by
  simp only [Op.equalIn, Sem.run_bind, run_underlying ht, Result.andThen_ok, Sem.run_pure]
theorem run_equal_bool {t : TypeId} (ht : P.underlying t = some .bool) (b c : Bool) (w : World) : (Op.equal t (.bool b) (.bool c)).run P w = .ok (b == c) w := run_equalIn_bool 9999 ht b c w
theorem run_eqGuard_bool (op : BinOp) (t : TypeId) (x y : Operand) (a b : Bool) (w : World) : (eqGuard op t x y (.bool a) (.bool b)).run P w = .ok () w := by
  unfold eqGuard; split <;> rfl
theorem s_beq {op : BinOp} {neg : Bool} {t u : TypeId} (hop : (op = .eql ∧ neg = false) ∨ (op = .neq ∧ neg = true)) (ht : P.underlying t = some .bool) (ho : o.op = .binOp op t x y u) (hx : cod x = some cx) (hy : cod y = some cy) (rf : RF E w nt f a) (rh : RelH s.obj E w)
    (h : opBeq neg cx cy call f s = .ok r s') : s' = s ∧ Out P (execOp a.eval o) n n' s.obj E w r s.obj := by
  have h1 := cod_rv hx rf
  have h2 := cod_rv hy rf
  obtain ⟨b, hb, h⟩ := onBool_ok h
  obtain ⟨c, hc, h⟩ := onBool_ok h
  obtain ⟨rfl, rfl⟩ := ok_inj h
  rw [hb] at h1; rw [hc] at h2
  have e1 := rv_bool h1
  have e2 := rv_bool h2
  rcases hop with ⟨rfl, rfl⟩ | ⟨rfl, rfl⟩
  · refine ⟨rfl, .same (v := .bool (b == c)) ?_ rh (by cases b <;> cases c <;> exact .bool _)⟩
    simp [execOp, ho, e1, e2, run_eqGuard_bool, binOp, run_equal_bool ht]
  · refine ⟨rfl, .same (v := .bool (!(b == c))) ?_ rh (by cases b <;> cases c <;> exact .bool _)⟩
    simp [execOp, ho, e1, e2, run_eqGuard_bool, binOp, run_equal_bool ht]
theorem s_neg {t : TypeId} (ho : o.op = .unOp .neg t x) (hx : cod x = some cx) (rf : RF E w nt f a) (rh : RelH s.obj E w) (h : opNeg cx call f s = .ok r s') : s' = s ∧ Out P (execOp a.eval o) n n' s.obj E w r s.obj := by
  have h1 := cod_rv hx rf
  obtain ⟨k, m, hv, h⟩ := onInt_ok h
  obtain ⟨rfl, rfl⟩ := ok_inj h
  rw [hv] at h1
  have e := rv_int h1
  rw [wr_eq, ineg_eq]
  refine ⟨rfl, .same (v := .int k (k.wrap (-m))) ?_ rh (.int _ _)⟩
  simp [execOp, ho, e, Op.unary, Op.intArith]
theorem s_not {t : TypeId} (ho : o.op = .unOp .not t x) (hx : cod x = some cx) (rf : RF E w nt f a) (rh : RelH s.obj E w) (h : opNot cx call f s = .ok r s') : s' = s ∧ Out P (execOp a.eval o) n n' s.obj E w r s.obj := by
  have h1 := cod_rv hx rf
  obtain ⟨b, hv, h⟩ := onBool_ok h
  obtain ⟨rfl, rfl⟩ := ok_inj h
  rw [hv] at h1
  have e := rv_bool h1
  refine ⟨rfl, .same (v := .bool (!b)) ?_ rh (by cases b <;> exact .bool _)⟩
  simp [execOp, ho, e, Op.unary]
theorem s_conv {k : IntKind} {t u : TypeId} {j : IntKind} (ht : P.underlying t = some (.int j)) (hu : P.underlying u = some (.int k)) (ho : o.op = .convert t u x) (hx : cod x = some cx) (rf : RF E w nt f a) (rh : RelH s.obj E w)
    (h : opConv k cx call f s = .ok r s') : s' = s ∧ Out P (execOp a.eval o) n n' s.obj E w r s.obj := by
  have h1 := cod_rv hx rf
  obtain ⟨i, m, hv, h⟩ := onInt_ok h
  obtain ⟨rfl, rfl⟩ := ok_inj h
  rw [hv] at h1
  have e := rv_int h1
  rw [wr_eq]
  refine ⟨rfl, .same (v := .int k (k.wrap m)) ?_ rh (.int _ _)⟩
  simp [execOp, ho, e, convert, run_underlying ht, run_underlying hu, Conv.intToInt]
theorem s_convs {t u : TypeId} (ht : P.underlying t = some .string) (hu : P.underlying u = some .string) (ho : o.op = .convert t u x) (hx : cod x = some cx) (rf : RF E w nt f a) (rh : RelH s.obj E w)
    (hv : ∃ l, ev1 f cx = .str l) (h : opMv cx call f s = .ok r s') : s' = s ∧ Out P (execOp a.eval o) n n' s.obj E w r s.obj := by
  have h1 := cod_rv hx rf
  obtain ⟨rfl, rfl⟩ := ok_inj h
  obtain ⟨l, hv⟩ := hv
  refine ⟨rfl, .same (v := a.eval x) ?_ rh h1⟩
  rw [hv] at h1
  obtain ⟨p, e, _⟩ := rv_str h1
  simp [execOp, ho, e, convert, run_underlying ht, run_underlying hu]

/-! ### Places, parts -/
theorem s_ext {i : Nat} (ho : o.op = .extract x i) (hx : cod x = some cx) (rf : RF E w nt f a) (rh : RelH s.obj E w) (h : opExt cx i call f s = .ok r s') : s' = s ∧ Out P (execOp a.eval o) n n' s.obj E w r s.obj := by
  have h1 := cod_rv hx rf
  obtain ⟨l, hv, h⟩ := onTup_ok h
  rw [nth_eq] at h
  rw [hv] at h1
  obtain ⟨us, e, hr⟩ := rv_tup h1
  cases hi : l[i]? with
  | none => rw [hi] at h; exact R.noConfusion h
  | some v =>
    rw [hi] at h
    obtain ⟨rfl, rfl⟩ := ok_inj h
    obtain ⟨u, hu, h2⟩ := hr.get hi
    refine ⟨rfl, .same (v := u) ?_ rh h2⟩
    simp [execOp, ho, e, Instr.extract, hu]
theorem s_mkif {t : TypeId} {d : TypeDesc} (ht : P.underlying t = some d) (hd : ∀ ms, d ≠ .interface ms) (ho : o.op = .makeInterface t x) (hx : cod x = some cx) (rf : RF E w nt f a) (rh : RelH s.obj E w)
    (h : opMkif t cx call f s = .ok r s') : s' = s ∧ Out P (execOp a.eval o) n n' s.obj E w r s.obj := by
  obtain ⟨rfl, rfl⟩ := ok_inj h
  refine ⟨rfl, .same (v := .iface t (a.eval x)) ?_ rh (.ifc _ _ _ (cod_rv hx rf))⟩
  simp only [execOp, ho, Instr.makeInterface]
  cases d <;> first | exact absurd rfl (hd _) | simp [run_underlying ht]
theorem s_mkfn {g : Nat} {as bs : Array Operand} {cs ds : List CO} (hg : g < 65536) (ho : o.op = .makeFunc (.func g) as bs) (hx : as.toList.mapM cod = some cs) (hy : bs.toList.mapM cod = some ds) (rf : RF E w nt f a) (rh : RelH s.obj E w)
    (h : opMkfn (.ofNat g) cs ds call f s = .ok r s') : s' = s ∧ Out P (execOp a.eval o) n n' s.obj E w r s.obj := by
  obtain ⟨rfl, rfl⟩ := ok_inj h
  have h1 := cods_rl hx rf
  have h2 := cods_rl hy rf
  refine ⟨rfl, .same (v := .func (.func g) (as.map a.eval) (bs.map a.eval)) ?_ rh ?_⟩
  · simp [execOp, ho, Instr.makeFunc]
  · have := RV.fn (E := E) (w := w) (.ofNat g) (evs f cs) (evs f ds) _ _ h1.len h1.each h2.len h2.each
    rw [Id.val_ofNat hg] at this
    have e1 : (as.toList.map a.eval).toArray = as.map a.eval := by apply Array.ext'; simp
    have e2 : (bs.toList.map a.eval).toArray = bs.map a.eval := by apply Array.ext'; simp
    rwa [e1, e2] at this
theorem fieldPlace_run {fd : Field} {sz : Nat} (hs : sizeAt P fd.type = some sz) (h0 : sz ≠ 0) (g off : Nat) (w : World) : (fieldPlace ⟨g, off, none⟩ fd).run P w = .ok ⟨g, off + fd.offset, none⟩ w := by
  simp [fieldPlace, run_sizeOf hs, h0, addr_add]
theorem tp_drop {cs : List AV} {us : List Value} {g off : Nat} (k : Nat) (hI : cs ≠ [] → E.I g) (hrow : RL E w cs us) (hc : ∀ (j : Nat) (u : Value), us[j]? = some u → w.cell? ⟨g, off + j, none⟩ = some u) (h1 : ∀ c ∈ cs, c.one = true) :
    RV E w (.tp (cs.drop k)) (.pointer (some ⟨g, off + k, none⟩)) :=
  .tp _ g (off + k) (us.drop k) (fun hn => hI (fun e => hn (by rw [e]; simp))) (hrow.drop k).len (fun j u hj => by rw [List.getElem?_drop] at hj; rw [Nat.add_assoc]; exact hc _ u hj) (hrow.drop k).each (fun c hc => h1 c (List.mem_of_mem_drop hc))
theorem s_faddr {t : TypeId} {fs : Array Field} {i : Nat} {fd : Field} {sz : Nat} (ht : P.underlying t = some (.struct fs)) (hi : fs[i]? = some fd) (hs : sizeAt P fd.type = some sz) (h0 : sz ≠ 0) (ho : o.op = .fieldAddr t x i) (hx : cod x = some cx) (rf : RF E w nt f a) (rh : RelH s.obj E w)
    (h : opFaddr fd.offset cx call f s = .ok r s') : s' = s ∧ Out P (execOp a.eval o) n n' s.obj E w r s.obj := by
  have h1 := cod_rv hx rf
  rcases onPtr_ok h with ⟨b, off, hv, h⟩ | ⟨cs, hv, h⟩ <;> rw [hv] at h1 <;> obtain ⟨rfl, rfl⟩ := ok_inj h <;> generalize hu : a.eval x = u at h1
  · cases h1 with | ptr _ _ hD =>
    refine ⟨rfl, .same (v := .pointer (some ⟨(E.φ b).block, (E.φ b).off + (off + fd.offset), none⟩)) ?_ rh (.ptr _ _ hD)⟩
    simp [execOp, ho, hu, Instr.fieldAt, run_underlying ht, hi, Instr.sureAddr, fieldPlace_run hs h0, Nat.add_assoc]
  · cases h1 with | tp _ g off us hI hl hc hr ho1 =>
    rw [dr_eq]
    refine ⟨rfl, .same ?_ rh (tp_drop fd.offset hI ⟨hl, hr⟩ hc ho1)⟩
    simp [execOp, ho, hu, Instr.fieldAt, run_underlying ht, hi, Instr.sureAddr, fieldPlace_run hs h0]
/-- A part of a struct's value. -/
theorem run_part {t : TypeId} {agg : Bool} {sz : Nat} (ha : aggAt P t = some agg) (hs : sizeAt P t = some sz) {cs : List AV} {us : List Value} {off : Nat}
    (hrow : RL E w cs us) (h1 : ∀ c ∈ cs, c.one = true) (h : wrap1 agg sz (cs.drop off) s = .ok r s') : s = s' ∧ ∃ v, (part t us.toArray off).run P w = .ok v w ∧ RV E w r v := by
  cases agg with
  | false =>
    cases hd : cs.drop off with
    | nil => rw [hd] at h; exact R.noConfusion h
    | cons c ds =>
      rw [hd] at h
      obtain ⟨rfl, rfl⟩ := ok_inj h
      have hc : cs[off]? = some c := by
        have : (cs.drop off)[0]? = some c := by rw [hd]; rfl
        rwa [List.getElem?_drop, Nat.add_zero] at this
      obtain ⟨u, hu, h2⟩ := hrow.get hc
      exact ⟨rfl, u, by simp [part, run_isAgg ha, hu], h2⟩
  | true =>
    obtain ⟨h2, h3⟩ := br_ok h
    obtain ⟨rfl, rfl⟩ := ok_inj h3
    refine ⟨rfl, .agg (us.toArray.extract off (off + sz)), by simp [part, run_isAgg ha, run_sizeOf hs], ?_⟩
    rw [tk_eq]
    have e : us.toArray.extract off (off + sz) = ((us.drop off).take sz).toArray := by
      apply Array.ext'
      rw [Array.toList_extract]; simp [List.extract]
    rw [e]
    exact .agg _ _ ((hrow.drop off).take sz).len ((hrow.drop off).take sz).each (fun c hc => h1 c (List.mem_of_mem_drop (List.mem_of_mem_take hc)))
theorem s_field {t : TypeId} {fs : Array Field} {i : Nat} {fd : Field} {agg : Bool} {sz : Nat} (ht : P.underlying t = some (.struct fs)) (hi : fs[i]? = some fd) (ha : aggAt P fd.type = some agg) (hs : sizeAt P fd.type = some sz) (ho : o.op = .field t x i) (hx : cod x = some cx) (rf : RF E w nt f a) (rh : RelH s.obj E w)
    (h : opField agg fd.offset sz cx call f s = .ok r s') : s' = s ∧ Out P (execOp a.eval o) n n' s.obj E w r s.obj := by
  have h1 := cod_rv hx rf
  obtain ⟨l, hv, h⟩ := onAgg_ok h
  rw [hv] at h1
  obtain ⟨us, e, hr, h1'⟩ := rv_agg h1
  rw [dr_eq] at h
  obtain ⟨rfl, v, h2, h3⟩ := run_part ha hs hr h1' h
  refine ⟨rfl, .same (v := v) ?_ rh h3⟩
  simp [execOp, ho, e, Instr.field, run_underlying ht, hi, asAgg, h2]
theorem s_iaddr {t e : TypeId} {sz : Nat} (ht : P.underlying t = some (.slice e)) (hs : sizeAt P e = some sz) (ho : o.op = .indexAddr t x y) (hx : cod x = some cx) (hy : cod y = some cy) (rf : RF E w nt f a) (rh : RelH s.obj E w)
    (h : opIaddr sz cx cy call f s = .ok r s') : s' = s ∧ Out P (execOp a.eval o) n n' s.obj E w r s.obj := by
  have h1 := cod_rv hx rf
  have h2 := cod_rv hy rf
  rcases onSl_ok h with ⟨_, h⟩ | ⟨b, off, l, c, ex, hv, h⟩ | ⟨cs, l, c, ex, hv, h⟩ | ⟨h, _⟩
  · exact R.noConfusion h
  · obtain ⟨j, m, hv2, hm, h⟩ := idx_ok h
    obtain ⟨rfl, rfl⟩ := ok_inj h
    rw [hv] at h1; rw [hv2] at h2
    have e2 := rv_int h2
    generalize hu : a.eval x = u at h1
    cases h1 with | sl _ _ _ _ cap' _ hD hlc hc hx =>
    refine ⟨rfl, .same (v := .pointer (some ⟨(E.φ b).block, (E.φ b).off + (off + m * sz), none⟩)) ?_ rh (.ptr _ _ hD)⟩
    have hm' : (m : Int) < (l : Int) := by omega
    simp [execOp, ho, hu, e2, Instr.indexAt, asIntOf, run_underlying ht, hm, run_sizeOf hs, addr_add, Nat.add_assoc]
  · obtain ⟨j, m, hv2, hm, h⟩ := idx_ok h
    obtain ⟨rfl, rfl⟩ := ok_inj h
    rw [hv] at h1; rw [hv2] at h2
    have e2 := rv_int h2
    generalize hu : a.eval x = u at h1
    cases h1 with | ts _ _ _ cap' _ g off us hI hl hc hr ho1 hlen hcap hx =>
    refine ⟨rfl, .same ?_ rh (by rw [dr_eq]; exact tp_drop (m * sz) hI ⟨hl, hr⟩ hc ho1)⟩
    simp [execOp, ho, hu, e2, Instr.indexAt, asIntOf, run_underlying ht, hm, run_sizeOf hs, addr_add]
  · exact R.noConfusion h
end
end Go.Vm
