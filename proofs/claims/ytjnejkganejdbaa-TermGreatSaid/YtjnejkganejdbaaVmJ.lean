/- The abstract machine is sound: texts, comparisons against nil, lookups, lengths. No condition. -/
import Derived.Test.YtjnejkganejdbaaVmI
import Derived.Lib.ConvBytes
import Derived.WideLaws
import Derived.LaidEql
import Derived.MapKept
import Derived.Laws.BytesString
import Derived.Laws.BytesArg
namespace Go.Vm
set_option linter.unusedVariables false
variable {P : Program}
section
variable {E : Env} {w : World} {nt : Nat} {f : Fr AV} {a : Act} {s s' : St} {r : AV} {call : CallT} {n n' : Nat} {o : Oper} {x y z : Operand} {cx cy cz : CO}
theorem size_data (p : ByteArray) : p.size = p.data.toList.length := Array.length_toList.symm
theorem s_mvs {t u : TypeId} (ht : P.underlying t = some .string) (hu : P.underlying u = some .string) (ho : o.op = .convert t u x) (hx : cod x = some cx) (rf : RF E w nt f a) (rh : RelH s.obj E w)
    (h : opMvs cx call f s = .ok r s') : s' = s ∧ Out P (execOp a.eval o) n n' s.obj E w r s.obj := by
  obtain ⟨l, hv, h⟩ := onStr_ok h
  exact s_convs (call := call) ht hu ho hx rf rh ⟨l, hv⟩ (by unfold opMv; rw [hv]; exact h)
theorem s_sslice {t : TypeId} {lo hi : Option Operand} {clo chi : Option CO} (ht : P.underlying t = some .string)
    (ho : o.op = .slice t x lo hi none) (hx : cod x = some cx) (hlo : codo lo = some clo) (hhi : codo hi = some chi) (rf : RF E w nt f a) (rh : RelH s.obj E w)
    (h : opSslice cx clo chi call f s = .ok r s') : s' = s ∧ Out P (execOp a.eval o) n n' s.obj E w r s.obj := by
  have h1 := cod_rv hx rf
  obtain ⟨L, hL, h⟩ := onStr_ok h
  rw [hL] at h1
  obtain ⟨p, hp, hpl⟩ := rv_str h1
  have hsz : ln L = p.size := by rw [ln_eq, size_data, hpl]
  obtain ⟨h', h, b2⟩ := codo_bv hhi rf h
  obtain ⟨l, h, b3⟩ := codo_bv hlo rf h
  obtain ⟨rfl, rfl⟩ := ok_inj h
  rw [hsz] at b2
  refine ⟨rfl, .same (v := .string (p.extract l h')) ?_ rh ?_⟩
  · have b1 : BV (none : Option Value) p.size p.size p.size := .inl ⟨rfl, rfl⟩
    simp [execOp, ho, hp, Instr.sliceAt, Instr.slice, run_underlying ht, run_bounds b1 b2 b3 (by simp)]
  · refine .str _ _ ?_
    rw [dr_eq, tk_eq, ByteArray.data_extract, Array.toList_extract, ← hpl]
    simp [List.extract, List.drop_take]
theorem s_sidx {t : TypeId} (ht : P.underlying t = some .string) (ho : o.op = .index t x y) (hx : cod x = some cx) (hy : cod y = some cy) (rf : RF E w nt f a) (rh : RelH s.obj E w)
    (h : opSidx cx cy call f s = .ok r s') : s' = s ∧ Out P (execOp a.eval o) n n' s.obj E w r s.obj := by
  have h1 := cod_rv hx rf
  have h2 := cod_rv hy rf
  obtain ⟨l, hv, h⟩ := onStr_ok h
  obtain ⟨j, m, hv2, hm, h⟩ := idx_ok h
  rw [hv] at h1; rw [hv2] at h2
  obtain ⟨p, e1, hp⟩ := rv_str h1
  have e2 := rv_int h2
  rw [nth_eq] at h
  cases hc : l[m]? with
  | none => rw [hc] at h; exact R.noConfusion h
  | some c =>
    rw [hc] at h
    obtain ⟨rfl, rfl⟩ := ok_inj h
    refine ⟨rfl, .same (v := .int .u8 (c.toNat : Int)) ?_ rh (.int _ _)⟩
    have hc' : p[m]? = some c := by
      have hlt : m < p.size := by rw [size_data, hp]; exact (List.getElem?_eq_some_iff.mp hc).1
      have : p[m] = c := by
        have h3 := (List.getElem?_eq_some_iff.mp hc).2
        subst hp
        rw [← h3]; rfl
      rw [getElem?_pos p m hlt, this]
    simp [execOp, ho, e1, e2, Instr.index, asIntOf, run_underlying ht, hc']
theorem s_aidx {t e : TypeId} {agg : Bool} {len sz : Nat} (ht : P.underlying t = some (.array len e)) (ha : aggAt P e = some agg) (hs : sizeAt P e = some sz) (ho : o.op = .index t x y) (hx : cod x = some cx) (hy : cod y = some cy) (rf : RF E w nt f a) (rh : RelH s.obj E w)
    (h : opAidx agg len sz cx cy call f s = .ok r s') : s' = s ∧ Out P (execOp a.eval o) n n' s.obj E w r s.obj := by
  have h1 := cod_rv hx rf
  have h2 := cod_rv hy rf
  obtain ⟨l, hv, h⟩ := onAgg_ok h
  obtain ⟨j, m, hv2, hm, h⟩ := idx_ok h
  rw [hv] at h1; rw [hv2] at h2
  obtain ⟨us, e1, hr, h1'⟩ := rv_agg h1
  have e2 := rv_int h2
  rw [dr_eq] at h
  obtain ⟨rfl, v, h3, h4⟩ := run_part ha hs hr h1' h
  refine ⟨rfl, .same (v := v) ?_ rh h4⟩
  have hm' : (m : Int) < (len : Int) := by omega
  simp only [Nat.mul_eq] at h3
  simp [execOp, ho, e1, e2, Instr.index, asIntOf, run_underlying ht, hm, run_sizeOf hs, h3]

/-! ### Against nil -/
/-- The model's nils. -/
def isNilV : Value → Bool
  | .pointer none | .slice none _ _ | .map none | .nilFunc | .nilIface => true
  | _ => false
def formOk : NK → TypeDesc → Value → Prop
  | .sl, .slice _, .slice .. => True
  | .ptr, .pointer _, .pointer _ => True
  | .map, .map _ _, .map _ => True
  | .fn, .func _ _ _, .nilFunc | .fn, .func _ _ _, .func .. => True
  | .ifc, .interface _, .nilIface | .ifc, .interface _, .iface .. => True
  | _, _, _ => False
def kindOk : NK → TypeDesc → Prop
  | .sl, .slice _ | .ptr, .pointer _ | .map, .map _ _ | .fn, .func _ _ _ | .ifc, .interface _ => True
  | _, _ => False
theorem isA_form {k : NK} {d : TypeDesc} (hk : kindOk k d) {c : AV} {v : Value} (h : RV E w c v) (hf : c.isA k = true) : formOk k d v ∧ isNilV v = c.isNil := by
  cases k <;> cases d <;> first | exact hk.elim | skip
  all_goals cases h <;> first | exact ⟨trivial, rfl⟩ | cases hf
theorem run_equalIn_one (d : Nat) {k : NK} {t : TypeId} {dd : TypeDesc} (ht : P.underlying t = some dd) {p q : Value} (h1 : formOk k dd p) (h2 : formOk k dd q) (hn : isNilV p = true ∨ isNilV q = true) (w : World) :
    (Op.equalIn (d + 1) t p q).run P w = .ok (isNilV p && isNilV q) w := by
  simp only [Op.equalIn, Sem.run_bind, run_underlying ht, Result.andThen_ok]
  cases k <;> cases dd <;> first | exact h1.elim | skip
  case sl.slice =>
    cases p <;> first | exact h1.elim | skip
    cases q <;> first | exact h2.elim | skip
    rename_i a _ _ b _ _
    cases a <;> cases b <;> first | rfl | (rcases hn with h | h <;> cases h)
  case ptr.pointer =>
    cases p <;> first | exact h1.elim | skip
    cases q <;> first | exact h2.elim | skip
    rename_i a b
    cases a <;> cases b <;> first | rfl | (rcases hn with h | h <;> cases h)
  case map.map =>
    cases p <;> first | exact h1.elim | skip
    cases q <;> first | exact h2.elim | skip
    rename_i a b
    cases a <;> cases b <;> first | rfl | (rcases hn with h | h <;> cases h)
  case fn.func =>
    cases p <;> first | exact h1.elim | skip
    all_goals cases q <;> first | exact h2.elim | skip
    all_goals first | rfl | (rcases hn with h | h <;> cases h)
  case ifc.interface =>
    cases p <;> first | exact h1.elim | skip
    all_goals cases q <;> first | exact h2.elim | skip
    all_goals first | rfl | (rcases hn with h | h <;> cases h)
theorem run_equal_one {k : NK} {t : TypeId} {dd : TypeDesc} (ht : P.underlying t = some dd) {p q : Value} (h1 : formOk k dd p) (h2 : formOk k dd q) (hn : isNilV p = true ∨ isNilV q = true) (w : World) :
    (Op.equal t p q).run P w = .ok (isNilV p && isNilV q) w := run_equalIn_one 9999 ht h1 h2 hn w
theorem run_eqGuard_form (op : BinOp) (t : TypeId) (x y : Operand) {k : NK} {dd : TypeDesc} {p q : Value} (h1 : formOk k dd p) (h2 : formOk k dd q) (hc : (isConst x || isConst y) = true) (w : World) : (eqGuard op t x y p q).run P w = .ok () w := by
  cases op <;> first | rfl | skip
  all_goals
    cases k <;> cases dd <;> first | exact h1.elim | skip
    all_goals cases p <;> first | exact h1.elim | skip
    all_goals cases q <;> first | exact h2.elim | skip
    all_goals first | rfl | (cases x <;> cases y <;> first | (cases hc; done) | simp [eqGuard])
theorem binOp_form {op : BinOp} {neg : Bool} {k : NK} {t : TypeId} {dd : TypeDesc} (hop : (op = .eql ∧ neg = false) ∨ (op = .neq ∧ neg = true)) (ht : P.underlying t = some dd) {p q : Value} (h1 : formOk k dd p) (h2 : formOk k dd q) (hn : isNilV p = true ∨ isNilV q = true) (w : World) :
    (binOp op t p q).run P w = .ok (.bool (neg != (isNilV p && isNilV q))) w := by
  have e := run_equal_one ht h1 h2 hn w
  rcases hop with ⟨rfl, rfl⟩ | ⟨rfl, rfl⟩
  all_goals
    cases k <;> cases dd <;> first | exact h1.elim | skip
    all_goals cases p <;> first | exact h1.elim | skip
    all_goals cases q <;> first | exact h2.elim | skip
    all_goals simp [binOp, e]
theorem s_nileq {op : BinOp} {neg : Bool} {k : NK} {t u : TypeId} {dd : TypeDesc} (hop : (op = .eql ∧ neg = false) ∨ (op = .neq ∧ neg = true)) (ht : P.underlying t = some dd) (hk : kindOk k dd) (hc : (isConst x || isConst y) = true) (ho : o.op = .binOp op t x y u) (hx : cod x = some cx) (hy : cod y = some cy) (rf : RF E w nt f a) (rh : RelH s.obj E w)
    (h : opNeq neg k cx cy call f s = .ok r s') : s' = s ∧ Out P (execOp a.eval o) n n' s.obj E w r s.obj := by
  have h1 := cod_rv hx rf
  have h2 := cod_rv hy rf
  obtain ⟨f1, h⟩ := br_ok h
  obtain ⟨f2, h⟩ := br_ok h
  obtain ⟨g1, e1⟩ := isA_form hk h1 f1
  obtain ⟨g2, e2⟩ := isA_form hk h2 f2
  have key : (isNilV (a.eval x) = true ∨ isNilV (a.eval y) = true) ∧ s' = s ∧ r = .bool (neg != (isNilV (a.eval x) && isNilV (a.eval y))) := by
    cases hp : (ev1 f cx).isNil with
    | true =>
      rw [hp, br_true] at h
      obtain ⟨rfl, rfl⟩ := ok_inj h
      refine ⟨.inl (by rw [e1, hp]), rfl, ?_⟩
      rw [e1, hp, e2]
      cases neg <;> cases (ev1 f cy).isNil <;> rfl
    | false =>
      rw [hp, br_false] at h
      obtain ⟨hq, h⟩ := br_ok h
      obtain ⟨rfl, rfl⟩ := ok_inj h
      refine ⟨.inr (by rw [e2, hq]), rfl, ?_⟩
      rw [e1, hp, e2, hq]
      cases neg <;> rfl
  obtain ⟨hn, rfl, rfl⟩ := key
  refine ⟨rfl, .same (v := .bool (neg != (isNilV (a.eval x) && isNilV (a.eval y)))) ?_ rh (.bool _)⟩
  simp [execOp, ho, run_eqGuard_form op t x y g1 g2 hc, binOp_form hop ht g1 g2 hn]

/-! ### Lengths -/
theorem arr1 {α : Type} {xs : Array α} {x : α} (h : xs.toList = [x]) : xs = #[x] := by rw [← Array.toArray_toList (xs := xs), h]
theorem arr2 {α : Type} {xs : Array α} {x y : α} (h : xs.toList = [x, y]) : xs = #[x, y] := by rw [← Array.toArray_toList (xs := xs), h]
theorem s_lens {t : TypeId} {cl : Call} (ho : o.op = .call cl) (hb : cl.callee = .builtin .len) (ha : cl.args.toList = [x]) (hat : cl.argTypes.toList = [t]) (ht : P.underlying t = some .string) (hx : cod x = some cx) (rf : RF E w nt f a) (rh : RelH s.obj E w)
    (h : opLens cx call f s = .ok r s') : s' = s ∧ Out P (execOp a.eval o) n n' s.obj E w r s.obj := by
  have h1 := cod_rv hx rf
  obtain ⟨l, hv, h⟩ := onStr_ok h
  obtain ⟨rfl, rfl⟩ := ok_inj h
  rw [hv] at h1
  obtain ⟨p, e1, hp⟩ := rv_str h1
  refine ⟨rfl, .same (v := .int .i64 (p.size : Int)) ?_ rh ?_⟩
  · simp [execOp, ho, resolve, hb, arr1 ha, arr1 hat, invoke, builtin, Builtin.len_, run_underlying ht, e1, goInt]
  · have : ln l = p.size := by rw [ln_eq, size_data, hp]
    rw [this]; exact .int _ _
theorem s_len {t e : TypeId} {cl : Call} (ho : o.op = .call cl) (hb : cl.callee = .builtin .len) (ha : cl.args.toList = [x]) (hat : cl.argTypes.toList = [t]) (ht : P.underlying t = some (.slice e)) (hx : cod x = some cx) (rf : RF E w nt f a) (rh : RelH s.obj E w)
    (h : opLen cx call f s = .ok r s') : s' = s ∧ Out P (execOp a.eval o) n n' s.obj E w r s.obj := by
  have h1 := cod_rv hx rf
  have key : ∃ (g : Option Addr) (len cap : Nat), a.eval x = .slice g len cap ∧ s' = s ∧ r = .int .i64 (len : Int) := by
    rcases onSl_ok h with ⟨hv, h⟩ | ⟨b, off, len, cap, ex, hv, h⟩ | ⟨cs, len, cap, ex, hv, h⟩ | ⟨h, _⟩
    · obtain ⟨rfl, rfl⟩ := ok_inj h; rw [hv] at h1; generalize a.eval x = u at h1; cases h1; exact ⟨none, 0, 0, rfl, rfl, rfl⟩
    · obtain ⟨rfl, rfl⟩ := ok_inj h; rw [hv] at h1; generalize a.eval x = u at h1; cases h1; exact ⟨_, _, _, rfl, rfl, rfl⟩
    · obtain ⟨rfl, rfl⟩ := ok_inj h; rw [hv] at h1; generalize a.eval x = u at h1; cases h1; exact ⟨_, _, _, rfl, rfl, rfl⟩
    · exact R.noConfusion h
  obtain ⟨g, len, cap, e1, rfl, rfl⟩ := key
  refine ⟨rfl, .same (v := .int .i64 (len : Int)) ?_ rh (.int _ _)⟩
  simp [execOp, ho, resolve, hb, arr1 ha, arr1 hat, invoke, builtin, Builtin.len_, run_underlying ht, e1, goInt]
theorem s_cap {t e : TypeId} {cl : Call} (ho : o.op = .call cl) (hb : cl.callee = .builtin .cap) (ha : cl.args.toList = [x]) (hat : cl.argTypes.toList = [t]) (ht : P.underlying t = some (.slice e)) (hx : cod x = some cx) (rf : RF E w nt f a) (rh : RelH s.obj E w)
    (h : opCap cx call f s = .ok r s') : s' = s ∧ Out P (execOp a.eval o) n n' s.obj E w r s.obj := by
  have h1 := cod_rv hx rf
  have key : ∃ (g : Option Addr) (len cap : Nat), a.eval x = .slice g len cap ∧ s' = s ∧ r = .int .i64 (cap : Int) := by
    rcases onSl_ok h with ⟨hv, h⟩ | ⟨b, off, len, cap, ex, hv, h⟩ | ⟨cs, len, cap, ex, hv, h⟩ | ⟨h, _⟩
    · obtain ⟨rfl, rfl⟩ := ok_inj h; rw [hv] at h1; generalize a.eval x = u at h1; cases h1; exact ⟨none, 0, 0, rfl, rfl, rfl⟩
    · obtain ⟨hx, h⟩ := br_ok h; obtain ⟨rfl, rfl⟩ := ok_inj h; rw [hv] at h1; generalize a.eval x = u at h1
      cases h1 with | sl _ _ _ _ _ _ _ _ _ h _ => exact ⟨_, _, _, rfl, rfl, by rw [h (Nat.eq_of_beq_eq_true hx)]; rfl⟩
    · obtain ⟨hx, h⟩ := br_ok h; subst hx; obtain ⟨rfl, rfl⟩ := ok_inj h; rw [hv] at h1; generalize a.eval x = u at h1
      cases h1 with | ts _ _ _ _ _ _ _ _ _ _ _ _ _ _ _ h => exact ⟨_, _, _, rfl, rfl, by rw [h rfl]; rfl⟩
    · exact R.noConfusion h
  obtain ⟨g, len, cap, e1, rfl, rfl⟩ := key
  refine ⟨rfl, .same (v := .int .i64 (cap : Int)) ?_ rh (.int _ _)⟩
  simp [execOp, ho, resolve, hb, arr1 ha, arr1 hat, invoke, builtin, Builtin.cap_, run_underlying ht, e1, goInt]
theorem s_lenm {t k e : TypeId} {cl : Call} (ho : o.op = .call cl) (hb : cl.callee = .builtin .len) (ha : cl.args.toList = [x]) (hat : cl.argTypes.toList = [t]) (ht : P.underlying t = some (.map k e)) (hx : cod x = some cx) (rf : RF E w nt f a) (rh : RelH s.obj E w)
    (h : opLenm cx call f s = .ok r s') : s' = s ∧ Out P (execOp a.eval o) n n' s.obj E w r s.obj := by
  have h1 := cod_rv hx rf
  rcases onMap_ok h with ⟨hv, h⟩ | ⟨b, hv, h⟩ | h
  · obtain ⟨rfl, rfl⟩ := ok_inj h
    rw [hv] at h1
    generalize hu : a.eval x = u at h1
    cases h1
    refine ⟨rfl, .same (v := .int .i64 0) ?_ rh (.int _ _)⟩
    simp [execOp, ho, resolve, hb, arr1 ha, arr1 hat, invoke, builtin, Builtin.len_, run_underlying ht, hu, goInt]
  · rw [hv] at h1
    obtain ⟨es, he, h⟩ := onMapO_ok h
    obtain ⟨rfl, rfl⟩ := ok_inj h
    generalize hu : a.eval x = u at h1
    cases h1
    obtain ⟨ms, cl', H⟩ := rh.map b es he
    refine ⟨rfl, .same (v := .int .i64 (ms.size : Int)) ?_ rh ?_⟩
    · have hg : (getObj (E.φ b).block).run P w = .ok (.map ms cl') w := by simp [getObj, Sem.run, H.heap]
      simp [execOp, ho, resolve, hb, arr1 ha, arr1 hat, invoke, builtin, Builtin.len_, run_underlying ht, hu, goInt, hg]
    · have : ln es = ms.size := by have := H.keys.len; simp at this; rw [ln_eq, this]
      rw [this]; exact .int _ _
  · exact R.noConfusion h

/-! ### Texts and bytes -/
theorem byteCells_eq (l : List UInt8) : byteCells l = l.map fun c => AV.int .u8 (c.toNat : Int) := by
  induction l with
  | nil => rfl
  | cons c r ih => show _ :: byteCells r = _; rw [ih]; rfl
theorem bytes_rl (E : Env) (w : World) (l : List UInt8) : RL E w (byteCells l) (l.map fun c => Value.int .u8 (c.toNat : Int)) ∧ ∀ c ∈ byteCells l, c.one = true := by
  induction l with
  | nil => exact ⟨RL.nil _ _, fun c hc => by simp [byteCells] at hc⟩
  | cons c r ih => exact ⟨RL.cons (.int _ _) ih.1, fun a ha => by rcases List.mem_cons.mp ha with rfl | ha <;> first | rfl | exact ih.2 a ha⟩
theorem cellBytes_ok {l : List AV} {k : List UInt8 → R} (h : cellBytes l k = .ok r s') : ∃ ns : List Int, l = ns.map (AV.int .u8) ∧ k (ns.map fun n => UInt8.ofNat n.toNat) = .ok r s' := by
  induction l generalizing k with
  | nil => exact ⟨[], rfl, h⟩
  | cons v l ih =>
    obtain ⟨j, m, rfl, h⟩ := onInt_ok (v := v) h
    obtain ⟨e, h⟩ := br_ok h
    obtain rfl := (keq_iff _ _).mp e
    obtain ⟨ns, el, hk⟩ := ih h
    exact ⟨m :: ns, by rw [el]; rfl, hk⟩
theorem ints_rl {ns : List Int} {us : List Value} (h : RL E w (ns.map (AV.int .u8)) us) : us = ns.map (Value.int .u8) := by
  induction ns generalizing us with
  | nil => exact List.eq_nil_of_length_eq_zero (by simpa using h.len)
  | cons m ns ih =>
    obtain ⟨u, vs, rfl, h1, h2⟩ := RL.cons_inv h
    rw [rv_int h1, ih h2]; rfl
theorem run_bytes_of {ns : List Int} {g off cap : Nat} (hc : ∀ (j : Nat) (u : Value), (ns.map (Value.int .u8))[j]? = some u → w.cell? ⟨g, off + j, none⟩ = some u) :
    (Conv.bytesToString (.slice (some ⟨g, off, none⟩) ns.length cap)).run P w = .ok (.string ⟨(ns.map fun n => UInt8.ofNat n.toNat).toArray⟩) w := by
  have h := run_loadCells_list (P := P) (w := w) ⟨g, off, none⟩ (ns.map (Value.int .u8)) (fun j v hj => by rw [addr_add]; exact hc j v hj)
  rw [List.length_map] at h
  rw [run_bytesToString w _ ns.length cap ns h, foldl_push_bytes]
  simp [ByteArray.empty, ByteArray.emptyWithCapacity]
  rfl
theorem s_tostr {t u e : TypeId} (ht : P.underlying t = some (.slice e)) (he : P.underlying e = some (.int .u8)) (hu : P.underlying u = some .string) (ho : o.op = .convert t u x) (hx : cod x = some cx) (rf : RF E w nt f a) (rh : RelH s.obj E w)
    (h : opToStr cx call f s = .ok r s') : s' = s ∧ Out P (execOp a.eval o) n n' s.obj E w r s.obj := by
  have h1 := cod_rv hx rf
  rcases onSl_ok h with ⟨hv, h⟩ | ⟨b, off, len, cap, ex, hv, h⟩ | ⟨cs, len, cap, ex, hv, h⟩ | ⟨h, _⟩
  · obtain ⟨rfl, rfl⟩ := ok_inj h
    rw [hv] at h1; generalize hq : a.eval x = q at h1; cases h1
    refine ⟨rfl, .same (v := .string ⟨#[]⟩) ?_ rh (.str _ _ rfl)⟩
    simp [execOp, ho, hq, run_convert_bytes_string w t u e _ _ _ ht he hu, Conv.bytesToString]
    rfl
  · rw [hv] at h1
    obtain ⟨ds, hds, h⟩ := onCells_ok h
    obtain ⟨hle, h⟩ := br_ok h
    rw [tk_eq, dr_eq] at h
    obtain ⟨ns, hns, h⟩ := cellBytes_ok h
    obtain ⟨rfl, rfl⟩ := ok_inj h
    obtain ⟨c, ty, us, H⟩ := rh.cells b ds hds
    generalize hq : a.eval x = q at h1
    cases h1 with | sl _ _ _ _ cap' _ hD hlc hc hxx hss =>
    have hrow := (H.row.drop off).take len
    rw [hns] at hrow
    have hus := ints_rl hrow
    have hlen : ns.length = len := by
      have h0 := Nat.le_of_ble_eq_true hle
      rw [ln_eq] at h0
      have h0' : off + len ≤ ds.length := h0
      have := congrArg List.length hns
      rw [List.length_take, List.length_drop, List.length_map] at this
      omega
    refine ⟨rfl, .same (v := .string ⟨(ns.map fun n => UInt8.ofNat n.toNat).toArray⟩) ?_ rh (.str _ _ (by simp))⟩
    have hb := run_bytes_of (P := P) (w := w) (ns := ns) (g := (E.φ b).block) (off := (E.φ b).off + off) (cap := cap') (fun j v hj => by
      rw [← hus, List.getElem?_take] at hj
      split at hj
      · rw [List.getElem?_drop] at hj; rw [Nat.add_assoc]; exact holds_cell H _ v hj
      · cases hj)
    rw [hlen] at hb
    simp [execOp, ho, hq, run_convert_bytes_string w t u e _ _ _ ht he hu, hb]
  · rw [hv] at h1
    obtain ⟨hle, h⟩ := br_ok h
    obtain ⟨ns, hns, h⟩ := cellBytes_ok h
    obtain ⟨rfl, rfl⟩ := ok_inj h
    generalize hq : a.eval x = q at h1
    cases h1 with | ts _ _ _ cap' _ g off us hI hl hcc hr ho1 hlen hcap hxx =>
    subst hns
    have hus := ints_rl ⟨hl, hr⟩
    have hlen : ns.length = len := by
      have h0 := Nat.eq_of_beq_eq_true hle
      rw [ln_eq, List.length_map] at h0
      exact h0.symm
    refine ⟨rfl, .same (v := .string ⟨(ns.map fun n => UInt8.ofNat n.toNat).toArray⟩) ?_ rh (.str _ _ (by simp))⟩
    have hb := run_bytes_of (P := P) (w := w) (ns := ns) (g := g) (off := off) (cap := cap') (fun j v hj => by
      rw [← hus] at hj; exact hcc j v hj)
    rw [hlen] at hb
    simp [execOp, ho, hq, run_convert_bytes_string w t u e _ _ _ ht he hu, hb]
  · exact R.noConfusion h
end
end Go.Vm
