/- The abstract machine is sound: operations that make blocks or write them. No condition. -/
import Derived.Test.YtjnejkganejdbaaVmL
import Derived.Laws.MakeOwn
namespace Go.Vm
set_option linter.unusedVariables false
variable {P : Program}
section
variable {E : Env} {w : World} {nt : Nat} {f : Fr AV} {a : Act} {s s' : St} {r : AV} {call : CallT} {n n' : Nat} {o : Oper} {x y z : Operand} {cx cy cz : CO}
theorem lay_ok {v : AV} {k : List AV → R} (h : v.lay k = .ok r s') : ∃ l, l = v.cells ∧ (∀ vs, v ≠ .tup vs) ∧ k l = .ok r s' := by
  cases v <;> first | exact R.noConfusion h | exact ⟨_, rfl, (fun _ h => by cases h), h⟩
theorem valAt_tup {v : Value} {c : AV} (h : valAt v = some c) : ∀ vs, c ≠ .tup vs := by
  intro vs e; subst e
  cases v with
  | agg cs => simp only [valAt, Option.map_eq_some_iff] at h; obtain ⟨l, _, h⟩ := h; cases h
  | _ =>
    simp only [valAt] at h
    unfold valAt1 at h
    split at h <;> cases h
theorem zeroAt_ok {t : TypeId} {l : List AV} (h : zeroAt P t = some l) : ∃ i zv, P.info? t = some i ∧ i.zero = some zv ∧ 0 < i.size ∧ l.length = i.size ∧ ∀ (E : Env) (w : World), RL E w l zv.cells.toList ∧ ∀ c ∈ l, c.one = true := by
  simp only [zeroAt, Option.bind_eq_bind, Option.bind_eq_some_iff] at h
  obtain ⟨i, hi, zv, hz, v, hv, h⟩ := h
  split at h
  · rename_i hc
    cases h
    exact ⟨i, zv, hi, hz, hc.2, hc.1, fun E w => (valAt_rv hv E w).cells (valAt_tup hv)⟩
  · cases h

/-! ### Texts to bytes -/
theorem s_tobytes {t u e : TypeId} (ht : P.underlying t = some .string) (hu : P.underlying u = some (.slice e)) (he : P.underlying e = some (.int .u8)) (ho : o.op = .convert t u x) (hx : cod x = some cx) (rf : RF E w nt f a) (rh : RelH s.obj E w)
    (h : opToBytes cx call f s = .ok r s') : s' = s ∧ Out P (execOp a.eval o) n n' s.obj E w r s.obj := by
  have h1 := cod_rv hx rf
  obtain ⟨l, hv, h⟩ := onStr_ok h
  obtain ⟨rfl, rfl⟩ := ok_inj h
  rw [hv] at h1
  obtain ⟨p, e1, hp⟩ := rv_str h1
  have hsz : ln l = p.size := by rw [ln_eq, size_data, hp]
  have hold := fun k (hk : k < w.heap.size) => Lib.bytesWorld_at_old w e p k hk
  have hws : w.heap.size ≤ (Lib.bytesWorld w e p).heap.size := by rw [Lib.bytesWorld_size]; omega
  let E' : Env := ⟨E.φ, fun k => E.I k ∨ k = w.heap.size, E.D⟩
  have hle : Le E w E' (Lib.bytesWorld w e p) := ⟨fun _ h => h, fun _ _ => rfl, fun _ h => .inl h, fun k hk => hold k (rh.seen k hk), .of_old hold⟩
  refine ⟨rfl, E', Lib.bytesWorld w e p, .slice (some ⟨w.heap.size, 0, none⟩) p.size (grownCap w p.size 0 e), .inl ?_, rel_keep rh hle hold hws ?_, ?_, ?_⟩
  · simp [execOp, ho, e1, Lib.run_convert_string_bytes w t u e p ht hu he]
  · rintro k (hk | rfl)
    · exact .inl hk
    · exact .inr ⟨Nat.le_refl _, by rw [Lib.bytesWorld_size]; omega⟩
  · rw [hsz]
    have hb := bytes_rl E' (Lib.bytesWorld w e p) l
    refine .ts (byteCells l) _ _ _ _ w.heap.size 0 (l.map fun c => Value.int .u8 (c.toNat : Int)) (fun _ => .inr rfl) hb.1.len (fun j u hj => ?_) hb.1.each hb.2 (grownCap_ge w p.size 0 e) (grownCap_ge w p.size 0 e) (fun h => by cases h)
    rw [List.getElem?_map, Option.map_eq_some_iff] at hj
    obtain ⟨c, hc, rfl⟩ := hj
    have hlt : j < l.length := (List.getElem?_eq_some_iff.mp hc).1
    rw [Nat.zero_add, Lib.bytesWorld_cell w e p j (by rw [← hsz, ln_eq]; exact hlt), hp, List.getD, hc]
    rfl
  · exact ⟨fun _ h => h, fun _ _ => rfl, fun _ h => .inl h, fun _ h => .inl h, fun k hk => hk.imp id (fun h => .inl (by rw [h]; exact Nat.le_refl _)), rfl, rfl, rfl, hws, fun k hk _ => hold k hk, .of_old hold, fun b hb => .inl ⟨b, hb, rfl⟩⟩

/-! ### New blocks -/
theorem s_box {t : TypeId} (ho : o.op = .box t x) (hx : cod x = some cx) (rf : RF E w nt f a) (rh : RelH s.obj E w) (hf : ¬ E.D s.n)
    (h : opBox cx call f s = .ok r s') : s'.n.val = s.n.val + 1 ∧ Out P (execOp a.eval o) s.n.val (s.n.val + 1) s.obj E w r s'.obj := by
  have h1 := cod_rv hx rf
  obtain ⟨l, hl, ht, hh⟩ := lay_ok h
  obtain ⟨s1, hn, hs1, hh⟩ := alloc_ok hh
  obtain ⟨rfl, rfl⟩ := ok_inj hh
  obtain ⟨hc, hone⟩ := h1.cells ht
  rw [← hl] at hc hone
  refine ⟨hn, Out.row (us := (a.eval x).cells.toList) (more := []) (w' := w.alloc (.cells (a.eval x).cells t)) (v := .pointer (some ⟨w.heap.size, 0, none⟩)) (e := t) ?_ rh hf hs1 ?_ rfl rfl rfl hc hone (fun E' hle hD hφ => ?_)⟩
  · simp [execOp, ho, Instr.box, newVar, newRow]
  · simp [World.alloc, -World.alloc_eq]
  · have := RV.ptr (E := E') (w := w.alloc (.cells (a.eval x).cells t)) s.n 0 hD
    rwa [hφ] at this
theorem s_alloc {t : TypeId} {l : List AV} (hz : zeroAt P t = some l) (ho : o.op = .alloc t) (rf : RF E w nt f a) (rh : RelH s.obj E w) (hf : ¬ E.D s.n)
    (h : opAlloc l call f s = .ok r s') : s'.n.val = s.n.val + 1 ∧ Out P (execOp a.eval o) s.n.val (s.n.val + 1) s.obj E w r s'.obj := by
  obtain ⟨i, zv, hi, hzv, _, _, hrow⟩ := zeroAt_ok hz
  obtain ⟨s1, hn, hs1, hh⟩ := alloc_ok h
  obtain ⟨rfl, rfl⟩ := ok_inj hh
  refine ⟨hn, Out.row (us := zv.cells.toList) (more := []) (w' := w.alloc (.cells zv.cells t)) (v := .pointer (some ⟨w.heap.size, 0, none⟩)) (e := t) ?_ rh hf hs1 ?_ rfl rfl rfl (hrow E w).1 (hrow E w).2 (fun E' hle hD hφ => ?_)⟩
  · simp [execOp, ho, Instr.alloc, newVar, newRow, zeroValue, typeInfo, hi, hzv]
  · simp [World.alloc, -World.alloc_eq]
  · have := RV.ptr (E := E') (w := w.alloc (.cells zv.cells t)) s.n 0 hD
    rwa [hφ] at this
theorem s_mkmap {t : TypeId} (ho : o.op = .makeMap t none) (rf : RF E w nt f a) (rh : RelH s.obj E w) (hf : ¬ E.D s.n)
    (h : opMkmap call f s = .ok r s') : s'.n.val = s.n.val + 1 ∧ Out P (execOp a.eval o) s.n.val (s.n.val + 1) s.obj E w r s'.obj := by
  obtain ⟨s1, hn, hs1, hh⟩ := alloc_ok h
  obtain ⟨rfl, rfl⟩ := ok_inj hh
  refine ⟨hn, Out.make (w' := w.alloc (.map #[] 0)) (v := .map (some w.heap.size)) ?_ rh hf hs1 rfl rfl rfl rfl (fun E' hle hφ => ⟨(fun cs hcs => by cases hcs), fun es hes => ?_⟩) (fun E' hle hD hφ => ?_)⟩
  · simp [execOp, ho, Instr.makeMap]
  · cases hes
    refine ⟨#[], 0, ?_, RL.nil _ _, RL.nil _ _, ⟨fun i e h => by simp at h, fun i j e e' h => by simp at h⟩⟩
    rw [hφ]; simp [World.alloc, -World.alloc_eq]
  · have := RV.map (E := E') (w := w.alloc (.map #[] 0)) s.n hD
    rwa [hφ] at this
theorem idx_i64 {m : Nat} (h : m < limit) : IntKind.i64.wrap (m : Int) = (m : Int) := by
  have : (m : Int) < 140737488355328 := by unfold limit at h; omega
  simp only [IntKind.wrap, IntKind.bits, IntKind.signed]; simp; omega
theorem reps_rl {E : Env} {w : World} {cs : List AV} {us : List Value} (h : RL E w cs us) (m : Nat) : RL E w (reps m cs) (reps m us) := by
  induction m with
  | zero => exact RL.nil _ _
  | succ m ih =>
    show RL E w (apd cs (reps m cs)) (apd us (reps m us))
    rw [apd_eq, apd_eq]; exact h.append ih
theorem reps_one {cs : List AV} (h : ∀ c ∈ cs, c.one = true) (m : Nat) : ∀ c ∈ reps m cs, c.one = true := by
  induction m with
  | zero => intro c hc; cases hc
  | succ m ih =>
    intro c hc
    have hc' : c ∈ apd cs (reps m cs) := hc
    rw [apd_eq, List.mem_append] at hc'
    exact hc'.elim (h c) (ih c)
theorem madeCells_reps (z : Array Value) (m : Nat) : (madeCells z (m * z.size)).toList = reps m z.toList := by
  apply List.ext_getElem?
  intro j
  by_cases hj : j < m * z.size
  · have hz : 0 < z.size := by
      rcases Nat.eq_zero_or_pos z.size with h | h
      · rw [h, Nat.mul_zero] at hj; omega
      · exact h
    rw [reps_get _ _ _ (by rw [Array.length_toList]; exact hj)]
    have : j % z.size < z.size := Nat.mod_lt _ hz
    simp [madeCells, hj, this]
  · rw [List.getElem?_eq_none (by simp [madeCells]; omega), List.getElem?_eq_none (by rw [reps_length, Array.length_toList]; omega)]
theorem s_mksl {t e : TypeId} {l : List AV} {i : TypeInfo} (ht : P.underlying t = some (.slice e)) (hi : P.info? e = some i) (hz : zeroAt P e = some l) (ho : o.op = .makeSlice t x y) (hx : cod x = some cx) (hy : cod y = some cy) (rf : RF E w nt f a) (rh : RelH s.obj E w) (hf : ¬ E.D s.n)
    (h : opMksl i.bytes l cx cy call f s = .ok r s') : s'.n.val = s.n.val + 1 ∧ Out P (execOp a.eval o) s.n.val (s.n.val + 1) s.obj E w r s'.obj := by
  have h1 := cod_rv hx rf
  have h2 := cod_rv hy rf
  obtain ⟨j, m, hv, hm, hh⟩ := idx_ok h
  obtain ⟨k, c, hv2, hc, hh⟩ := idx_ok hh
  obtain ⟨hle1, hh⟩ := br_ok hh
  obtain ⟨hle2, hh⟩ := br_ok hh
  obtain ⟨s1, hn, hs1, hh⟩ := alloc_ok hh
  obtain ⟨rfl, rfl⟩ := ok_inj hh
  rw [hv] at h1; rw [hv2] at h2
  have e1 := rv_int h1
  have e2 := rv_int h2
  obtain ⟨i', zv, hi', hzv, hpos, hlen, hrow⟩ := zeroAt_ok hz
  rw [hi] at hi'; cases hi'
  have hle1' : m ≤ c := Nat.le_of_ble_eq_true hle1
  have hle2' : c * i.bytes ≤ limit := Nat.le_of_ble_eq_true hle2
  have hzs : zv.cells.size = i.size := by rw [← hlen, ← (hrow E w).1.len, Array.length_toList]
  have hrun := run_make (P := P) w t e i zv ht hi hzv j k (m : Int) (c : Int) (by omega) (by omega) (by unfold limit at hle2'; rw [← Int.natCast_mul, Nat.mul_comm]; omega) (by unfold limit at hc; omega)
  simp only [Int.toNat_natCast] at hrun
  refine ⟨hn, Out.row (us := reps c zv.cells.toList) (more := []) (w' := w.alloc (.cells (madeCells zv.cells (c * i.size)) e)) (v := .slice (some ⟨w.heap.size, 0, none⟩) m c) (e := e) ?_ rh hf hs1 ?_ rfl rfl rfl (reps_rl (hrow E w).1 c) (reps_one (hrow E w).2 c) (fun E' hle hD hφ => ?_)⟩
  · simp [execOp, ho, e1, e2, hrun]
  · have : madeCells zv.cells (c * i.size) = (reps c zv.cells.toList ++ []).toArray := by
      apply Array.ext'
      rw [← hzs, madeCells_reps]; simp
    rw [this]; rfl
  · have := RV.sl (E := E') (w := w.alloc (.cells (madeCells zv.cells (c * i.size)) e)) s.n 0 m c c 0 hD hle1' (Nat.le_refl _) (fun _ => rfl) (fun h => absurd rfl h)
    rwa [hφ] at this

/-! ### Writing -/
theorem run_storeVar_vm {t : TypeId} {sz : Nat} (hs : sizeAt P t = some sz) {v : Value} (hv : v.cells.size = sz) (ad : Addr) (w : World) : (storeVar t ad v).run P w = (storeCells ad v.cells.toList).run P w := by
  simp [storeVar, run_sizeOf hs, hv]
theorem s_store {t : TypeId} {sz : Nat} (hs : sizeAt P t = some sz) (ho : o.op = .store t x y) (hx : cod x = some cx) (hy : cod y = some cy) (rf : RF E w nt f a) (rh : RelH s.obj E w)
    (h : opStore sz cx cy call f s = .ok r s') : s'.n = s.n ∧ Out P (execOp a.eval o) n n' s.obj E w r s'.obj := by
  have h1 := cod_rv hx rf
  have h2 := cod_rv hy rf
  rcases onPtr_ok h with ⟨b, off, hv, hh⟩ | ⟨cs, hv, hh⟩
  · rw [hv] at h1
    obtain ⟨cs, hcs, hh⟩ := onCells_ok hh
    obtain ⟨l, hl, htup, hh⟩ := lay_ok hh
    obtain ⟨c1, hh⟩ := br_ok hh
    obtain ⟨c2, hh⟩ := br_ok hh
    obtain ⟨rfl, rfl⟩ := ok_inj hh
    generalize hu : a.eval x = u at h1
    cases h1
    obtain ⟨hrow, hone⟩ := h2.cells htup
    rw [← hl] at hrow hone
    have e1 : l.length = sz := by have := Nat.eq_of_beq_eq_true c1; rwa [ln_eq] at this
    have e2 : off + sz ≤ cs.length := by have := Nat.le_of_ble_eq_true c2; rwa [ln_eq] at this
    have e3 : (a.eval y).cells.size = sz := by rw [← e1, ← hrow.len, Array.length_toList]
    obtain ⟨w', k1, k2, k3, k4⟩ := write_row (P := P) (s' := s.put b (.cells (splice off l cs))) n n' rh hcs (fun c => St.obj_put s b c _) hrow hone (by omega)
    refine ⟨by simp, E, w', Go.undef, .inr ⟨?_, rfl⟩, k3, RV.undef E w', k4⟩
    simp [execOp, ho, hu, Instr.storeAt, Instr.sureAddr, run_storeVar_vm hs e3, k1]
  · exact R.noConfusion hh
end
end Go.Vm
