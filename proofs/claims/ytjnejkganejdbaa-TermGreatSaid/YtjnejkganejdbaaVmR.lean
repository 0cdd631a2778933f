/- The abstract machine is sound: every operation. No condition. -/
import Derived.Test.YtjnejkganejdbaaVmQ
namespace Go.Vm
set_option linter.unusedVariables false
variable {P : Program}
/-- From one state to the next. -/
structure Went (s : St) (E : Env) (w : World) (s' : St) (E' : Env) (w' : World) : Prop where
  rel : Rel s' E' w'
  le : s.n.val ≤ s'.n.val
  ext : ExtH s.n.val s'.n.val s.obj E w s'.obj E' w'
/-- Of the table of calls: what it says comes so. -/
def SoundCall (P : Program) (call : CallT) : Prop := ∀ (g : Id) (args : List AV) (s : St) (r : AV) (s' : St), call g args s = .ok r s' →
  (∃ fn, P.funcs[g.val]? = some fn ∧ fn.body.isNone = false ∧ fn.name ≠ "runtime.NumGoroutine") ∧
  ∀ (E : Env) (w : World) (vals : List Value), Rel s E w → RL E w args vals →
    Calls P g.val vals.toArray w fun e w' => ∃ E' v, e = .returned v ∧ RV E' w' r v ∧ Went s E w s' E' w'
/-- An operation, in whatever stands behind it. -/
def OpOut (P : Program) (o : Oper) (a : Act) (s : St) (E : Env) (w : World) (r : AV) (s' : St) : Prop :=
  s.n.val ≤ s'.n.val ∧ ∀ (K : Act → World → Prop) (Q : Exit → Act → World → Prop), (∀ E' w' v, Rel s' E' w' → RV E' w' r v → ExtH s.n.val s'.n.val s.obj E w s'.obj E' w' → K (a.put o.dst v) w') → o.wp P a w K Q
theorem Rel.next {s s' : St} {E E' : Env} {w w' : World} (h : Rel s E w) (hs : s.n.val ≤ s'.n.val) (hr : RelH s'.obj E' w') (he : ExtH s.n.val s'.n.val s.obj E w s'.obj E' w') : Rel s' E' w' :=
  ⟨fun b hb hD => (he.ids b hD).elim (fun h1 => h.n b (Nat.le_trans hs hb) h1) (fun h1 => by omega), hr⟩
theorem OpOut.of {o : Oper} {a : Act} {s s' : St} {E : Env} {w : World} {r : AV} (rel : Rel s E w) (hs : s.n.val ≤ s'.n.val) (h : Out P (execOp a.eval o) s.n.val s'.n.val s.obj E w r s'.obj) : OpOut P o a s E w r s' := by
  refine ⟨hs, fun K Q hK => ?_⟩
  obtain ⟨E', w', v, h1, h2, h3, h4⟩ := h
  have := hK E' w' v (rel.next hs h2 h4) h3 h4
  unfold Oper.wp
  rcases h1 with h1 | ⟨h1, rfl⟩
  · rw [h1]; exact this
  · rw [h1]; exact this
/-- What is shown of an operation, after its kind. -/
def OpGood (P : Program) (call : CallT) (o : Oper) (a : Act) (E : Env) (w : World) (s s' : St) (r : AV) : Kind → Prop
  | .quiet | .read => s' = s ∧ ∀ n n', Out P (execOp a.eval o) n n' s.obj E w r s.obj
  | .alloc => ¬ E.D s.n → s'.n.val = s.n.val + 1 ∧ Out P (execOp a.eval o) s.n.val (s.n.val + 1) s.obj E w r s'.obj
  | .mut => Rel s E w → SoundCall P call → OpOut P o a s E w r s'
section
variable {E : Env} {w : World} {nt : Nat} {f : Fr AV} {a : Act} {s s' : St} {r : AV} {call : CallT} {o : Oper}
theorem good_q (h : ∀ n n', s' = s ∧ Out P (execOp a.eval o) n n' s.obj E w r s.obj) : s' = s ∧ ∀ n n', Out P (execOp a.eval o) n n' s.obj E w r s.obj := ⟨(h 0 0).1, fun n n' => (h n n').2⟩
theorem codo_some {x : Operand} {c : Option CO} (h : codo (some x) = some c) : ∃ d, cod x = some d ∧ c = some d := by
  simp only [codo, Option.map_eq_some_iff] at h
  obtain ⟨d, hd, rfl⟩ := h
  exact ⟨d, hd, rfl⟩
/-- A call comes to what the table says. -/
theorem call_out (rel : Rel s E w) (hc : SoundCall P call) {g : Id} {args : List AV} {vals : List Value} (hrl : RL E w args vals) (h : call g args s = .ok r s')
    (hrun : ∀ fn, P.funcs[g.val]? = some fn → fn.body.isNone = false → fn.name ≠ "runtime.NumGoroutine" → (execOp a.eval o).run P w = .ok (.enter g.val vals.toArray) w) : OpOut P o a s E w r s' := by
  obtain ⟨⟨fn, h1, h2, h3⟩, h4⟩ := hc g args s r s' h
  have h5 := h4 E w vals rel hrl
  refine ⟨?_, fun K Q hK => ?_⟩
  · obtain ⟨e, w', fr, ⟨E', v, _, _, hw⟩, _⟩ := h5 []
    exact hw.le
  unfold Oper.wp
  rw [hrun fn h1 h2 h3]
  refine Calls.mono h5 ?_
  rintro e w' ⟨E', v, rfl, g1, g2⟩
  exact hK E' w' v g2.rel g1 g2.ext
theorem run_callFunc {g : Nat} {fn : Func} (h1 : P.funcs[g]? = some fn) (h2 : fn.body.isNone = false) (h3 : fn.name ≠ "runtime.NumGoroutine") (args : Array Value) (w : World) : (callFunc g args).run P w = .ok (.enter g args) w := by
  have h2' : fn.body ≠ none := by intro h; rw [h] at h2; cases h2
  simp [callFunc, h1, h2', h3]
theorem exop_good_bin {op : BinOp} {t u : TypeId} {x y : Operand} {co : COp} (hop : o.op = .binOp op t x y u) (hc : copBin P op t x y = some co) (rf : RF E w nt f a) (rh : RelH s.obj E w) (h : exop co call f s = .ok r s') : OpGood P call o a E w s s' r co.kind := by
  simp only [copBin, Option.bind_eq_bind, Option.bind_eq_some_iff] at hc
  obtain ⟨cx, hx, cy, hy, k, hk, hc⟩ := hc
  simp only [cmpAt, Option.bind_eq_bind, Option.bind_eq_some_iff] at hk
  obtain ⟨d, hd, hk⟩ := hk
  cases d with
  | int j => cases hk; cases hc; exact good_q fun n n' => s_bin (call := call) hop hx hy rf rh h
  | string => cases hk; cases hc; exact good_q fun n n' => s_bin (call := call) hop hx hy rf rh h
  | bool =>
    cases hk
    cases op <;> first | (cases hc; done) | skip
    · cases hc; exact good_q fun n n' => s_beq (call := call) (neg := false) (.inl ⟨rfl, rfl⟩) hd hop hx hy rf rh h
    · cases hc; exact good_q fun n n' => s_beq (call := call) (neg := true) (.inr ⟨rfl, rfl⟩) hd hop hx hy rf rh h
  | slice e =>
    cases hk
    dsimp only at hc
    split at hc <;> first | (cases hc; done) | skip
    rename_i hcc
    cases op <;> first | (cases hc; done) | skip
    · cases hc; exact good_q fun n n' => s_nileq (call := call) (neg := false) (.inl ⟨rfl, rfl⟩) hd (k := .sl) trivial hcc hop hx hy rf rh h
    · cases hc; exact good_q fun n n' => s_nileq (call := call) (neg := true) (.inr ⟨rfl, rfl⟩) hd (k := .sl) trivial hcc hop hx hy rf rh h
  | pointer e =>
    cases hk
    dsimp only at hc
    split at hc <;> first | (cases hc; done) | skip
    rename_i hcc
    cases op <;> first | (cases hc; done) | skip
    · cases hc; exact good_q fun n n' => s_nileq (call := call) (neg := false) (.inl ⟨rfl, rfl⟩) hd (k := .ptr) trivial hcc hop hx hy rf rh h
    · cases hc; exact good_q fun n n' => s_nileq (call := call) (neg := true) (.inr ⟨rfl, rfl⟩) hd (k := .ptr) trivial hcc hop hx hy rf rh h
  | map k' e =>
    cases hk
    dsimp only at hc
    split at hc <;> first | (cases hc; done) | skip
    rename_i hcc
    cases op <;> first | (cases hc; done) | skip
    · cases hc; exact good_q fun n n' => s_nileq (call := call) (neg := false) (.inl ⟨rfl, rfl⟩) hd (k := .map) trivial hcc hop hx hy rf rh h
    · cases hc; exact good_q fun n n' => s_nileq (call := call) (neg := true) (.inr ⟨rfl, rfl⟩) hd (k := .map) trivial hcc hop hx hy rf rh h
  | func p q b =>
    cases hk
    dsimp only at hc
    split at hc <;> first | (cases hc; done) | skip
    rename_i hcc
    cases op <;> first | (cases hc; done) | skip
    · cases hc; exact good_q fun n n' => s_nileq (call := call) (neg := false) (.inl ⟨rfl, rfl⟩) hd (k := .fn) trivial hcc hop hx hy rf rh h
    · cases hc; exact good_q fun n n' => s_nileq (call := call) (neg := true) (.inr ⟨rfl, rfl⟩) hd (k := .fn) trivial hcc hop hx hy rf rh h
  | interface ms =>
    cases hk
    dsimp only at hc
    split at hc <;> first | (cases hc; done) | skip
    rename_i hcc
    cases op <;> first | (cases hc; done) | skip
    · cases hc; exact good_q fun n n' => s_nileq (call := call) (neg := false) (.inl ⟨rfl, rfl⟩) hd (k := .ifc) trivial hcc hop hx hy rf rh h
    · cases hc; exact good_q fun n n' => s_nileq (call := call) (neg := true) (.inr ⟨rfl, rfl⟩) hd (k := .ifc) trivial hcc hop hx hy rf rh h
  | _ => cases hk
theorem exop_good_conv {t u : TypeId} {x : Operand} {co : COp} (hop : o.op = .convert t u x) (hc : copConv P t u x = some co) (rf : RF E w nt f a) (rh : RelH s.obj E w) (h : exop co call f s = .ok r s') : OpGood P call o a E w s s' r co.kind := by
  simp only [copConv, Option.bind_eq_bind, Option.bind_eq_some_iff] at hc
  obtain ⟨cx, hx, d1, hd1, d2, hd2, hc⟩ := hc
  cases d1 <;> cases d2 <;> first | (cases hc; done) | skip
  · cases hc; exact good_q fun n n' => s_conv (call := call) hd1 hd2 hop hx rf rh h
  · cases hc; exact good_q fun n n' => s_mvs (call := call) hd1 hd2 hop hx rf rh h
  · simp only [Option.bind_eq_some_iff] at hc
    obtain ⟨e, he, hc⟩ := hc
    split at hc <;> first | (cases hc; done) | skip
    cases hc; exact good_q fun n n' => s_tobytes (call := call) hd1 hd2 he hop hx rf rh h
  · simp only [Option.bind_eq_some_iff] at hc
    obtain ⟨e, he, hc⟩ := hc
    split at hc <;> first | (cases hc; done) | skip
    cases hc; exact good_q fun n n' => s_tostr (call := call) hd1 he hd2 hop hx rf rh h
end
end Go.Vm
