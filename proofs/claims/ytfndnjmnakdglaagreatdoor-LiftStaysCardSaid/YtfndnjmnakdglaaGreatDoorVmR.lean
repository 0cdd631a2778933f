/- The abstract machine is sound: every operation, code, calls. No condition. -/
import Derived.Test.YtfndnjmnakdglaaGreatDoorVmL
import Derived.Scope
import Derived.LoopN
import Derived.Tactics
namespace Go.Vm
set_option linter.unusedVariables false
variable {P : Program}
structure Went [Lay] (s : St) (E : Env) (w : World) (s' : St) (E' : Env) (w' : World) : Prop where
  rel : Rel s' E' w'
  le : s.n.val ≤ s'.n.val
  ext : ExtH s.n.val s'.n.val s.obj E w s'.obj E' w'
def SoundCall [Lay] (P : Program) (call : CallT) : Prop := ∀ (g : Id) (args : List AV) (s : St) (r : AV) (s' : St), call g args s = .ok r s' →
  (∃ fn, P.funcs[g.val]? = some fn ∧ fn.body.isNone = false ∧ fn.name ≠ "runtime.NumGoroutine") ∧
  ∀ (E : Env) (w : World) (vals : List Value), Rel s E w → RL E w args vals →
    Calls P g.val vals.toArray w fun e w' => ∃ E' v, e = .returned v ∧ RV E' w' r v ∧ Went s E w s' E' w'
def OpOut [Lay] (P : Program) (o : Oper) (a : Act) (s : St) (E : Env) (w : World) (r : AV) (s' : St) : Prop :=
  s.n.val ≤ s'.n.val ∧ ∀ (K : Act → World → Prop) (Q : Exit → Act → World → Prop), (∀ E' w' v, Rel s' E' w' → RV E' w' r v → ExtH s.n.val s'.n.val s.obj E w s'.obj E' w' → K (a.put o.dst v) w') → o.wp P a w K Q
theorem Rel.next [Lay] {s s' : St} {E E' : Env} {w w' : World} (h : Rel s E w) (hs : s.n.val ≤ s'.n.val) (hr : RelH s'.obj E' w') (he : ExtH s.n.val s'.n.val s.obj E w s'.obj E' w') : Rel s' E' w' :=
  ⟨fun b hb hD => (he.ids b hD).elim (fun h1 => h.n b (Nat.le_trans hs hb) h1) (fun h1 => by omega), hr, h.laid.le (he.le h.h)⟩
theorem OpOut.of [Lay] {o : Oper} {a : Act} {s s' : St} {E : Env} {w : World} {r : AV} (rel : Rel s E w) (hs : s.n.val ≤ s'.n.val) (h : Out P (execOp a.eval o) s.n.val s'.n.val s.obj E w r s'.obj) : OpOut P o a s E w r s' := by
  refine ⟨hs, fun K Q hK => ?_⟩
  obtain ⟨E', w', v, h1, h2, h3, h4⟩ := h
  have := hK E' w' v (rel.next hs h2 h4) h3 h4
  unfold Oper.wp
  rcases h1 with h1 | ⟨h1, rfl⟩
  · rw [h1]; exact this
  · rw [h1]; exact this
def OpGood [Lay] (P : Program) (call : CallT) (o : Oper) (a : Act) (E : Env) (w : World) (s s' : St) (r : AV) : Kind → Prop
  | .quiet | .read => s' = s ∧ ∀ n n', Out P (execOp a.eval o) n n' s.obj E w r s.obj
  | .alloc => ¬ E.D s.n → s'.n.val = s.n.val + 1 ∧ Out P (execOp a.eval o) s.n.val (s.n.val + 1) s.obj E w r s'.obj
  | .mut => Rel s E w → SoundCall P call → OpOut P o a s E w r s'
section
variable {E : Env} {w : World} {nt : Nat} {f : Fr AV} {a : Act} {s s' : St} {r : AV} {call : CallT} {o : Oper}
theorem good_q (h : ∀ n n', s' = s ∧ Out P (execOp a.eval o) n n' s.obj E w r s.obj) : s' = s ∧ ∀ n n', Out P (execOp a.eval o) n n' s.obj E w r s.obj := ⟨(h 0 0).1, fun n n' => (h n n').2⟩
theorem call_out [Lay] (rel : Rel s E w) (hc : SoundCall P call) {g : Id} {args : List AV} {vals : List Value} (hrl : RL E w args vals) (h : call g args s = .ok r s')
    (hrun : ∀ fn, P.funcs[g.val]? = some fn → fn.body.isNone = false → fn.name ≠ "runtime.NumGoroutine" → (execOp a.eval o).run P w = .ok (.enter g.val vals.toArray) w) : OpOut P o a s E w r s' := by
  obtain ⟨⟨fn, h1, h2, h3⟩, h4⟩ := hc g args s r s' h
  have h5 := h4 E w vals rel hrl
  refine ⟨?_, fun K Q hK => ?_⟩
  · obtain ⟨e, w', fr, ⟨E', v, _, _, hw⟩, _⟩ := h5 []
    exact hw.le
  unfold Oper.wp
  rw [hrun fn h1 h2 h3]
  refine Calls.mono h5 ?_
  rintro e w' ⟨E', v, rfl, g1, g2⟩
  exact hK E' w' v g2.rel g1 g2.ext
theorem run_callFunc {g : Nat} {fn : Func} (h1 : P.funcs[g]? = some fn) (h2 : fn.body.isNone = false) (h3 : fn.name ≠ "runtime.NumGoroutine") (args : Array Value) (w : World) : (callFunc g args).run P w = .ok (.enter g args) w := by
  have h2' : fn.body ≠ none := by intro h; rw [h] at h2; cases h2
  simp [callFunc, h1, h2', h3]
theorem exop_good_bin [Lay] {op : BinOp} {t u : TypeId} {x y : Operand} {co : COp} (hop : o.op = .binOp op t x y u) (hc : copBin P op t x y = some co) (rf : RF E w nt f a) (rh : RelH s.obj E w) (h : exop co call f s = .ok r s') : OpGood P call o a E w s s' r co.kind := by
  simp only [copBin, Option.bind_eq_bind, Option.bind_eq_some_iff] at hc
  obtain ⟨cx, hx, cy, hy, k, hk, hc⟩ := hc
  simp only [cmpAt, Option.bind_eq_bind, Option.bind_eq_some_iff] at hk
  obtain ⟨d, hd, hk⟩ := hk
  cases d with
  | int j => cases hk; cases hc; exact good_q fun n n' => s_bin (call := call) hop hx hy rf rh h
  | string => cases hk; cases hc; exact good_q fun n n' => s_bin (call := call) hop hx hy rf rh h
  | bool =>
    cases hk
    cases op <;> first | (cases hc; done) | skip
    · cases hc; exact good_q fun n n' => s_beq (call := call) (neg := false) (.inl ⟨rfl, rfl⟩) hd hop hx hy rf rh h
    · cases hc; exact good_q fun n n' => s_beq (call := call) (neg := true) (.inr ⟨rfl, rfl⟩) hd hop hx hy rf rh h
  | struct fs =>
    dsimp only at hk
    split at hk <;> first | (cases hk; done) | skip
    rename_i hcond
    simp only [Bool.and_eq_true, Bool.not_eq_true'] at hcond
    obtain ⟨c, hc', rfl⟩ := Option.map_eq_some_iff.1 hk
    cases op <;> first | (cases hc; done) | skip
    · cases hc; exact good_q fun n n' => s_aggeq (call := call) (neg := false) (.inl ⟨rfl, rfl⟩) hd hc' hcond.1 hcond.2 hop hx hy rf rh h
    · cases hc; exact good_q fun n n' => s_aggeq (call := call) (neg := true) (.inr ⟨rfl, rfl⟩) hd hc' hcond.1 hcond.2 hop hx hy rf rh h
  | slice e =>
    cases hk
    dsimp only at hc
    split at hc <;> first | (cases hc; done) | skip
    rename_i hcc
    cases op <;> first | (cases hc; done) | skip
    · cases hc; exact good_q fun n n' => s_nileq (call := call) (neg := false) (.inl ⟨rfl, rfl⟩) hd (k := .sl) trivial hcc hop hx hy rf rh h
    · cases hc; exact good_q fun n n' => s_nileq (call := call) (neg := true) (.inr ⟨rfl, rfl⟩) hd (k := .sl) trivial hcc hop hx hy rf rh h
  | pointer e =>
    cases hk
    dsimp only at hc
    split at hc <;> first | (cases hc; done) | skip
    rename_i hcc
    cases op <;> first | (cases hc; done) | skip
    · cases hc; exact good_q fun n n' => s_nileq (call := call) (neg := false) (.inl ⟨rfl, rfl⟩) hd (k := .ptr) trivial hcc hop hx hy rf rh h
    · cases hc; exact good_q fun n n' => s_nileq (call := call) (neg := true) (.inr ⟨rfl, rfl⟩) hd (k := .ptr) trivial hcc hop hx hy rf rh h
  | map k' e =>
    cases hk
    dsimp only at hc
    split at hc <;> first | (cases hc; done) | skip
    rename_i hcc
    cases op <;> first | (cases hc; done) | skip
    · cases hc; exact good_q fun n n' => s_nileq (call := call) (neg := false) (.inl ⟨rfl, rfl⟩) hd (k := .map) trivial hcc hop hx hy rf rh h
    · cases hc; exact good_q fun n n' => s_nileq (call := call) (neg := true) (.inr ⟨rfl, rfl⟩) hd (k := .map) trivial hcc hop hx hy rf rh h
  | func p q b =>
    cases hk
    dsimp only at hc
    split at hc <;> first | (cases hc; done) | skip
    rename_i hcc
    cases op <;> first | (cases hc; done) | skip
    · cases hc; exact good_q fun n n' => s_nileq (call := call) (neg := false) (.inl ⟨rfl, rfl⟩) hd (k := .fn) trivial hcc hop hx hy rf rh h
    · cases hc; exact good_q fun n n' => s_nileq (call := call) (neg := true) (.inr ⟨rfl, rfl⟩) hd (k := .fn) trivial hcc hop hx hy rf rh h
  | interface ms =>
    cases hk
    dsimp only at hc
    split at hc <;> first | (cases hc; done) | skip
    rename_i hcc
    cases op <;> first | (cases hc; done) | skip
    · cases hc; exact good_q fun n n' => s_nileq (call := call) (neg := false) (.inl ⟨rfl, rfl⟩) hd (k := .ifc) trivial hcc hop hx hy rf rh h
    · cases hc; exact good_q fun n n' => s_nileq (call := call) (neg := true) (.inr ⟨rfl, rfl⟩) hd (k := .ifc) trivial hcc hop hx hy rf rh h
  | _ => cases hk
theorem exop_good_conv [Lay] {t u : TypeId} {x : Operand} {co : COp} (hop : o.op = .convert t u x) (hc : copConv P t u x = some co) (rf : RF E w nt f a) (rh : RelH s.obj E w) (h : exop co call f s = .ok r s') : OpGood P call o a E w s s' r co.kind := by
  simp only [copConv, Option.bind_eq_bind, Option.bind_eq_some_iff] at hc
  obtain ⟨cx, hx, d1, hd1, d2, hd2, hc⟩ := hc
  cases d1 <;> cases d2 <;> first | (cases hc; done) | skip
  · cases hc; exact good_q fun n n' => s_conv (call := call) hd1 hd2 hop hx rf rh h
  · cases hc; exact good_q fun n n' => s_mvs (call := call) hd1 hd2 hop hx rf rh h
  · simp only [Option.bind_eq_some_iff] at hc
    obtain ⟨e, he, hc⟩ := hc
    split at hc <;> first | (cases hc; done) | skip
    cases hc; exact good_q fun n n' => s_tobytes (call := call) hd1 hd2 he hop hx rf rh h
  · simp only [Option.bind_eq_some_iff] at hc
    obtain ⟨e, he, hc⟩ := hc
    split at hc <;> first | (cases hc; done) | skip
    cases hc; exact good_q fun n n' => s_tostr (call := call) hd1 he hd2 hop hx rf rh h
end
end Go.Vm
namespace Go.Vm
set_option linter.unusedVariables false
variable {P : Program}
section
variable {E : Env} {w : World} {nt : Nat} {f : Fr AV} {a : Act} {s s' : St} {r : AV} {call : CallT} {o : Oper}
theorem toArr {xs : Array Operand} (g : Operand → Value) : (xs.toList.map g).toArray = xs.map g := by apply Array.ext'; simp
theorem exop_good_call [Lay] {cl : Call} {co : COp} (hop : o.op = .call cl) (hc : copCall P cl = some co) (rf : RF E w nt f a) (rh : RelH s.obj E w) (h : exop co call f s = .ok r s') : OpGood P call o a E w s s' r co.kind := by
  unfold copCall at hc
  split at hc
  · -- a function of the program's
    rename_i g hcal
    split at hc <;> first | (cases hc; done) | skip
    rename_i hg
    simp only [Option.bind_eq_bind, Option.bind_eq_some_iff] at hc
    obtain ⟨cs, hcs, hc⟩ := hc
    cases hc
    have hrl := cods_rl hcs rf
    intro rel hsc
    refine call_out rel hsc (vals := cl.args.toList.map a.eval) hrl h (fun fn h1 h2 h3 => ?_)
    rw [Id.val_ofNat hg] at h1 ⊢
    rw [toArr]
    simp [execOp, hop, resolve, hcal, Act.eval, Deferred.ofValue, invoke, run_callFunc h1 h2 h3]
  · -- a value
    rename_i x hne hcal
    simp only [Option.bind_eq_bind, Option.bind_eq_some_iff] at hc
    obtain ⟨cx, hx, cs, hcs, hc⟩ := hc
    cases hc
    have hrl := cods_rl hcs rf
    have h1 := cod_rv hx rf
    obtain ⟨g, as, bs, hv, hh⟩ := onFn_ok h
    rw [hv] at h1
    generalize hu : a.eval x = u at h1
    cases h1 with | fn _ _ _ us vs hl hr hm hs =>
    rw [apd_eq, apd_eq] at hh
    intro rel hsc
    have hrow : RL E w (as ++ (evs f cs ++ bs)) (us ++ (cl.args.toList.map a.eval ++ vs)) := RL.append ⟨hl, hr⟩ (hrl.append ⟨hm, hs⟩)
    refine call_out rel hsc hrow hh (fun fn h1 h2 h3 => ?_)
    have e : (us ++ (cl.args.toList.map a.eval ++ vs)).toArray = us.toArray ++ cl.args.map a.eval ++ vs.toArray := by apply Array.ext'; simp
    rw [e]
    simp [execOp, hop, resolve, hcal, hu, Deferred.ofValue, invoke, run_callFunc h1 h2 h3]
  · -- len
    rename_i hcal
    split at hc <;> first | (cases hc; done) | skip
    rename_i x t ha hat
    simp only [Option.bind_eq_bind, Option.bind_eq_some_iff] at hc
    obtain ⟨d, hd, hc⟩ := hc
    cases d <;> first | (cases hc; done) | skip
    all_goals
      simp only [Option.bind_eq_some_iff] at hc
      obtain ⟨cx, hx, hc⟩ := hc
      cases hc
    · exact good_q fun n n' => s_lens (call := call) hop hcal ha hat hd hx rf rh h
    · exact good_q fun n n' => s_len (call := call) hop hcal ha hat hd hx rf rh h
    · exact good_q fun n n' => s_lenm (call := call) hop hcal ha hat hd hx rf rh h
  · -- cap
    rename_i hcal
    split at hc <;> first | (cases hc; done) | skip
    rename_i x t ha hat
    simp only [Option.bind_eq_bind, Option.bind_eq_some_iff] at hc
    obtain ⟨d, hd, hc⟩ := hc
    cases d <;> first | (cases hc; done) | skip
    simp only [Option.bind_eq_some_iff] at hc
    obtain ⟨cx, hx, hc⟩ := hc
    cases hc
    exact good_q fun n n' => s_cap (call := call) hop hcal ha hat hd hx rf rh h
  · rename_i hcal
    split at hc <;> first | (cases hc; done) | skip
    rename_i x rs ha
    simp only [Option.bind_eq_bind, Option.bind_eq_some_iff] at hc
    obtain ⟨cx, hx, crs, hrs, hc⟩ := hc
    cases hc
    exact good_q fun n n' => s_mm (mx := true) (call := call) hop hcal ha hx hrs rf rh h
  · rename_i hcal
    split at hc <;> first | (cases hc; done) | skip
    rename_i x rs ha
    simp only [Option.bind_eq_bind, Option.bind_eq_some_iff] at hc
    obtain ⟨cx, hx, crs, hrs, hc⟩ := hc
    cases hc
    exact good_q fun n n' => s_mm (mx := false) (call := call) hop hcal ha hx hrs rf rh h
  · -- append
    rename_i hcal
    split at hc <;> first | (cases hc; done) | skip
    rename_i x y t u ha hat
    simp only [Option.bind_eq_bind, Option.bind_eq_some_iff] at hc
    obtain ⟨d, hd, hc⟩ := hc
    cases d <;> first | (cases hc; done) | skip
    simp only [Option.bind_eq_some_iff] at hc
    obtain ⟨i, hi, z, hz, d2, hd2, hc⟩ := hc
    cases d2 <;> dsimp only at hc <;> first | (cases hc; done) | skip
    · split at hc <;> first | (cases hc; done) | skip
      simp only [Option.bind_eq_some_iff] at hc
      obtain ⟨cx, hx, cy, hy, hc⟩ := hc
      cases hc
      intro rel hsc
      have hh := s_app (call := call) hd hi hz (.inr hd2) hop hcal ha hat hx hy rf rh (rel.n s.n (Nat.le_refl _)) h
      exact .of rel hh.1 hh.2
    · simp only [Option.bind_eq_some_iff] at hc
      obtain ⟨cx, hx, cy, hy, hc⟩ := hc
      cases hc
      intro rel hsc
      have hh := s_app (call := call) hd hi hz (.inl ⟨_, hd2⟩) hop hcal ha hat hx hy rf rh (rel.n s.n (Nat.le_refl _)) h
      exact .of rel hh.1 hh.2
  · cases hc
theorem exop_good [Lay] {co : COp} (hc : cop P o.op = some co) (rf : RF E w nt f a) (rh : RelH s.obj E w) (h : exop co call f s = .ok r s') : OpGood P call o a E w s s' r co.kind := by
  cases hop : o.op with
  | move x => rw [hop] at hc; simp only [cop, Option.map_eq_some_iff] at hc; obtain ⟨cx, hx, rfl⟩ := hc; exact good_q fun n n' => s_mv (call := call) (.inl hop) hx rf rh h
  | assign x => rw [hop] at hc; simp only [cop, Option.map_eq_some_iff] at hc; obtain ⟨cx, hx, rfl⟩ := hc; exact good_q fun n n' => s_mv (call := call) (.inr hop) hx rf rh h
  | pick c x y =>
    rw [hop] at hc; simp only [cop, Option.bind_eq_bind, Option.bind_eq_some_iff] at hc
    obtain ⟨c1, h1, c2, h2, c3, h3, hc⟩ := hc; cases hc
    exact good_q fun n n' => s_pick (call := call) hop h1 h2 h3 rf rh h
  | alloc t => rw [hop] at hc; simp only [cop, Option.map_eq_some_iff] at hc; obtain ⟨z, hz, rfl⟩ := hc; exact fun hf => s_alloc (call := call) hz hop rf rh hf h
  | box t x => rw [hop] at hc; simp only [cop, Option.map_eq_some_iff] at hc; obtain ⟨cx, hx, rfl⟩ := hc; exact fun hf => s_box (call := call) hop hx rf rh hf h
  | build t ps =>
    rw [hop] at hc; simp only [cop, Option.bind_eq_bind, Option.bind_eq_some_iff] at hc
    obtain ⟨z, hz, d, hd, hc⟩ := hc
    cases d <;> first | (cases hc; done) | skip
    · simp only [Option.bind_eq_some_iff] at hc
      obtain ⟨sz, hs, cps, hcps, hc⟩ := hc; cases hc
      exact good_q fun n n' => s_abuild (call := call) hz hd hs hcps hop rf rh h
    · simp only [Option.bind_eq_some_iff] at hc
      obtain ⟨pl, hpl, cps, hcps, hc⟩ := hc; cases hc
      exact good_q fun n n' => s_build (call := call) hz hd hpl hcps hop rf rh h
  | buildSlice t len ps =>
    rw [hop] at hc; simp only [cop, Option.bind_eq_bind, Option.bind_eq_some_iff] at hc
    obtain ⟨d, hd, hc⟩ := hc
    cases d <;> first | (cases hc; done) | skip
    simp only [Option.bind_eq_some_iff] at hc
    obtain ⟨sz, hs, z, hz, hc⟩ := hc
    split at hc <;> first | (cases hc; done) | skip
    rename_i hlen
    simp only [Option.bind_eq_some_iff] at hc
    obtain ⟨cps, hcps, hc⟩ := hc; cases hc
    exact fun hf => s_blit (call := call) hd hs hz hlen hcps hop rf rh hf h
  | load t x =>
    rw [hop] at hc; simp only [cop, Option.bind_eq_bind, Option.bind_eq_some_iff] at hc
    obtain ⟨ag, ha, sz, hs, cx, hx, hc⟩ := hc; cases hc
    exact good_q fun n n' => s_load (call := call) hop ha hs hx rf rh h
  | store t x y =>
    rw [hop] at hc; simp only [cop, Option.bind_eq_bind, Option.bind_eq_some_iff] at hc
    obtain ⟨sz, hs, cx, hx, cy, hy, hc⟩ := hc; cases hc
    intro rel hsc
    have hh := s_store (call := call) (n := s.n.val) (n' := s'.n.val) hs hop hx hy rf rh h
    exact .of rel (by rw [hh.1]; exact Nat.le_refl _) hh.2
  | nilCheck x => rw [hop] at hc; simp only [cop, Option.map_eq_some_iff] at hc; obtain ⟨cx, hx, rfl⟩ := hc; exact good_q fun n n' => s_nilck (call := call) hop hx rf rh h
  | binOp op t x y u => rw [hop] at hc; exact exop_good_bin hop hc rf rh h
  | unOp op t x =>
    rw [hop] at hc
    cases op <;> first | (cases hc; done) | skip
    all_goals simp only [cop, Option.map_eq_some_iff] at hc
    all_goals first | (obtain ⟨cx, hx, rfl⟩ := hc) | (cases hc; done)
    · exact good_q fun n n' => s_neg (call := call) hop hx rf rh h
    · exact good_q fun n n' => s_not (call := call) hop hx rf rh h
  | convert t u x => rw [hop] at hc; exact exop_good_conv hop hc rf rh h
  | makeInterface t x =>
    rw [hop] at hc; simp only [cop, Option.bind_eq_bind, Option.bind_eq_some_iff] at hc
    obtain ⟨d, hd, hc⟩ := hc
    split at hc <;> first | (cases hc; done) | skip
    rename_i hni
    simp only [Option.bind_eq_some_iff] at hc
    obtain ⟨cx, hx, hc⟩ := hc; cases hc
    exact good_q fun n n' => s_mkif (call := call) hd (fun ms he => hni ms he) hop hx rf rh h
  | makeFunc g as bs =>
    rw [hop] at hc
    cases g <;> first | (cases hc; done) | skip
    rename_i g
    simp only [cop] at hc
    split at hc <;> first | (cases hc; done) | skip
    rename_i hg
    simp only [Option.bind_eq_bind, Option.bind_eq_some_iff] at hc
    obtain ⟨c1, h1, c2, h2, hc⟩ := hc; cases hc
    exact good_q fun n n' => s_mkfn (call := call) hg hop h1 h2 rf rh h
  | makeMap t rs =>
    rw [hop] at hc
    cases rs <;> first | (cases hc; done) | skip
    cases hc
    exact fun hf => s_mkmap (call := call) hop rf rh hf h
  | makeSlice t x y =>
    rw [hop] at hc; simp only [cop, Option.bind_eq_bind, Option.bind_eq_some_iff] at hc
    obtain ⟨d, hd, hc⟩ := hc
    cases d <;> first | (cases hc; done) | skip
    simp only [Option.bind_eq_some_iff] at hc
    obtain ⟨i, hi, z, hz, cx, hx, cy, hy, hc⟩ := hc; cases hc
    exact fun hf => s_mksl (call := call) hd hi hz hop hx hy rf rh hf h
  | slice t x lo hi mx =>
    rw [hop] at hc; simp only [cop, Option.bind_eq_bind, Option.bind_eq_some_iff] at hc
    obtain ⟨d, hd, hc⟩ := hc
    cases d <;> first | (cases hc; done) | skip
    · dsimp only at hc
      split at hc <;> first | (cases hc; done) | skip
      rename_i hmx
      simp only [Option.bind_eq_some_iff] at hc
      obtain ⟨cx, hx, cl, hl, ch, hh, hc⟩ := hc; cases hc
      have hmx' : mx = none := by cases mx <;> first | rfl | (exact absurd rfl hmx)
      subst hmx'
      exact good_q fun n n' => s_sslice (call := call) hd hop hx hl hh rf rh h
    · simp only [Option.bind_eq_some_iff] at hc
      obtain ⟨sz, hs, hc⟩ := hc
      split at hc <;> first | (cases hc; done) | skip
      rename_i hmx
      simp only [Option.bind_eq_some_iff] at hc
      obtain ⟨cx, hx, cl, hl, ch, hh, cm, hm, hc⟩ := hc; cases hc
      exact good_q fun n n' => s_slice (call := call) hd hs (fun h1 => by cases hi <;> simp_all) hop hx hl hh hm rf rh h
  | fieldAddr t x i =>
    rw [hop] at hc; simp only [cop, Option.bind_eq_bind, Option.bind_eq_some_iff] at hc
    obtain ⟨d, hd, hc⟩ := hc
    cases d <;> first | (cases hc; done) | skip
    simp only [Option.bind_eq_some_iff] at hc
    obtain ⟨fd, hfd, sz, hs, hc⟩ := hc
    split at hc <;> first | (cases hc; done) | skip
    rename_i h0
    simp only [Option.bind_eq_some_iff] at hc
    obtain ⟨cx, hx, hc⟩ := hc; cases hc
    exact good_q fun n n' => s_faddr (call := call) hd hfd hs h0 hop hx rf rh h
  | field t x i =>
    rw [hop] at hc; simp only [cop, Option.bind_eq_bind, Option.bind_eq_some_iff] at hc
    obtain ⟨d, hd, hc⟩ := hc
    cases d <;> first | (cases hc; done) | skip
    simp only [Option.bind_eq_some_iff] at hc
    obtain ⟨fd, hfd, ag, ha, sz, hs, cx, hx, hc⟩ := hc; cases hc
    exact good_q fun n n' => s_field (call := call) hd hfd ha hs hop hx rf rh h
  | indexAddr t x y =>
    rw [hop] at hc; simp only [cop, Option.bind_eq_bind, Option.bind_eq_some_iff] at hc
    obtain ⟨d, hd, hc⟩ := hc
    cases d <;> first | (cases hc; done) | skip
    · simp only [Option.bind_eq_some_iff] at hc
      obtain ⟨sz, hs, cx, hx, cy, hy, hc⟩ := hc; cases hc
      exact good_q fun n n' => s_iaddr (call := call) hd hs hop hx hy rf rh h
    · simp only [Option.bind_eq_some_iff] at hc
      obtain ⟨sz, hs, cx, hx, cy, hy, hc⟩ := hc; cases hc
      exact good_q fun n n' => s_paddr (call := call) hd hs hop hx hy rf rh h
  | index t x y =>
    rw [hop] at hc; simp only [cop, Option.bind_eq_bind, Option.bind_eq_some_iff] at hc
    obtain ⟨d, hd, hc⟩ := hc
    cases d <;> first | (cases hc; done) | skip
    · simp only [Option.bind_eq_some_iff] at hc
      obtain ⟨cx, hx, cy, hy, hc⟩ := hc; cases hc
      exact good_q fun n n' => s_sidx (call := call) hd hop hx hy rf rh h
    · simp only [Option.bind_eq_some_iff] at hc
      obtain ⟨ag, ha, sz, hs, cx, hx, cy, hy, hc⟩ := hc; cases hc
      exact good_q fun n n' => s_aidx (call := call) hd ha hs hop hx hy rf rh h
  | lookup t x y ok =>
    rw [hop] at hc; simp only [cop, Option.bind_eq_bind, Option.bind_eq_some_iff] at hc
    obtain ⟨d, hd, hc⟩ := hc
    cases d <;> first | (cases hc; done) | skip
    simp only [Option.bind_eq_some_iff] at hc
    obtain ⟨i, hi, zv, hz, v, hv, d2, hd2, hc⟩ := hc
    cases d2 <;> first | (cases hc; done) | skip
    all_goals
      simp only [Option.bind_eq_some_iff] at hc
      obtain ⟨cx, hx, cy, hy, hc⟩ := hc; cases hc
    · exact good_q fun n n' => s_lookup (call := call) hd hd2 (.inr ⟨rfl, _, rfl⟩) hi hz hv hop hx hy rf rh h
    · exact good_q fun n n' => s_lookup (call := call) hd hd2 (.inl ⟨rfl, rfl⟩) hi hz hv hop hx hy rf rh h
  | mapUpdate t x y z =>
    rw [hop] at hc; simp only [cop, Option.bind_eq_bind, Option.bind_eq_some_iff] at hc
    obtain ⟨d, hd, hc⟩ := hc
    cases d <;> first | (cases hc; done) | skip
    simp only [Option.bind_eq_some_iff] at hc
    obtain ⟨d2, hd2, hc⟩ := hc
    cases d2 <;> first | (cases hc; done) | skip
    all_goals
      simp only [Option.bind_eq_some_iff] at hc
      obtain ⟨cx, hx, cy, hy, cz, hz, hc⟩ := hc; cases hc
      intro rel hsc
    · have hh := s_mupd (call := call) (n := s.n.val) (n' := s'.n.val) hd hd2 (.inr ⟨rfl, _, rfl⟩) hop hx hy hz rf rh h
      exact .of rel (by rw [hh.1]; exact Nat.le_refl _) hh.2
    · have hh := s_mupd (call := call) (n := s.n.val) (n' := s'.n.val) hd hd2 (.inl ⟨rfl, rfl⟩) hop hx hy hz rf rh h
      exact .of rel (by rw [hh.1]; exact Nat.le_refl _) hh.2
  | extract x i =>
    rw [hop] at hc; simp only [cop, Option.bind_eq_bind, Option.bind_eq_some_iff] at hc
    obtain ⟨cx, hx, hc⟩ := hc; cases hc
    exact good_q fun n n' => s_ext (call := call) hop hx rf rh h
  | call cl => rw [hop] at hc; exact exop_good_call hop hc rf rh h
  | _ => rw [hop] at hc; cases hc
end
end Go.Vm
namespace Go.Vm
set_option linter.unusedVariables false
variable {P : Program}
theorem put_tmps (a : Act) (d : Tmp) (v : Value) : (a.put (some d) v) = { a with tmps := a.tmps.setIfInBounds d v } := rfl
theorem Sl.ofNat_inj {t d : Nat} (ht : t < 256) (hd : d < 256) : (Sl.ofNat t = Sl.ofNat d) ↔ t = d :=
  ⟨fun h => by have := congrArg Sl.val h; rwa [Sl.val_ofNat ht, Sl.val_ofNat hd] at this, fun h => by rw [h]⟩
def DstOk (nt : Nat) (dst : Option Tmp) (cd : CD) : Prop := (dst = none ∧ cd = .none) ∨ ∃ d, dst = some d ∧ cd = .d (.ofNat d) ∧ d < nt ∧ d < 256
theorem copD_ok {nt : Nat} {dst : Option Tmp} {cd : CD} (h : copD nt dst = some cd) : DstOk nt dst cd := by
  cases dst with
  | none => cases h; exact .inl ⟨rfl, rfl⟩
  | some d =>
    simp only [copD] at h
    split at h <;> first | (cases h; done) | skip
    rename_i hd
    cases h
    exact .inr ⟨d, rfl, rfl, hd.1, hd.2⟩
theorem RF.put {E : Env} {w : World} {nt : Nat} {f : Fr AV} {a : Act} (rf : RF E w nt f a) {dst : Option Tmp} {cd : CD} (hd : DstOk nt dst cd) {r : AV} {v : Value} (hv : RV E w r v) : RF E w nt (putD cd r f) (a.put dst v) := by
  rcases hd with ⟨rfl, rfl⟩ | ⟨d, rfl, rfl, h1, h2⟩
  · exact rf
  · refine ⟨fun t ht => ?_, by simp [put_tmps, rf.size], rf.defers⟩
    show RV E w ((Sl.ofNat t).get ((Sl.ofNat d).set r f)) _
    rw [Sl.get_set, put_tmps]
    by_cases htd : t = d
    · subst htd
      rw [if_pos rfl]
      have : (a.tmps.setIfInBounds t v).getD t Go.undef = v := by simp [Array.getD, rf.size, h1]
      rw [this]; exact hv
    · rw [if_neg (fun h => htd ((Sl.ofNat_inj ht h2).mp h))]
      have : (a.tmps.setIfInBounds d v).getD t Go.undef = a.tmps.getD t Go.undef := by
        simp [Array.getD_eq_getD_getElem?, Ne.symm htd]
      rw [this]; exact rf.slot t ht
theorem wanted_eq {ops : Array Oper} {o : Oper} {g : CG} (h : copG ops o.guard = some g) {E : Env} {w : World} {nt : Nat} {f : Fr AV} {a : Act} (rf : RF E w nt f a) : Region.wanted o (yielded ops a.tmps) = wanted g f := by
  cases hg : o.guard with
  | none => rw [hg] at h; cases h; simp [Region.wanted, hg, wanted]
  | some p =>
    obtain ⟨j, b⟩ := p
    rw [hg] at h
    simp only [copG, Option.bind_eq_bind, Option.bind_eq_some_iff] at h
    obtain ⟨q, hq, d, hd, h⟩ := h
    split at h <;> first | (cases h; done) | skip
    rename_i hlt
    cases h
    have hs := rf.slot d hlt
    show Region.wanted o _ = ((Sl.ofNat d).get f).onBool false fun c => br b c (br c false true)
    simp only [Region.wanted, hg, yielded, hq, hd, Option.bind_some]
    cases hv : a.tmps[d]? with
    | none =>
      have hu : a.tmps.getD d Go.undef = Go.undef := by simp [Array.getD_eq_getD_getElem?, hv]
      rw [hu] at hs
      generalize (Sl.ofNat d).get f = c at hs
      cases c <;> first | rfl | (have := rv_bool hs; cases this)
    | some v =>
      have hu : a.tmps.getD d Go.undef = v := by simp [Array.getD_eq_getD_getElem?, hv]
      rw [hu] at hs
      generalize (Sl.ofNat d).get f = c at hs
      cases c with
      | bool c =>
        obtain rfl := rv_bool hs
        cases b <;> cases c <;> rfl
      | _ => cases hs <;> rfl

theorem Went.refl [Lay] {s : St} {E : Env} {w : World} (h : Rel s E w) : Went s E w s E w := ⟨h, Nat.le_refl _, .refl⟩
theorem Went.trans [Lay] {s s1 s2 : St} {E E1 E2 : Env} {w w1 w2 : World} (h : Went s E w s1 E1 w1) (k : Went s1 E1 w1 s2 E2 w2) : Went s E w s2 E2 w2 :=
  ⟨k.rel, Nat.le_trans h.le k.le, h.ext.trans k.ext h.le k.le⟩
theorem Went.toLe [Lay] {s s' : St} {E E' : Env} {w w' : World} (h : Went s E w s' E' w') (hr : Rel s E w) : Le E w E' w' := h.ext.le hr.h
def CodePost [Lay] (nt : Nat) (s : St) (E : Env) (w : World) (rc : RC) : Exit → Act → World → Prop
  | .normal, a', w' => ∃ f' s' E', rc = .nor f' s' ∧ RF E' w' nt f' a' ∧ Went s E w s' E' w'
  | .exit i, a', w' => ∃ f' s' E', rc = .exit i f' s' ∧ RF E' w' nt f' a' ∧ Went s E w s' E' w'
  | .ret, a', w' => ∃ f' s' E', rc = .ret f' s' ∧ RF E' w' nt f' a' ∧ Went s E w s' E' w'
  | _, _, _ => False
theorem CodePost.trans [Lay] {nt : Nat} {s s1 : St} {E E1 : Env} {w w1 : World} (h : Went s E w s1 E1 w1) {rc : RC} {e : Exit} {a' : Act} {w' : World} (k : CodePost nt s1 E1 w1 rc e a' w') : CodePost nt s E w rc e a' w' := by
  cases e with
  | normal => obtain ⟨f', s', E', h1, h2, h3⟩ := k; exact ⟨f', s', E', h1, h2, h.trans h3⟩
  | exit i => obtain ⟨f', s', E', h1, h2, h3⟩ := k; exact ⟨f', s', E', h1, h2, h.trans h3⟩
  | ret => obtain ⟨f', s', E', h1, h2, h3⟩ := k; exact ⟨f', s', E', h1, h2, h.trans h3⟩
  | _ => exact k
def CodeGood [Lay] (P : Program) (nt : Nat) (c : Code) (ex : Fr AV → St → RC) : Prop :=
  ∀ f s a E w, RF E w nt f a → Rel s E w → ex f s ≠ .no → c.wp P (CodePost nt s E w (ex f s)) a w
theorem ops_good [Lay] {call : CallT} (hsc : SoundCall P call) {nt : Nat} {ops : Array Oper} {l : List Oper} {cl : List CR} (hl : l.mapM (copR P nt ops) = some cl) (f : Fr AV) (s0 s : St) (a : Act) (E0 E : Env) (w0 w : World)
    (hw : Went s0 E0 w0 s E w) (rf : RF E w nt f a) (hne : exops call cl f s ≠ .no) : wpList P ops (CodePost nt s0 E0 w0 (exops call cl f s)) l a w := by
  induction l generalizing cl f s a E w with
  | nil =>
    simp at hl; subst hl
    exact ⟨f, s, E, rfl, rf, hw⟩
  | cons o l ih =>
    simp only [List.mapM_cons, Option.bind_eq_bind, Option.bind_eq_some_iff, Option.pure_def, Option.some.injEq] at hl
    obtain ⟨cr, hcr, cl, hcl, rfl⟩ := hl
    simp only [copR, Option.bind_eq_bind, Option.bind_eq_some_iff, Option.some.injEq] at hcr
    obtain ⟨cd, hcd, co, hco, cg, hcg, rfl⟩ := hcr
    have hdo := copD_ok hcd
    have hwe := wanted_eq hcg rf
    have e : exops call (.mk cd co cg :: cl) f s = br (wanted cg f) ((exop co call f s).on .no fun v s => exops call cl (putD cd v f) s) (exops call cl (putD cd undef f) s) := rfl
    rw [e] at hne ⊢
    cases hwt : wanted cg f with
    | false =>
      rw [hwt, br_false] at hne
      rw [br_false]
      unfold wpList
      rw [if_neg (by rw [hwe, hwt]; simp)]
      exact ih hcl _ s _ E w hw (rf.put hdo (RV.undef E w)) hne
    | true =>
      rw [hwt, br_true] at hne
      rw [br_true]
      cases hx : exop co call f s with
      | no => rw [hx] at hne; exact absurd rfl hne
      | ok v s' =>
        rw [hx] at hne
        have hout : OpOut P o a s E w v s' := by
          have hg := exop_good (call := call) hco rf hw.rel.h hx
          cases hk : co.kind with
          | quiet => rw [hk] at hg; obtain ⟨rfl, hg⟩ := hg; exact .of hw.rel (Nat.le_refl _) (hg _ _)
          | read => rw [hk] at hg; obtain ⟨rfl, hg⟩ := hg; exact .of hw.rel (Nat.le_refl _) (hg _ _)
          | alloc =>
            rw [hk] at hg
            obtain ⟨h1, h2⟩ := hg (hw.rel.n s.n (Nat.le_refl _))
            exact .of hw.rel (by omega) (by rw [h1]; exact h2)
          | «mut» => rw [hk] at hg; exact hg hw.rel hsc
        refine wpList_step (fun K hK => ?_)
        rw [if_pos (by rw [hwe, hwt])]
        refine hout.2 K _ (fun E' w' u h1 h2 h3 => hK _ _ ?_)
        have hw2 : Went s E w s' E' w' := ⟨h1, hout.1, h3⟩
        exact ih hcl _ s' _ E' w' (hw.trans hw2) ((rf.mono (hw2.toLe hw.rel)).put hdo h2) hne
theorem bad_no (call : CallT) (n : Nat) (f : Fr AV) (s : St) : excode call n badC f s = .no := rfl
def DrawnOk [Lay] (P : Program) (call : CallT) : Prop := ∀ (nt : Nat) (id : Nat) (ops : Array Oper) (cc' : CC), ccDrawn P nt ops = some cc' → ∃ l, cc' = .drawn l ∧ CodeGood P nt (.region id ops true) (exdrawn call l)
theorem code_good [Lay] {call : CallT} (hsc : SoundCall P call) (hdr : DrawnOk P call) (n : Nat) {nt : Nat} : ∀ (c : Code) (c' : CC), cc P nt c = some c' → CodeGood P nt c (excode call n c')
  | .skip, c', h => by cases h; exact fun f s a E w rf rel hne => wp_skip ⟨f, s, E, rfl, rf, .refl rel⟩
  | .exit i, c', h => by cases h; exact fun f s a E w rf rel hne => wp_exit ⟨f, s, E, rfl, rf, .refl rel⟩
  | .ret, c', h => by cases h; exact fun f s a E w rf rel hne => wp_ret ⟨f, s, E, rfl, rf, .refl rel⟩
  | .region id ops true, c', h => by
    have h' := Option.some.inj h
    cases hq : ccDrawn P nt ops with
    | none => rw [hq] at h'; subst h'; exact fun f s a E w rf rel hne => absurd (bad_no call n f s) hne
    | some c2 =>
      rw [hq] at h'
      have h2 : c2 = c' := h'
      subst h2
      obtain ⟨l, rfl, hg⟩ := hdr nt id ops _ hq
      exact hg
  | .region id ops false, c', h => by
    have h' := Option.some.inj h
    cases hcl : ops.toList.mapM (copR P nt ops) with
    | none => rw [hcl] at h'; subst h'; exact fun f s a E w rf rel hne => absurd (bad_no call n f s) hne
    | some cl =>
    rw [hcl] at h'
    have h2 : CC.region cl = c' := h'
    subst h2
    exact fun f s a E w rf rel hne => wp_region_list (ops_good hsc hcl f s s a E E w w (.refl rel) rf hne)
  | .seq x y, c', h => by
    simp only [cc, Option.bind_eq_bind, Option.bind_eq_some_iff] at h
    obtain ⟨cx, hx, cy, hy, h⟩ := h; cases h
    have ix := code_good hsc hdr n x cx hx
    have iy := code_good hsc hdr n y cy hy
    intro f s a E w rf rel hne
    have e : excode call n (.seq cx cy) f s = seqK (excode call n cy) (excode call n cx f s) := rfl
    rw [e] at hne ⊢
    have hne1 : excode call n cx f s ≠ .no := fun h0 => by rw [h0] at hne; exact hne rfl
    refine wp_seq (Code.wp_mono ?_ (ix f s a E w rf rel hne1))
    intro e a' w' hp
    cases e with
    | normal =>
      obtain ⟨f', s', E', h1, h2, h3⟩ := hp
      rw [h1] at hne ⊢
      exact Code.wp_mono (fun _ _ _ hq => hq.trans h3) (iy f' s' a' E' w' h2 h3.rel hne)
    | exit i => obtain ⟨f', s', E', h1, h2, h3⟩ := hp; rw [h1]; exact ⟨f', s', E', rfl, h2, h3⟩
    | ret => obtain ⟨f', s', E', h1, h2, h3⟩ := hp; rw [h1]; exact ⟨f', s', E', rfl, h2, h3⟩
    | _ => exact hp
  | .cond c x y, c', h => by
    simp only [cc, Option.bind_eq_bind, Option.bind_eq_some_iff] at h
    obtain ⟨cx, hx, cy, hy, h⟩ := h
    have h' := Option.some.inj h
    cases hc1 : cod c with
    | none => rw [hc1] at h'; subst h'; exact fun f s a E w rf rel hne => absurd (bad_no call n f s) hne
    | some cc1 =>
    rw [hc1] at h'
    have h2 : CC.cond cc1 cx cy = c' := h'
    subst h2
    have ix := code_good hsc hdr n x cx hx
    have iy := code_good hsc hdr n y cy hy
    intro f s a E w rf rel hne
    have e : excode call n (.cond cc1 cx cy) f s = (ev1 f cc1).onBool .no fun t => br t (excode call n cx f s) (excode call n cy f s) := rfl
    rw [e] at hne ⊢
    have hv := cod_rv hc1 rf
    cases hcv : ev1 f cc1 with
    | bool t =>
      rw [hcv] at hv hne
      have hb := rv_bool hv
      cases t with
      | true => exact wp_cond_true hb (ix f s a E w rf rel hne)
      | false => exact wp_cond_false hb (iy f s a E w rf rel hne)
    | _ => rw [hcv] at hne; exact absurd rfl hne
  | .block id x, c', h => by
    simp only [cc, Option.map_eq_some_iff] at h
    obtain ⟨cx, hx, rfl⟩ := h
    have ix := code_good hsc hdr n x cx hx
    intro f s a E w rf rel hne
    have e : excode call n (.block id cx) f s = blockK id (excode call n cx f s) := rfl
    rw [e] at hne ⊢
    have hne1 : excode call n cx f s ≠ .no := fun h0 => by rw [h0] at hne; exact hne rfl
    refine wp_block (Code.wp_mono ?_ (ix f s a E w rf rel hne1))
    intro e a' w' hp
    cases e with
    | normal => obtain ⟨f', s', E', h1, h2, h3⟩ := hp; rw [h1]; exact ⟨f', s', E', rfl, h2, h3⟩
    | exit i =>
      obtain ⟨f', s', E', h1, h2, h3⟩ := hp
      rw [h1]
      show if i = id then _ else _
      by_cases hi : i = id
      · rw [if_pos hi]
        refine ⟨f', s', E', ?_, h2, h3⟩
        show br (Nat.beq i id) _ _ = _
        rw [hi, Nat.beq_refl]; rfl
      · rw [if_neg hi]
        refine ⟨f', s', E', ?_, h2, h3⟩
        show br (Nat.beq i id) _ _ = _
        have : Nat.beq i id = false := by
          cases hq : Nat.beq i id with
          | false => rfl
          | true => exact absurd (Nat.eq_of_beq_eq_true hq) hi
        rw [this]; rfl
    | ret => obtain ⟨f', s', E', h1, h2, h3⟩ := hp; rw [h1]; exact ⟨f', s', E', rfl, h2, h3⟩
    | _ => exact hp
  | .loop x, c', h => by
    simp only [cc, Option.map_eq_some_iff] at h
    obtain ⟨cx, hx, rfl⟩ := h
    have ix := code_good hsc hdr n x cx hx
    intro f s a E w rf rel hne
    have e : excode call n (.loop cx) f s = iter (excode call n cx) n f s := rfl
    rw [e] at hne ⊢
    refine wp_loop_rounds n ?_
    have key : ∀ (m : Nat) (f : Fr AV) (s1 : St) (a : Act) (E1 : Env) (w1 : World), RF E1 w1 nt f a → Went s E w s1 E1 w1 → iter (excode call n cx) m f s1 ≠ .no → ∀ rc, iter (excode call n cx) m f s1 = rc → Code.rounds P x (CodePost nt s E w rc) m a w1 := by
      intro m
      induction m with
      | zero => intro f s1 a E1 w1 _ _ hne; exact absurd rfl hne
      | succ m ih =>
        intro f s1 a E1 w1 rf hw hne rc hrc
        have e : iter (excode call n cx) (m + 1) f s1 = seqK (iter (excode call n cx) m) (excode call n cx f s1) := rfl
        rw [e] at hne hrc
        have hne1 : excode call n cx f s1 ≠ .no := fun h0 => by rw [h0] at hne; exact hne rfl
        rw [rounds_succ]
        refine Code.wp_mono ?_ (ix f s1 a E1 w1 rf hw.rel hne1)
        intro e a' w' hp
        cases e with
        | normal =>
          obtain ⟨f', s', E', h1, h2, h3⟩ := hp
          rw [h1] at hne hrc
          exact ih f' s' a' E' w' h2 (hw.trans h3) hne rc hrc
        | exit i => obtain ⟨f', s', E', h1, h2, h3⟩ := hp; rw [h1] at hrc; exact ⟨f', s', E', hrc.symm, h2, hw.trans h3⟩
        | ret => obtain ⟨f', s', E', h1, h2, h3⟩ := hp; rw [h1] at hrc; exact ⟨f', s', E', hrc.symm, h2, hw.trans h3⟩
        | _ => exact hp
    exact key n f s a E w rf (.refl rel) hne _ rfl
  | .scope x, c', h => by
    have ix := code_good hsc hdr n x c' h
    intro f s a E w rf rel hne
    refine wp_scope_straight (Code.wp_mono ?_ (ix f s a E w rf rel hne))
    intro e a' w' hp
    cases e with
    | normal => exact hp
    | exit i => exact hp
    | ret => exact hp
    | _ => exact hp.elim
  | .label _, c', h => by cases h; exact fun f s a E w rf rel hne => wp_label ⟨f, s, E, rfl, rf, .refl rel⟩
  | .goto _, c', h => by cases h; exact fun f s a E w rf rel hne => absurd (bad_no call n f s) hne
  | .rangeFunc _ _ _ _, c', h => by cases h; exact fun f s a E w rf rel hne => absurd (bad_no call n f s) hne
  | .refuse _, c', h => by cases h; exact fun f s a E w rf rel hne => absurd (bad_no call n f s) hne
end Go.Vm
namespace Go.Vm
set_option linter.unusedVariables false
variable {P : Program}
theorem RC.on_ok {rc : RC} {d : R} {k : Fr AV → St → R} {e : Nat → Fr AV → St → R} {t : Fr AV → St → R} {r : AV} {s' : St} (h : rc.on d k e t = .ok r s') : (rc = .no ∧ d = .ok r s') ∨ (∃ f s, rc = .nor f s ∧ k f s = .ok r s') ∨ (∃ i f s, rc = .exit i f s ∧ e i f s = .ok r s') ∨ (∃ f s, rc = .ret f s ∧ t f s = .ok r s') := by
  cases rc with
  | no => exact .inl ⟨rfl, h⟩
  | nor f s => exact .inr (.inl ⟨f, s, rfl, h⟩)
  | exit i f s => exact .inr (.inr (.inl ⟨i, f, s, rfl, h⟩))
  | ret f s => exact .inr (.inr (.inr ⟨f, s, rfl, h⟩))
theorem R.on_ok {q : R} {k : AV → St → R} {r : AV} {s' : St} (h : q.on .no k = .ok r s') : ∃ v s, q = .ok v s ∧ k v s = .ok r s' := by
  cases q with
  | no => exact R.noConfusion h
  | ok v s => exact ⟨v, s, rfl, h⟩
def resRun (tmps : Array Value) : ResultVar → Sem Value
  | .tmp t => pure (tmps.getD t Go.undef)
  | .cell a t => do loadVar t (← asAddr (tmps.getD a Go.undef))
theorem res_ok {E : Env} {w : World} {nt : Nat} {f : Fr AV} {a : Act} (rf : RF E w nt f a) {s s' : St} (rh : RelH s.obj E w) {v : ResultVar} {cv : Res} (hv : copRes P v = some cv) {k : AV → R} {r : AV} (h : resOf f s cv k = .ok r s') :
    ∃ u c, (resRun a.tmps v).run P w = .ok u w ∧ RV E w c u ∧ k c = .ok r s' := by
  cases v with
  | tmp t =>
    simp only [copRes] at hv
    split at hv <;> first | (cases hv; done) | skip
    rename_i ht
    cases hv
    exact ⟨_, _, by simp [resRun], rf.slot t ht, h⟩
  | cell t ty =>
    simp only [copRes, Option.bind_eq_bind] at hv
    split at hv <;> first | (cases hv; done) | skip
    rename_i ht
    simp only [Option.bind_eq_some_iff] at hv
    obtain ⟨ag, ha, sz, hs, hv⟩ := hv
    cases hv
    obtain ⟨c, s1, hq, hk⟩ := R.on_ok (show (((Sl.ofNat t).get f).onPtr .no (fun b o => (s.obj b).onCells .no fun cs => wrap1 ag sz (dr o cs) s) fun _ => .no).on .no (fun v _ => k v) = .ok r s' from h)
    have h1 := rf.slot t ht
    rcases onPtr_ok hq with ⟨b, off, hb, hq⟩ | ⟨cs, _, hq⟩
    · rw [hb] at h1
      obtain ⟨cs, hcs, hq⟩ := onCells_ok hq
      obtain ⟨c', e, us, H⟩ := rh.cells b cs hcs
      generalize hu : a.tmps.getD t Go.undef = u at h1
      cases h1
      rw [dr_eq] at hq
      obtain ⟨_, v, h2, h3⟩ := run_loadVar ha hs (g := (E.φ b).block) (off := (E.φ b).off + off) (H.row.drop off) (fun j u hj => by
        rw [List.getElem?_drop] at hj; rw [Nat.add_assoc]; exact holds_cell H _ u hj) (fun c hc => H.one c (List.mem_of_mem_drop hc)) hq
      exact ⟨v, c, by simp [resRun, hu, asAddr, h2], h3, hk⟩
    · exact R.noConfusion hq
theorem ress_ok {E : Env} {w : World} {nt : Nat} {f : Fr AV} {a : Act} (rf : RF E w nt f a) {s s' : St} (rh : RelH s.obj E w) {vs : List ResultVar} {cvs : List Res} (hv : vs.mapM (copRes P) = some cvs) {k : List AV → R} {r : AV} (h : ress f s cvs k = .ok r s') :
    ∃ us cs, (vs.mapM (resRun a.tmps)).run P w = .ok us w ∧ RL E w cs us ∧ k cs = .ok r s' := by
  induction vs generalizing cvs k with
  | nil =>
    simp at hv; subst hv
    exact ⟨[], [], by simp, RL.nil _ _, h⟩
  | cons v vs ih =>
    simp only [List.mapM_cons, Option.bind_eq_bind, Option.bind_eq_some_iff, Option.pure_def, Option.some.injEq] at hv
    obtain ⟨cv, hcv, cvs, hcvs, rfl⟩ := hv
    obtain ⟨u, c, h1, h2, h3⟩ := res_ok rf rh hcv (k := fun v => ress f s cvs fun vs => k (v :: vs)) h
    obtain ⟨us, cs, h4, h5, h6⟩ := ih hcvs h3
    exact ⟨u :: us, c :: cs, by simp [h1, h4], RL.cons h2 h5, h6⟩
theorem run_results {fn : Func} {tmps : Array Value} {w : World} {us : List Value} (h : (fn.results.toList.mapM (resRun tmps)).run P w = .ok us w) : (results fn tmps).run P w = .ok (if us.length = 1 then us.headD Go.undef else .tuple us.toArray) w := by
  have e : (fn.results.mapM (resRun tmps)).run P w = .ok us.toArray w := by
    rw [← Array.toArray_toList (xs := fn.results), List.mapM_toArray]
    simp [h]
  have e2 : results fn tmps = (do let vs ← fn.results.mapM (resRun tmps); pure (if h : vs.size = 1 then vs[0] else .tuple vs)) := by
    unfold results
    congr 1
  rw [e2]
  simp only [Sem.run_bind, e, Result.andThen_ok, Sem.run_pure]
  congr 1
  match us with
  | [] => rfl
  | [u] => rfl
  | u :: v :: us => simp
theorem pack_rv {E : Env} {w : World} {cs : List AV} {us : List Value} (h : RL E w cs us) : RV E w (pack cs) (if us.length = 1 then us.headD Go.undef else .tuple us.toArray) := by
  match cs, us, h with
  | [], us, h =>
    have : us = [] := List.eq_nil_of_length_eq_zero (by simpa using h.len)
    subst this
    exact .tup [] [] rfl (fun j c u h => by simp at h)
  | [c], us, h =>
    obtain ⟨u, vs, rfl, h1, h2⟩ := RL.cons_inv h
    have : vs = [] := List.eq_nil_of_length_eq_zero (by simpa using h2.len)
    subst this
    exact h1
  | c :: d :: cs, us, h =>
    have hl := h.len
    rw [if_neg (by simp at hl; omega)]
    exact .tup _ _ h.len h.each
theorem up_val (j : D16) {β : Type} (c : β) (k : D16 → β) : (j.val = 15 ∧ j.up c k = c) ∨ ∃ e : D16, e.val = j.val + 1 ∧ j.up c k = k e := D16.up_spec j c k
theorem lay_cons (x : AV) (args : List AV) (i j : D16) (f : Fr AV) : Vm.lay (x :: args) (.mk i j) f = Vm.lay args (j.up (i.up (.mk .d0 .d0) fun i => .mk i .d0) fun j => .mk i j) ((Sl.mk i j).set x f) := rfl
theorem lay_get {t : Nat} (ht : t < 256) (args : List AV) (p : Sl) (f : Fr AV) (hp : p.val + args.length ≤ 256) : (Sl.ofNat t).get (Vm.lay args p f) = if p.val ≤ t then (args[t - p.val]?).getD ((Sl.ofNat t).get f) else (Sl.ofNat t).get f := by
  induction args generalizing p f with
  | nil => show (Sl.ofNat t).get f = _; simp
  | cons x args ih =>
    cases p with | mk i j =>
    rw [lay_cons]
    have hpv : (Sl.mk i j).val = i.val * 16 + j.val := rfl
    have hget : (Sl.ofNat t).get ((Sl.mk i j).set x f) = if t = (Sl.mk i j).val then x else (Sl.ofNat t).get f := by
      rw [Sl.get_set]
      by_cases h : t = (Sl.mk i j).val
      · rw [if_pos h, if_pos (Sl.val_inj (by rw [Sl.val_ofNat ht]; exact h))]
      · rw [if_neg h, if_neg (fun e => h (by rw [← e, Sl.val_ofNat ht]))]
    cases args with
    | nil =>
      show (Sl.ofNat t).get ((Sl.mk i j).set x f) = _
      rw [hget]
      by_cases h : t = (Sl.mk i j).val
      · rw [if_pos h, if_pos (by omega), h]; simp
      · rw [if_neg h]
        by_cases h2 : (Sl.mk i j).val ≤ t
        · rw [if_pos h2, List.getElem?_eq_none (by simp; omega)]; rfl
        · rw [if_neg h2]
    | cons y args =>
      have hlt : (Sl.mk i j).val + 1 < 256 := by simp at hp; omega
      have hnext : (j.up (i.up (Sl.mk .d0 .d0) fun i => Sl.mk i .d0) fun j => Sl.mk i j).val = (Sl.mk i j).val + 1 := by
        rcases up_val j (i.up (Sl.mk .d0 .d0) fun i => Sl.mk i .d0) (fun j => Sl.mk i j) with ⟨h1, e⟩ | ⟨j', h1, e⟩
        · rw [e]
          rcases up_val i (Sl.mk .d0 .d0) (fun i => Sl.mk i .d0) with ⟨h2, e⟩ | ⟨i', h2, e⟩
          · omega
          · rw [e]; show i'.val * 16 + 0 = _; omega
        · rw [e]; show i.val * 16 + j'.val = _; omega
      rw [ih _ _ (by rw [hnext]; simp at hp ⊢; omega), hnext, hget]
      by_cases h : t = (Sl.mk i j).val
      · rw [if_neg (by omega), if_pos h, if_pos (by omega), h]; simp
      · by_cases h2 : (Sl.mk i j).val + 1 ≤ t
        · rw [if_pos h2, if_neg h, if_pos (by omega)]
          have : t - (Sl.mk i j).val = (t - ((Sl.mk i j).val + 1)) + 1 := by omega
          rw [this, List.getElem?_cons_succ]
        · rw [if_neg h2, if_neg h, if_neg (by omega)]
theorem frame0_rf {E : Env} {w : World} {nt : Nat} {args : List AV} {vals : List Value} (h : RL E w args vals) (h1 : args.length ≤ nt) (h2 : nt ≤ 256) : RF E w nt (frame0 args) { tmps := vals.toArray ++ Array.replicate (nt - vals.toArray.size) Go.undef, defers := [] } := by
  have hl := h.len
  refine ⟨fun t ht => ?_, by simp; omega, rfl⟩
  show RV E w ((Sl.ofNat t).get (Vm.lay args (.mk .d0 .d0) (.rep undef))) _
  have hz : (Sl.mk .d0 .d0).val = 0 := rfl
  rw [lay_get ht args _ _ (by rw [hz]; omega), if_pos (by rw [hz]; omega), hz, Nat.sub_zero, Sl.get_rep]
  by_cases hlt : t < args.length
  · have e1 : (vals.toArray ++ Array.replicate (nt - vals.toArray.size) Go.undef).getD t Go.undef = vals[t]'(by omega) := by
      simp only [Array.getD_eq_getD_getElem?]
      rw [Array.getElem?_append_left (by simp; omega)]
      simp [show t < vals.length by omega]
    rw [e1, List.getElem?_eq_getElem hlt]
    exact h.each t _ _ (List.getElem?_eq_getElem hlt) (List.getElem?_eq_getElem (by omega))
  · have e1 : (vals.toArray ++ Array.replicate (nt - vals.toArray.size) Go.undef).getD t Go.undef = Go.undef := by
      simp only [Array.getD_eq_getD_getElem?]
      rw [Array.getElem?_append_right (by simp; omega), Array.getElem?_replicate]
      split <;> rfl
    rw [e1, List.getElem?_eq_none (by omega)]
    exact RV.undef E w
theorem Id.up_val' (x : Id) (h : x.val + 1 < 65536) : (x.up x fun q => q).val = x.val + 1 := by
  obtain ⟨y, hy, e⟩ := Id.up_sure x x (fun q => q)
  rw [e]; exact hy
theorem cfs_get (fs : List Func) (p : Id) (t : Tab CF) (hp : p.val + fs.length ≤ 65536) (g : Id) : (∃ fn, p.val ≤ g.val ∧ fs[g.val - p.val]? = some fn ∧ g.get (cfs P fs p t) = cf P fn) ∨ g.get (cfs P fs p t) = g.get t := by
  induction fs generalizing p t with
  | nil => exact .inr rfl
  | cons f fs ih =>
    have hset : g.get (p.set (cf P f) t) = if g = p then cf P f else g.get t := Id.get_set g p _ t
    show (∃ fn, _ ∧ _ ∧ g.get (cfs P fs (p.up p fun q => q) (p.set (cf P f) t)) = _) ∨ g.get (cfs P fs (p.up p fun q => q) (p.set (cf P f) t)) = _
    cases fs with
    | nil =>
      show (∃ fn, _ ∧ _ ∧ g.get (p.set (cf P f) t) = _) ∨ g.get (p.set (cf P f) t) = _
      rw [hset]
      by_cases h : g = p
      · rw [if_pos h]; exact .inl ⟨f, by rw [h]; exact Nat.le_refl _, by rw [h]; simp, rfl⟩
      · rw [if_neg h]; exact .inr rfl
    | cons f2 fs =>
      simp only [List.length_cons] at hp
      have hn := Id.up_val' p (by omega)
      rcases ih (p.up p fun q => q) (p.set (cf P f) t) (by rw [hn]; simp only [List.length_cons]; omega) with ⟨fn, h1, h2, h3⟩ | h1
      · refine .inl ⟨fn, by omega, ?_, h3⟩
        rw [hn] at h2
        have : g.val - p.val = (g.val - (p.val + 1)) + 1 := by omega
        rw [this, List.getElem?_cons_succ]; exact h2
      · rw [h1, hset]
        by_cases h : g = p
        · rw [if_pos h]; exact .inl ⟨f, by rw [h]; exact Nat.le_refl _, by rw [h]; simp, rfl⟩
        · rw [if_neg h]; exact .inr rfl
theorem prog_get (g : Id) : (∃ fn, P.funcs[g.val]? = some fn ∧ g.get (prog P) = cf P fn) ∨ g.get (prog P) = .bad := by
  unfold prog
  split
  · rename_i hP
    rcases cfs_get (P := P) P.funcs.toList (.mk .d0 .d0 .d0 .d0 0) (.rep .bad) (by show 0 + _ ≤ _; simp; exact hP) g with ⟨fn, _, h2, h3⟩ | h
    · exact .inl ⟨fn, by rw [← Array.getElem?_toList]; exact h2, h3⟩
    · exact .inr (by rw [h, Id.get_rep])
  · exact .inr (Id.get_rep g _)
theorem evF_good [Lay] {call : CallT} (hsc : SoundCall P call) (hdr : DrawnOk P call) (n : Nat) {g : Id} {fn : Func} (hf : P.funcs[g.val]? = some fn) {args : List AV} {s s' : St} {r : AV} (h : evF call n (cf P fn) args s = .ok r s') :
    (fn.body.isNone = false ∧ fn.name ≠ "runtime.NumGoroutine") ∧ ∀ (E : Env) (w : World) (vals : List Value), Rel s E w → RL E w args vals →
      Calls P g.val vals.toArray w fun e w' => ∃ E' v, e = .returned v ∧ RV E' w' r v ∧ Went s E w s' E' w' := by
  cases hc : cf P fn with
  | bad => rw [hc] at h; exact R.noConfusion h
  | mk nt res body =>
    rw [hc] at h
    unfold cf at hc
    generalize hopt : (do
      let b ← fn.body
      let c ← cc P fn.ntmps b
      let r ← fn.results.toList.mapM (copRes P)
      if fn.ntmps ≤ 256 ∧ fn.name ≠ "runtime.NumGoroutine" then some (CF.mk fn.ntmps r c) else none : Option CF) = opt at hc
    cases opt with
    | none => cases hc
    | some q =>
      have hq : q = .mk nt res body := hc
      subst hq
      simp only [Option.bind_eq_bind, Option.bind_eq_some_iff] at hopt
      obtain ⟨b, hb, c, hcc, rs, hrs, hif⟩ := hopt
      split at hif <;> first | (cases hif; done) | skip
      rename_i hcond
      have hif' := Option.some.inj hif
      injection hif' with e1 e2 e3
      subst e1; subst e2; subst e3
      clear hif
      obtain ⟨hle, h⟩ := br_ok (show br (Nat.ble (ln args) fn.ntmps) (fin rs (excode call n c (frame0 args) s)) .no = .ok r s' from h)
      have hle' : args.length ≤ fn.ntmps := by have := Nat.le_of_ble_eq_true hle; rwa [ln_eq] at this
      have hgood := code_good hsc hdr n b c hcc
      -- where it ends
      have hend : ∃ f1 s1, (excode call n c (frame0 args) s = .nor f1 s1 ∨ excode call n c (frame0 args) s = .ret f1 s1) ∧ ress f1 s1 rs (fun l => .ok (pack l) s1) = .ok r s' := by
        rcases RC.on_ok h with ⟨_, h1⟩ | ⟨f1, s1, e, h1⟩ | ⟨i, f1, s1, e, h1⟩ | ⟨f1, s1, e, h1⟩
        · exact R.noConfusion h1
        · exact ⟨f1, s1, .inl e, h1⟩
        · exact R.noConfusion h1
        · exact ⟨f1, s1, .inr e, h1⟩
      obtain ⟨f1, s1, he, hres⟩ := hend
      have hne : excode call n c (frame0 args) s ≠ .no := by rcases he with e | e <;> rw [e] <;> exact fun h => by cases h
      refine ⟨⟨by rw [hb]; rfl, hcond.2⟩, fun E w vals rel hrl => calls_of_wp hf hb (Code.wp_mono ?_ (hgood (frame0 args) s _ E w (frame0_rf hrl hle' hcond.1) rel hne))⟩
      intro e a' w' hp
      have fin' : ∀ (E' : Env), RF E' w' fn.ntmps f1 a' → Went s E w s1 E' w' → a'.defers = [] ∧ ∃ v, (results fn a'.tmps).run P w' = .ok v w' ∧ ∃ E' u, Ending.returned v = .returned u ∧ RV E' w' r u ∧ Went s E w s' E' w' := by
        intro E' rf hw
        obtain ⟨us, cs, g1, g2, g3⟩ := ress_ok rf hw.rel.h hrs hres
        obtain ⟨rfl, rfl⟩ := ok_inj g3
        exact ⟨rf.defers, _, run_results g1, E', _, rfl, pack_rv g2, hw⟩
      cases e with
      | normal =>
        obtain ⟨f', s2, E', h1, h2, h3⟩ := hp
        rcases he with e | e
        · rw [e] at h1; cases h1; exact fin' E' h2 h3
        · rw [e] at h1; cases h1
      | ret =>
        obtain ⟨f', s2, E', h1, h2, h3⟩ := hp
        rcases he with e | e
        · rw [e] at h1; cases h1
        · rw [e] at h1; cases h1; exact fin' E' h2 h3
      | exit i =>
        obtain ⟨f', s2, E', h1, h2, h3⟩ := hp
        rcases he with e | e <;> rw [e] at h1 <;> cases h1
      | _ => exact hp.elim
theorem evF_sound [Lay] {call : CallT} (hsc : SoundCall P call) (hdr : ∀ call, SoundCall P call → DrawnOk P call) (n : Nat) {g : Id} {args : List AV} {s s' : St} {r : AV} (h : evF call n (g.get (prog P)) args s = .ok r s') :
    (∃ fn, P.funcs[g.val]? = some fn ∧ fn.body.isNone = false ∧ fn.name ≠ "runtime.NumGoroutine") ∧ ∀ (E : Env) (w : World) (vals : List Value), Rel s E w → RL E w args vals →
      Calls P g.val vals.toArray w fun e w' => ∃ E' v, e = .returned v ∧ RV E' w' r v ∧ Went s E w s' E' w' := by
  rcases prog_get (P := P) g with ⟨fn, hf, hg⟩ | hg
  · rw [hg] at h
    obtain ⟨h1, h2⟩ := evF_good hsc (hdr call hsc) n hf h
    exact ⟨⟨fn, hf, h1⟩, h2⟩
  · rw [hg] at h; exact R.noConfusion h
theorem ev_sound [Lay] (hdr : ∀ call, SoundCall P call → DrawnOk P call) (k : Nat) : SoundCall P (ev (prog P) k) := by
  induction k with
  | zero => intro g args s r s' h; exact R.noConfusion h
  | succ k ih => intro g args s r s' h; exact evF_sound ih hdr k h
end Go.Vm
namespace Go.Vm
set_option linter.unusedVariables false
variable {P : Program}
section
variable {f f' : Fr AV}
theorem ev1_congr {x : CO} (h : ∀ t ∈ coS x, t.get f = t.get f') : ev1 f x = ev1 f' x := by
  cases x with
  | t s => exact h s (List.mem_singleton.mpr rfl)
  | c v => rfl
theorem evs_congr {l : List CO} (h : ∀ t ∈ cosS l, t.get f = t.get f') : evs f l = evs f' l := by
  induction l with
  | nil => rfl
  | cons x l ih =>
    show ev1 f x :: evs f l = ev1 f' x :: evs f' l
    rw [ev1_congr (fun t ht => h t (List.mem_append_left _ ht)), ih (fun t ht => h t (List.mem_append_right _ ht))]
theorem evo_congr {x : Option CO} (h : ∀ t ∈ cooS x, t.get f = t.get f') : evo f x = evo f' x := by
  cases x with
  | none => rfl
  | some x => show some (ev1 f x) = some (ev1 f' x); rw [ev1_congr h]
theorem fill_congr {ps : List Part} (h : ∀ t ∈ partsS ps, t.get f = t.get f') (z : List AV) (k : List AV → R) : fill f ps z k = fill f' ps z k := by
  induction ps generalizing z with
  | nil => rfl
  | cons p ps ih =>
    obtain ⟨o, n, x⟩ := p
    have h1 : ev1 f x = ev1 f' x := ev1_congr (fun t ht => h t (List.mem_append_left _ ht))
    show (ev1 f x).lay (fun l => br (Nat.beq (ln l) n) (br (Nat.ble (Nat.add o n) (ln z)) (fill f ps (splice o l z) k) .no) .no) = (ev1 f' x).lay (fun l => br (Nat.beq (ln l) n) (br (Nat.ble (Nat.add o n) (ln z)) (fill f' ps (splice o l z) k) .no) .no)
    rw [h1]
    congr 1
    funext l
    rw [ih (fun t ht => h t (List.mem_append_right _ ht))]
theorem mm_congr {mx : Bool} {s : St} {rs : List CO} (h : ∀ t ∈ cosS rs, t.get f = t.get f') (v : AV) :
    List.rec (motive := fun _ => AV → R) (fun v => .ok v s) (fun y _ ih v => v.onInt .no fun j a => (ev1 f y).onInt .no fun k b => ih (.int j (best mx a b))) rs v =
    List.rec (motive := fun _ => AV → R) (fun v => .ok v s) (fun y _ ih v => v.onInt .no fun j a => (ev1 f' y).onInt .no fun k b => ih (.int j (best mx a b))) rs v := by
  induction rs generalizing v with
  | nil => rfl
  | cons y rs ih =>
    have h1 : ev1 f y = ev1 f' y := ev1_congr (fun t ht => h t (List.mem_append_left _ ht))
    have ih' := ih (fun t ht => h t (List.mem_append_right _ ht))
    simp only [h1]
    congr 1
    funext j a
    congr 1
    funext k b
    exact ih' _
theorem exop_congr {co : COp} (h : ∀ t ∈ co.slots, t.get f = t.get f') (call : CallT) (s : St) : exop co call f s = exop co call f' s := by
  have l : ∀ {a b : List Sl} {t : Sl}, t ∈ a → t ∈ a ++ b := fun h => List.mem_append_left _ h
  have r : ∀ {a b : List Sl} {t : Sl}, t ∈ b → t ∈ a ++ b := fun h => List.mem_append_right _ h
  cases co with
  | mv x => show opMv x call f s = opMv x call f' s; unfold opMv; rw [ev1_congr h]
  | mvs x => show opMvs x call f s = opMvs x call f' s; unfold opMvs; rw [ev1_congr h]
  | pick a b c => show opPick a b c call f s = opPick a b c call f' s; unfold opPick; rw [ev1_congr (x := a) fun t ht => h t (l ht), ev1_congr (x := b) fun t ht => h t (r (l ht)), ev1_congr (x := c) fun t ht => h t (r (r ht))]
  | box x => show opBox x call f s = opBox x call f' s; unfold opBox; rw [ev1_congr h]
  | alloc z => rfl
  | build z ps => show opBuild z ps call f s = opBuild z ps call f' s; unfold opBuild; exact fill_congr h _ _
  | blit n z ps => show opBlit n z ps call f s = opBlit n z ps call f' s; unfold opBlit; exact fill_congr h _ _
  | load g sz x => show opLoad g sz x call f s = opLoad g sz x call f' s; unfold opLoad; rw [ev1_congr h]
  | store sz x y => show opStore sz x y call f s = opStore sz x y call f' s; unfold opStore; rw [ev1_congr (x := x) fun t ht => h t (l ht), ev1_congr (x := y) fun t ht => h t (r ht)]
  | nilck x => show opNilck x call f s = opNilck x call f' s; unfold opNilck; rw [ev1_congr h]
  | bin op x y => show opBin op x y call f s = opBin op x y call f' s; unfold opBin; rw [ev1_congr (x := x) fun t ht => h t (l ht), ev1_congr (x := y) fun t ht => h t (r ht)]
  | beq n x y => show opBeq n x y call f s = opBeq n x y call f' s; unfold opBeq; rw [ev1_congr (x := x) fun t ht => h t (l ht), ev1_congr (x := y) fun t ht => h t (r ht)]
  | nileq n k x y => show opNeq n k x y call f s = opNeq n k x y call f' s; unfold opNeq; rw [ev1_congr (x := x) fun t ht => h t (l ht), ev1_congr (x := y) fun t ht => h t (r ht)]
  | neg x => show opNeg x call f s = opNeg x call f' s; unfold opNeg; rw [ev1_congr h]
  | not x => show opNot x call f s = opNot x call f' s; unfold opNot; rw [ev1_congr h]
  | conv k x => show opConv k x call f s = opConv k x call f' s; unfold opConv; rw [ev1_congr h]
  | tobytes x => show opToBytes x call f s = opToBytes x call f' s; unfold opToBytes; rw [ev1_congr h]
  | tostr x => show opToStr x call f s = opToStr x call f' s; unfold opToStr; rw [ev1_congr h]
  | mkif t x => show opMkif t x call f s = opMkif t x call f' s; unfold opMkif; rw [ev1_congr h]
  | mkfn g a b => show opMkfn g a b call f s = opMkfn g a b call f' s; unfold opMkfn; rw [evs_congr (l := a) fun t ht => h t (l ht), evs_congr (l := b) fun t ht => h t (r ht)]
  | mkmap => rfl
  | mksl n z x y => show opMksl n z x y call f s = opMksl n z x y call f' s; unfold opMksl; rw [ev1_congr (x := x) fun t ht => h t (l ht), ev1_congr (x := y) fun t ht => h t (r ht)]
  | slice sz x a b c =>
    show opSlice sz x a b c call f s = opSlice sz x a b c call f' s
    unfold opSlice
    rw [ev1_congr (x := x) fun t ht => h t (l ht), evo_congr (x := a) fun t ht => h t (r (l ht)), evo_congr (x := b) fun t ht => h t (r (r (l ht))), evo_congr (x := c) fun t ht => h t (r (r (r ht)))]
  | sslice x a b =>
    show opSslice x a b call f s = opSslice x a b call f' s
    unfold opSslice
    rw [ev1_congr (x := x) fun t ht => h t (l ht), evo_congr (x := a) fun t ht => h t (r (l ht)), evo_congr (x := b) fun t ht => h t (r (r ht))]
  | faddr o x => show opFaddr o x call f s = opFaddr o x call f' s; unfold opFaddr; rw [ev1_congr h]
  | field g o sz x => show opField g o sz x call f s = opField g o sz x call f' s; unfold opField; rw [ev1_congr h]
  | paddr n sz x y => show opPaddr n sz x y call f s = opPaddr n sz x y call f' s; unfold opPaddr; rw [ev1_congr (x := x) fun t ht => h t (l ht), ev1_congr (x := y) fun t ht => h t (r ht)]
  | iaddr sz x y => show opIaddr sz x y call f s = opIaddr sz x y call f' s; unfold opIaddr; rw [ev1_congr (x := x) fun t ht => h t (l ht), ev1_congr (x := y) fun t ht => h t (r ht)]
  | sidx x y => show opSidx x y call f s = opSidx x y call f' s; unfold opSidx; rw [ev1_congr (x := x) fun t ht => h t (l ht), ev1_congr (x := y) fun t ht => h t (r ht)]
  | aidx g n sz x y => show opAidx g n sz x y call f s = opAidx g n sz x y call f' s; unfold opAidx; rw [ev1_congr (x := x) fun t ht => h t (l ht), ev1_congr (x := y) fun t ht => h t (r ht)]
  | lookup b z x y ok => show opLookup b z x y ok call f s = opLookup b z x y ok call f' s; unfold opLookup; rw [ev1_congr (x := x) fun t ht => h t (l ht), ev1_congr (x := y) fun t ht => h t (r ht)]
  | mupd b x y z => show opMupd b x y z call f s = opMupd b x y z call f' s; unfold opMupd; rw [ev1_congr (x := x) fun t ht => h t (l ht), ev1_congr (x := y) fun t ht => h t (r (l ht)), ev1_congr (x := z) fun t ht => h t (r (r ht))]
  | ext x i => show opExt x i call f s = opExt x i call f' s; unfold opExt; rw [ev1_congr h]
  | callf g as => show opCallf g as call f s = opCallf g as call f' s; unfold opCallf; rw [evs_congr h]
  | callv g as => show opCallv g as call f s = opCallv g as call f' s; unfold opCallv; rw [ev1_congr (x := g) fun t ht => h t (l ht), evs_congr (l := as) fun t ht => h t (r ht)]
  | lens x => show opLens x call f s = opLens x call f' s; unfold opLens; rw [ev1_congr h]
  | lenm x => show opLenm x call f s = opLenm x call f' s; unfold opLenm; rw [ev1_congr h]
  | len x => show opLen x call f s = opLen x call f' s; unfold opLen; rw [ev1_congr h]
  | cap x => show opCap x call f s = opCap x call f' s; unfold opCap; rw [ev1_congr h]
  | app sz n x y => show opApp sz n x y call f s = opApp sz n x y call f' s; unfold opApp; rw [ev1_congr (x := x) fun t ht => h t (l ht), ev1_congr (x := y) fun t ht => h t (r ht)]
  | mm mx x rs =>
    show opMm mx x rs call f s = opMm mx x rs call f' s
    unfold opMm
    rw [ev1_congr (x := x) fun t ht => h t (l ht)]
    exact mm_congr (fun t ht => h t (r ht)) _
theorem wanted_congr {g : CG} (h : ∀ t, (∃ b, g = .g t b) → t.get f = t.get f') : wanted g f = wanted g f' := by
  cases g with
  | none => rfl
  | g s b => show (s.get f).onBool false _ = (s.get f').onBool false _; rw [h s ⟨b, rfl⟩]
end
theorem alloc_one {call : CallT} {f : Fr AV} {s s' : St} {r : AV} {co : COp} (hk : co.kind = .alloc) (h : exop co call f s = .ok r s') : s'.obj s.n ≠ .dead ∧ ∀ b, b ≠ s.n → s'.obj b = s.obj b := by
  have key : ∀ {o : AO} {k : Id → St → R}, o ≠ .dead → (∀ n t, ∃ v, k n t = .ok v t) → s.alloc o k = .ok r s' → s'.obj s.n ≠ .dead ∧ ∀ b, b ≠ s.n → s'.obj b = s.obj b := by
    intro o k ho hk h
    obtain ⟨s1, _, h2, h3⟩ := alloc_ok h
    obtain ⟨v, hv⟩ := hk s.n s1
    rw [hv] at h3
    obtain ⟨rfl, rfl⟩ := ok_inj h3
    exact ⟨by rw [h2, if_pos rfl]; exact ho, fun b hb => by rw [h2, if_neg hb]⟩
  have fillk : ∀ {ps : List Part} {z : List AV} {k : List AV → R}, (∀ l, k l = .ok r s' → s'.obj s.n ≠ .dead ∧ ∀ b, b ≠ s.n → s'.obj b = s.obj b) → fill f ps z k = .ok r s' → s'.obj s.n ≠ .dead ∧ ∀ b, b ≠ s.n → s'.obj b = s.obj b := by
    intro ps
    induction ps with
    | nil => intro z k hk h; exact hk z h
    | cons p ps ih =>
      obtain ⟨o, n, x⟩ := p
      intro z k hk h
      obtain ⟨m, _, _, h1⟩ := lay_ok (v := ev1 f x) (k := fun m => br (Nat.beq (ln m) n) (br (Nat.ble (Nat.add o n) (ln z)) (fill f ps (splice o m z) k) .no) .no) h
      obtain ⟨_, h2⟩ := br_ok h1
      obtain ⟨_, h3⟩ := br_ok h2
      exact ih hk h3
  cases co <;> first | (cases hk; done) | skip
  case box x =>
    obtain ⟨l, _, _, h1⟩ := lay_ok (v := ev1 f x) (k := fun l => s.alloc (.cells l) fun b s => .ok (.ptr b 0) s) h
    exact key (o := .cells l) (fun h => by cases h) (fun n t => ⟨.ptr n 0, rfl⟩) h1
  case alloc z => exact key (o := .cells z) (fun h => by cases h) (fun n t => ⟨.ptr n 0, rfl⟩) h
  case blit len z ps => exact fillk (k := fun cs => s.alloc (.cells cs) fun b s => .ok (.sl b 0 len len 0) s) (fun l h1 => key (o := .cells l) (fun h => by cases h) (fun n t => ⟨.sl n 0 len len 0, rfl⟩) h1) h
  case mkmap => exact key (o := .map []) (fun h => by cases h) (fun n t => ⟨.map n, rfl⟩) h
  case mksl bytes z l c =>
    obtain ⟨_, _, _, _, h1⟩ := idx_ok (v := ev1 f l) h
    obtain ⟨_, _, _, _, h2⟩ := idx_ok (v := ev1 f c) h1
    obtain ⟨_, h3⟩ := br_ok h2
    obtain ⟨_, h4⟩ := br_ok h3
    exact key (fun h => by cases h) (fun n t => ⟨_, rfl⟩) h4

theorem merge {o o1 o1' o' : Id → AO} {E E' : Env} {w w' : World} {n n' : Nat} (h : RelH o E w) (hk : ∀ b, o1 b = .dead ∨ o1 b = o b) (h1 : RelH o1' E' w') (he : ExtH n n' o1 E w o1' E' w')
    (hx : ∀ b, o b ≠ .dead → o1 b = .dead → o' b = o b) (hy : ∀ b, (o b = .dead ∨ o1 b ≠ .dead) → o' b = o1' b) : RelH o' E' w' ∧ ExtH n n' o E w o' E' w' ∧ ∀ b, o b ≠ .dead → o1 b = .dead → o1' b = .dead := by
  have h0 : RelH o1 E w := h.kill hk
  have hle := he.le h0
  have up : ∀ b, o1 b ≠ .dead → o b ≠ .dead := fun b hb => by rw [← (hk b).resolve_left hb]; exact hb
  have hdead : ∀ b, o b ≠ .dead → o1 b = .dead → o1' b = .dead := by
    intro b hb hb1
    by_cases hd : o1' b = .dead
    · exact hd
    · exfalso
      have hφ := he.φ b (h.old b hb)
      rcases he.new b hd with ⟨c, hc, e⟩ | hge
      · rw [hφ] at e
        exact h.inj c b (up c hc) hb (fun e' => hc (by rw [e']; exact hb1)) e
      · rw [hφ] at hge; have := h.block_lt hb; omega
  have stay : ∀ b, o b ≠ .dead → o1 b = .dead → w'.heap[(E.φ b).block]? = w.heap[(E.φ b).block]? := fun b hb hb1 =>
    he.keep _ (h.block_lt hb) (fun c hc e => h.inj c b (up c hc) hb (fun e' => hc (by rw [e']; exact hb1)) e)
  -- what is there: of the one, or of the other
  have dec : ∀ b, o' b ≠ .dead → (o b ≠ .dead ∧ o1 b = .dead ∧ o' b = o b) ∨ (o' b = o1' b ∧ o1' b ≠ .dead ∧ (o b = .dead ∨ o1 b ≠ .dead)) := by
    intro b hb
    by_cases h2 : o b ≠ .dead ∧ o1 b = .dead
    · exact .inl ⟨h2.1, h2.2, hx b h2.1 h2.2⟩
    · have h3 : o b = .dead ∨ o1 b ≠ .dead := by
        by_cases h4 : o b = .dead
        · exact .inl h4
        · exact .inr (fun h5 => h2 ⟨h4, h5⟩)
      have := hy b h3
      exact .inr ⟨this, by rw [← this]; exact hb, h3⟩
  have cross : ∀ b c, o b ≠ .dead → o1 b = .dead → o1' c ≠ .dead → b ≠ c → (E'.φ b).block ≠ (E'.φ c).block := by
    intro b c hb hb1 hc hbc e
    rw [he.φ b (h.old b hb)] at e
    rcases he.new c hc with ⟨d, hd, e2⟩ | hge
    · exact h.inj d b (up d hd) hb (fun e' => hd (by rw [e']; exact hb1)) (e2.trans e.symm)
    · have := h.block_lt hb; omega
  refine ⟨⟨?_, ?_, ?_, ?_, ?_, h1.seen⟩, { he with seen := fun k hk => (he.seen k hk).imp id (Or.imp id fun ⟨b, hb, e⟩ => ⟨b, up b hb, e⟩), keep := fun k hk' hb => he.keep k hk' (fun b hb1 => hb b (up b hb1)), new := ?_ }, hdead⟩
  · intro b cs hb
    rcases dec b (by rw [hb]; intro h; cases h) with ⟨g1, g2, g3⟩ | ⟨g1, g2, _⟩
    · obtain ⟨c, e, us, H⟩ := h.cells b cs (by rw [← g3]; exact hb)
      have hφ := he.φ b (h.old b g1)
      exact ⟨c, e, us, by rw [hφ, stay b g1 g2]; exact H.heap, H.row.mono hle, fun j u hu => by rw [hφ]; exact H.at_ j u hu, H.one⟩
    · exact h1.cells b cs (by rw [← g1]; exact hb)
  · intro b es hb
    rcases dec b (by rw [hb]; intro h; cases h) with ⟨g1, g2, g3⟩ | ⟨g1, g2, _⟩
    · obtain ⟨ms, cl, H⟩ := h.map b es (by rw [← g3]; exact hb)
      have hφ := he.φ b (h.old b g1)
      exact ⟨ms, cl, by rw [hφ, stay b g1 g2]; exact H.heap, H.keys.mono hle, H.vals.mono hle, H.born⟩
    · exact h1.map b es (by rw [← g1]; exact hb)
  · intro b hb
    rcases dec b hb with ⟨g1, _, _⟩ | ⟨_, g2, _⟩
    · exact he.D b (h.old b g1)
    · exact h1.old b g2
  · intro b c hb hc hbc
    rcases dec b hb with ⟨g1, g2, _⟩ | ⟨_, g2, _⟩ <;> rcases dec c hc with ⟨k1, k2, _⟩ | ⟨_, k2, _⟩
    · rw [he.φ b (h.old b g1), he.φ c (h.old c k1)]; exact h.inj b c g1 k1 hbc
    · exact cross b c g1 g2 k2 hbc
    · exact fun e => cross c b k1 k2 g2 (fun h => hbc h.symm) e.symm
    · exact h1.inj b c g2 k2 hbc
  · intro b hb
    rcases dec b hb with ⟨g1, g2, _⟩ | ⟨_, g2, _⟩
    · rw [he.φ b (h.old b g1)]
      intro hi
      rcases he.seen _ hi with h2 | h2 | ⟨c, hc, e⟩
      · exact h.apart b g1 h2
      · have := h.block_lt g1; omega
      · exact h.inj c b (up c hc) g1 (fun e' => hc (by rw [e']; exact g2)) e
    · exact h1.apart b g2
  · intro b hb
    rcases dec b hb with ⟨g1, g2, _⟩ | ⟨_, g2, _⟩
    · exact .inl ⟨b, g1, by rw [he.φ b (h.old b g1)]⟩
    · exact (he.new b g2).imp (fun ⟨c, hc, e⟩ => ⟨c, up c hc, e⟩) id
end Go.Vm
namespace Go.Vm
set_option linter.unusedVariables false
variable {P : Program}
structure DS where
  b : Id
  f : Fr AV
  h : Tab AO
  n : Id
  ps : List Pd
  rs : List Rd
  ws : List Wr
noncomputable def CR.guard : CR → CG
  | .mk _ _ g => g
noncomputable def CR.cop : CR → COp
  | .mk _ o _ => o
noncomputable def CR.cd : CR → CD
  | .mk d _ _ => d
noncomputable def DR.want (d : DR) (S : DS) : Bool := wanted d.cr.guard S.f
noncomputable def made (d : DR) (S : DS) : AO := (exop d.cr.cop noCall S.f (.mk (.rep .dead) S.b)).on .dead fun _ s1 => S.b.get s1.h
def KStep (call : CallT) (d : DR) (S S' : DS) (v : AV) : Kind → Prop
  | .quiet => (∃ s1, exop d.cr.cop noCall S.f .empty = .ok v s1) ∧ S'.h = S.h ∧ S'.n = S.n ∧ S'.ps = S.ps ∧ S'.rs = S.rs ∧ S'.ws = S.ws
  | .alloc => (∃ s1, exop d.cr.cop noCall S.f (.mk (.rep .dead) S.b) = .ok v s1) ∧ S'.h = S.h ∧ S'.n = S.n ∧ S'.ps = ⟨d.i, S.b, made d S⟩ :: S.ps ∧ S'.rs = S.rs ∧ S'.ws = S.ws
  | .read => (((∃ s1, exop d.cr.cop noCall S.f (.mk S.h S.n) = .ok v s1) ∧ writesOk d.pre S.n S.f d.cr.cop v S.ws = true) ∨ ∃ s1, exop d.cr.cop noCall S.f (.mk (flush (S.ps.filter fun p => bit d.pre p.i) (.rep .dead)) S.n) = .ok v s1) ∧ S'.h = S.h ∧ S'.n = S.n ∧ S'.ps = S.ps ∧ S'.rs = ⟨d.i, S.f, d.cr.cop, v⟩ :: S.rs ∧ S'.ws = S.ws
  | .mut => allPre d.pre (S.ws.map (·.i)) = true ∧ exop d.cr.cop call S.f (.mk (flush (S.ps.filter fun p => bit d.pre p.i) S.h) S.n) = .ok v (.mk S'.h S'.n) ∧ readsOk d.pre S'.h S'.n S.rs = true ∧
      S'.ps = (S.ps.filter fun p => !bit d.pre p.i) ∧ S'.rs = S.rs ∧ S'.ws = ⟨d.i, S.h⟩ :: S.ws
def DStep (call : CallT) (d : DR) (S S' : DS) : Prop :=
  S'.b.val = S.b.val + 1 ∧ ((d.want S = false ∧ S'.f = putD d.cr.cd undef S.f ∧ S'.h = S.h ∧ S'.n = S.n ∧ S'.ps = S.ps ∧ S'.rs = S.rs ∧ S'.ws = S.ws) ∨
    (d.want S = true ∧ ∃ v, S'.f = putD d.cr.cd v S.f ∧ KStep call d S S' v d.kind))
theorem RC_on_ne {q : R} {k : AV → St → RC} (h : q.on .no k ≠ .no) : ∃ v s, q = .ok v s ∧ k v s ≠ .no ∧ q.on .no k = k v s := by
  cases q with
  | no => exact absurd rfl h
  | ok v s => exact ⟨v, s, rfl, h, rfl⟩
theorem St.eta (s : St) : s = .mk s.h s.n := by cases s; rfl
theorem exdraw_chain {call : CallT} {l : List DR} (S0 : DS) (hne : exdraw call l S0.b S0.f S0.h S0.n S0.ps S0.rs S0.ws ≠ .no) :
    ∃ S : Nat → DS, S 0 = S0 ∧ (∀ j d, l[j]? = some d → DStep call d (S j) (S (j + 1))) ∧ exdraw call l S0.b S0.f S0.h S0.n S0.ps S0.rs S0.ws = .nor (S l.length).f (.mk (flush (S l.length).ps (S l.length).h) (S l.length).n) := by
  induction l generalizing S0 with
  | nil => exact ⟨fun _ => S0, rfl, fun j d h => by simp at h, rfl⟩
  | cons d l ih =>
    -- one step, then the rest
    have go : ∀ S1 : DS, DStep call d S0 S1 → exdraw call l S1.b S1.f S1.h S1.n S1.ps S1.rs S1.ws ≠ .no → exdraw call (d :: l) S0.b S0.f S0.h S0.n S0.ps S0.rs S0.ws = exdraw call l S1.b S1.f S1.h S1.n S1.ps S1.rs S1.ws →
        ∃ S : Nat → DS, S 0 = S0 ∧ (∀ j e, (d :: l)[j]? = some e → DStep call e (S j) (S (j + 1))) ∧ exdraw call (d :: l) S0.b S0.f S0.h S0.n S0.ps S0.rs S0.ws = .nor (S (d :: l).length).f (.mk (flush (S (d :: l).length).ps (S (d :: l).length).h) (S (d :: l).length).n) := by
      intro S1 hs hne1 he
      obtain ⟨S, h0, hS, hend⟩ := ih S1 hne1
      refine ⟨fun j => match j with | 0 => S0 | j + 1 => S j, rfl, fun j e hj => ?_, ?_⟩
      · cases j with
        | zero => simp at hj; subst hj; show DStep call d S0 (S 0); rw [h0]; exact hs
        | succ j => exact hS j e (by simpa using hj)
      · rw [he, hend]; rfl
    obtain ⟨i, pre, k, cd, op, g⟩ := d
    have e0 : exdraw call (.mk i pre k (.mk cd op g) :: l) S0.b S0.f S0.h S0.n S0.ps S0.rs S0.ws = S0.b.up .no fun b' => br (wanted g S0.f) (exkind call (exdraw call l b') i pre cd op S0.b S0.f S0.h S0.n S0.ps S0.rs S0.ws k) (exdraw call l b' (putD cd undef S0.f) S0.h S0.n S0.ps S0.rs S0.ws) := rfl
    rw [e0] at hne
    rcases Id.up_spec S0.b RC.no (fun b' => br (wanted g S0.f) (exkind call (exdraw call l b') i pre cd op S0.b S0.f S0.h S0.n S0.ps S0.rs S0.ws k) (exdraw call l b' (putD cd undef S0.f) S0.h S0.n S0.ps S0.rs S0.ws)) with hu | ⟨b', hb, hu⟩
    · rw [hu] at hne; exact absurd rfl hne
    · rw [hu] at hne e0
      cases hw : wanted g S0.f with
      | false =>
        rw [hw, br_false] at hne e0
        exact go ⟨b', putD cd undef S0.f, S0.h, S0.n, S0.ps, S0.rs, S0.ws⟩ ⟨hb, .inl ⟨hw, rfl, rfl, rfl, rfl, rfl, rfl⟩⟩ hne e0
      | true =>
        rw [hw, br_true] at hne e0
        cases k with
        | quiet =>
          obtain ⟨v, s1, h1, h2, h3⟩ := RC_on_ne (q := exop op noCall S0.f .empty) (k := fun v _ => exdraw call l b' (putD cd v S0.f) S0.h S0.n S0.ps S0.rs S0.ws) hne
          exact go ⟨b', putD cd v S0.f, S0.h, S0.n, S0.ps, S0.rs, S0.ws⟩ ⟨hb, .inr ⟨hw, v, rfl, ⟨s1, h1⟩, rfl, rfl, rfl, rfl, rfl⟩⟩ h2 (e0.trans h3)
        | alloc =>
          obtain ⟨v, s1, h1, h2, h3⟩ := RC_on_ne (q := exop op noCall S0.f (.mk (.rep .dead) S0.b)) (k := fun v s => exdraw call l b' (putD cd v S0.f) S0.h S0.n (⟨i, S0.b, S0.b.get s.h⟩ :: S0.ps) S0.rs S0.ws) hne
          have hm : made (.mk i pre .alloc (.mk cd op g)) S0 = S0.b.get s1.h := by
            show (exop op noCall S0.f (.mk (.rep .dead) S0.b)).on AO.dead _ = _
            rw [h1]; rfl
          exact go ⟨b', putD cd v S0.f, S0.h, S0.n, ⟨i, S0.b, S0.b.get s1.h⟩ :: S0.ps, S0.rs, S0.ws⟩ ⟨hb, .inr ⟨hw, v, rfl, ⟨s1, h1⟩, rfl, rfl, by rw [hm]; rfl, rfl, rfl⟩⟩ h2 (e0.trans h3)
        | read =>
          have hne2 : (exop op noCall S0.f (.mk S0.h S0.n)).on ((exop op noCall S0.f (.mk (flush (S0.ps.filter fun p => bit pre p.i) (.rep .dead)) S0.n)).on .no fun v _ => exdraw call l b' (putD cd v S0.f) S0.h S0.n S0.ps (⟨i, S0.f, op, v⟩ :: S0.rs) S0.ws) (fun v _ => br (writesOk pre S0.n S0.f op v S0.ws) (exdraw call l b' (putD cd v S0.f) S0.h S0.n S0.ps (⟨i, S0.f, op, v⟩ :: S0.rs) S0.ws) .no) ≠ .no := hne
          have e1 : exdraw call (.mk i pre .read (.mk cd op g) :: l) S0.b S0.f S0.h S0.n S0.ps S0.rs S0.ws = (exop op noCall S0.f (.mk S0.h S0.n)).on ((exop op noCall S0.f (.mk (flush (S0.ps.filter fun p => bit pre p.i) (.rep .dead)) S0.n)).on .no fun v _ => exdraw call l b' (putD cd v S0.f) S0.h S0.n S0.ps (⟨i, S0.f, op, v⟩ :: S0.rs) S0.ws) (fun v _ => br (writesOk pre S0.n S0.f op v S0.ws) (exdraw call l b' (putD cd v S0.f) S0.h S0.n S0.ps (⟨i, S0.f, op, v⟩ :: S0.rs) S0.ws) .no) := e0
          clear e0 hne
          cases h1 : exop op noCall S0.f (.mk S0.h S0.n) with
          | no =>
            rw [h1] at hne2 e1
            obtain ⟨v, s1, h1, h2, h3⟩ := RC_on_ne (q := exop op noCall S0.f (.mk (flush (S0.ps.filter fun p => bit pre p.i) (.rep .dead)) S0.n)) (k := fun v _ => exdraw call l b' (putD cd v S0.f) S0.h S0.n S0.ps (⟨i, S0.f, op, v⟩ :: S0.rs) S0.ws) hne2
            exact go ⟨b', putD cd v S0.f, S0.h, S0.n, S0.ps, ⟨i, S0.f, op, v⟩ :: S0.rs, S0.ws⟩ ⟨hb, .inr ⟨hw, v, rfl, .inr ⟨s1, h1⟩, rfl, rfl, rfl, rfl, rfl⟩⟩ h2 (e1.trans h3)
          | ok v s1 =>
          rw [h1] at hne2 e1
          have h2 : br (writesOk pre S0.n S0.f op v S0.ws) (exdraw call l b' (putD cd v S0.f) S0.h S0.n S0.ps (⟨i, S0.f, op, v⟩ :: S0.rs) S0.ws) .no ≠ .no := hne2
          have e1 : exdraw call (.mk i pre .read (.mk cd op g) :: l) S0.b S0.f S0.h S0.n S0.ps S0.rs S0.ws = br (writesOk pre S0.n S0.f op v S0.ws) (exdraw call l b' (putD cd v S0.f) S0.h S0.n S0.ps (⟨i, S0.f, op, v⟩ :: S0.rs) S0.ws) .no := e1
          cases hq : writesOk pre S0.n S0.f op v S0.ws with
          | true =>
            rw [hq, br_true] at h2 e1
            exact go ⟨b', putD cd v S0.f, S0.h, S0.n, S0.ps, ⟨i, S0.f, op, v⟩ :: S0.rs, S0.ws⟩ ⟨hb, .inr ⟨hw, v, rfl, .inl ⟨⟨s1, h1⟩, hq⟩, rfl, rfl, rfl, rfl, rfl⟩⟩ h2 e1
          | false => rw [hq] at h2; exact absurd rfl h2
        | «mut» =>
          cases hp : allPre pre (S0.ws.map (·.i)) with
          | true =>
            have hne' : (exop op call S0.f (.mk (flush (S0.ps.filter fun p => bit pre p.i) S0.h) S0.n)).on .no (fun v s => br (readsOk pre s.h s.n S0.rs) (exdraw call l b' (putD cd v S0.f) s.h s.n (S0.ps.filter fun p => !bit pre p.i) S0.rs (⟨i, S0.h⟩ :: S0.ws)) .no) ≠ .no := by
              have e2 : exkind call (exdraw call l b') i pre cd op S0.b S0.f S0.h S0.n S0.ps S0.rs S0.ws .mut = br (allPre pre (S0.ws.map (·.i))) ((exop op call S0.f (.mk (flush (S0.ps.filter fun p => bit pre p.i) S0.h) S0.n)).on .no (fun v s => br (readsOk pre s.h s.n S0.rs) (exdraw call l b' (putD cd v S0.f) s.h s.n (S0.ps.filter fun p => !bit pre p.i) S0.rs (⟨i, S0.h⟩ :: S0.ws)) .no)) .no := rfl
              rw [e2, hp, br_true] at hne; exact hne
            have e2 : exkind call (exdraw call l b') i pre cd op S0.b S0.f S0.h S0.n S0.ps S0.rs S0.ws .mut = (exop op call S0.f (.mk (flush (S0.ps.filter fun p => bit pre p.i) S0.h) S0.n)).on .no (fun v s => br (readsOk pre s.h s.n S0.rs) (exdraw call l b' (putD cd v S0.f) s.h s.n (S0.ps.filter fun p => !bit pre p.i) S0.rs (⟨i, S0.h⟩ :: S0.ws)) .no) := by
              show br (allPre pre (S0.ws.map (·.i))) _ _ = _
              rw [hp]; rfl
            obtain ⟨v, s1, h1, h2, h3⟩ := RC_on_ne hne'
            have e1 := (e0.trans e2).trans h3
            cases hq : readsOk pre s1.h s1.n S0.rs with
            | true =>
              rw [hq, br_true] at h2 e1
              exact go ⟨b', putD cd v S0.f, s1.h, s1.n, S0.ps.filter (fun p => !bit pre p.i), S0.rs, ⟨i, S0.h⟩ :: S0.ws⟩ ⟨hb, .inr ⟨hw, v, rfl, hp, by rw [← St.eta s1]; exact h1, hq, rfl, rfl, rfl⟩⟩ h2 e1
            | false => rw [hq] at h2; exact absurd rfl h2
          | false =>
            have e2 : exkind call (exdraw call l b') i pre cd op S0.b S0.f S0.h S0.n S0.ps S0.rs S0.ws .mut = .no := by
              show br (allPre pre (S0.ws.map (·.i))) _ _ = _
              rw [hp]; rfl
            rw [e2] at hne; exact absurd rfl hne

theorem like_eq : ∀ (n : Nat), (∀ a b : AV, SizeOf.sizeOf a ≤ n → like a b = true → a = b) ∧ (∀ l m : List AV, SizeOf.sizeOf l ≤ n → like.likes l m = true → l = m) := by
  intro n
  induction n with
  | zero =>
    refine ⟨fun a b h _ => ?_, fun l m h _ => ?_⟩
    · cases a <;> simp at h
    · cases l <;> simp at h
  | succ n ih =>
    obtain ⟨iha, ihl⟩ := ih
    refine ⟨fun a b h hl => ?_, fun l m h hl => ?_⟩
    · cases a <;> cases b <;> simp only [like, Bool.and_eq_true, beq_iff_eq, decide_eq_true_eq, Bool.false_eq_true] at hl
      case bool.bool => rw [hl]
      case int.int => rw [(keq_iff _ _).mp hl.1, hl.2]
      case str.str => rw [hl]
      case nilp.nilp => rfl
      case ptr.ptr => rw [hl.1, hl.2]
      case tp.tp => rw [ihl _ _ (by simp at h; omega) hl]
      case nils.nils => rfl
      case sl.sl => obtain ⟨⟨⟨⟨h1, h2⟩, h3⟩, h4⟩, h5⟩ := hl; rw [h1, h2, h3, h4, h5]
      case ts.ts => obtain ⟨⟨⟨h1, h2⟩, h3⟩, h4⟩ := hl; rw [ihl _ _ (by simp at h; omega) h1, h2, h3, h4]
      case nilm.nilm => rfl
      case map.map => rw [hl]
      case nilf.nilf => rfl
      case fn.fn => obtain ⟨⟨h1, h2⟩, h3⟩ := hl; rw [h1, ihl _ _ (by simp at h; omega) h2, ihl _ _ (by simp at h; omega) h3]
      case nili.nili => rfl
      case ifc.ifc => rw [hl.1, iha _ _ (by simp at h; omega) hl.2]
      case agg.agg => rw [ihl _ _ (by simp at h; omega) hl]
      case tup.tup => rw [ihl _ _ (by simp at h; omega) hl]
    · cases l <;> cases m <;> simp only [like.likes, Bool.and_eq_true, Bool.false_eq_true] at hl
      case nil.nil => rfl
      case cons.cons => rw [iha _ _ (by simp at h; omega) hl.1, ihl _ _ (by simp at h; omega) hl.2]
theorem like_ok {a b : AV} (h : like a b = true) : a = b := (like_eq (SizeOf.sizeOf a)).1 a b (Nat.le_refl _) h
theorem again_ok {h : Tab AO} {n : Id} {f : Fr AV} {op : COp} {v : AV} (hh : again h n f op v = true) : ∃ s1, exop op noCall f (.mk h n) = .ok v s1 := by
  unfold again at hh
  cases hq : exop op noCall f (.mk h n) with
  | no => rw [hq] at hh; cases hh
  | ok u s1 => rw [hq] at hh; exact ⟨s1, by rw [like_ok hh]⟩
theorem flush_get (ps : List Pd) (h : Tab AO) (b : Id) : (∃ p ∈ ps, p.b = b ∧ b.get (flush ps h) = p.o) ∨ ((∀ p ∈ ps, p.b ≠ b) ∧ b.get (flush ps h) = b.get h) := by
  induction ps generalizing h with
  | nil => exact .inr ⟨fun p hp => by simp at hp, rfl⟩
  | cons p ps ih =>
    show (∃ q ∈ p :: ps, q.b = b ∧ b.get (flush ps (p.b.set p.o h)) = q.o) ∨ (_ ∧ b.get (flush ps (p.b.set p.o h)) = _)
    rcases ih (p.b.set p.o h) with ⟨q, hq, h1, h2⟩ | ⟨h1, h2⟩
    · exact .inl ⟨q, List.mem_cons_of_mem _ hq, h1, h2⟩
    · rw [Id.get_set] at h2
      by_cases hb : b = p.b
      · rw [if_pos hb] at h2; exact .inl ⟨p, List.mem_cons_self, hb.symm, h2⟩
      · rw [if_neg hb] at h2
        exact .inr ⟨fun q hq => by rcases List.mem_cons.mp hq with rfl | hq <;> first | exact fun e => hb e.symm | exact h1 q hq, h2⟩
end Go.Vm
