/- The abstract machine is sound: calls. The statements whose order is open left to a condition. -/
import Derived.Test.YtjnejkganejdbaaVmT
namespace Go.Vm
set_option linter.unusedVariables false
variable {P : Program}
theorem RC.on_ok {rc : RC} {d : R} {k : Fr AV → St → R} {e : Nat → Fr AV → St → R} {t : Fr AV → St → R} {r : AV} {s' : St} (h : rc.on d k e t = .ok r s') : (rc = .no ∧ d = .ok r s') ∨ (∃ f s, rc = .nor f s ∧ k f s = .ok r s') ∨ (∃ i f s, rc = .exit i f s ∧ e i f s = .ok r s') ∨ (∃ f s, rc = .ret f s ∧ t f s = .ok r s') := by
  cases rc with
  | no => exact .inl ⟨rfl, h⟩
  | nor f s => exact .inr (.inl ⟨f, s, rfl, h⟩)
  | exit i f s => exact .inr (.inr (.inl ⟨i, f, s, rfl, h⟩))
  | ret f s => exact .inr (.inr (.inr ⟨f, s, rfl, h⟩))
theorem R.on_ok {q : R} {k : AV → St → R} {r : AV} {s' : St} (h : q.on .no k = .ok r s') : ∃ v s, q = .ok v s ∧ k v s = .ok r s' := by
  cases q with
  | no => exact R.noConfusion h
  | ok v s => exact ⟨v, s, rfl, h⟩
/-! ### Results -/
/-- One result, as the model reads it. -/
def resRun (tmps : Array Value) : ResultVar → Sem Value
  | .tmp t => pure (tmps.getD t Go.undef)
  | .cell a t => do loadVar t (← asAddr (tmps.getD a Go.undef))
theorem res_ok {E : Env} {w : World} {nt : Nat} {f : Fr AV} {a : Act} (rf : RF E w nt f a) {s s' : St} (rh : RelH s.obj E w) {v : ResultVar} {cv : Res} (hv : copRes P v = some cv) {k : AV → R} {r : AV} (h : resOf f s cv k = .ok r s') :
    ∃ u c, (resRun a.tmps v).run P w = .ok u w ∧ RV E w c u ∧ k c = .ok r s' := by
  cases v with
  | tmp t =>
    simp only [copRes] at hv
    split at hv <;> first | (cases hv; done) | skip
    rename_i ht
    cases hv
    exact ⟨_, _, by simp [resRun], rf.slot t ht, h⟩
  | cell t ty =>
    simp only [copRes, Option.bind_eq_bind] at hv
    split at hv <;> first | (cases hv; done) | skip
    rename_i ht
    simp only [Option.bind_eq_some_iff] at hv
    obtain ⟨ag, ha, sz, hs, hv⟩ := hv
    cases hv
    obtain ⟨c, s1, hq, hk⟩ := R.on_ok (show (((Sl.ofNat t).get f).onPtr .no (fun b o => (s.obj b).onCells .no fun cs => wrap1 ag sz (dr o cs) s) fun _ => .no).on .no (fun v _ => k v) = .ok r s' from h)
    have h1 := rf.slot t ht
    rcases onPtr_ok hq with ⟨b, off, hb, hq⟩ | ⟨cs, _, hq⟩
    · rw [hb] at h1
      obtain ⟨cs, hcs, hq⟩ := onCells_ok hq
      obtain ⟨c', e, us, H⟩ := rh.cells b cs hcs
      generalize hu : a.tmps.getD t Go.undef = u at h1
      cases h1
      rw [dr_eq] at hq
      obtain ⟨_, v, h2, h3⟩ := run_loadVar ha hs (g := (E.φ b).block) (off := (E.φ b).off + off) (H.row.drop off) (fun j u hj => by
        rw [List.getElem?_drop] at hj; rw [Nat.add_assoc]; exact holds_cell H _ u hj) (fun c hc => H.one c (List.mem_of_mem_drop hc)) hq
      exact ⟨v, c, by simp [resRun, hu, asAddr, h2], h3, hk⟩
    · exact R.noConfusion hq
theorem ress_ok {E : Env} {w : World} {nt : Nat} {f : Fr AV} {a : Act} (rf : RF E w nt f a) {s s' : St} (rh : RelH s.obj E w) {vs : List ResultVar} {cvs : List Res} (hv : vs.mapM (copRes P) = some cvs) {k : List AV → R} {r : AV} (h : ress f s cvs k = .ok r s') :
    ∃ us cs, (vs.mapM (resRun a.tmps)).run P w = .ok us w ∧ RL E w cs us ∧ k cs = .ok r s' := by
  induction vs generalizing cvs k with
  | nil =>
    simp at hv; subst hv
    exact ⟨[], [], by simp, RL.nil _ _, h⟩
  | cons v vs ih =>
    simp only [List.mapM_cons, Option.bind_eq_bind, Option.bind_eq_some_iff, Option.pure_def, Option.some.injEq] at hv
    obtain ⟨cv, hcv, cvs, hcvs, rfl⟩ := hv
    obtain ⟨u, c, h1, h2, h3⟩ := res_ok rf rh hcv (k := fun v => ress f s cvs fun vs => k (v :: vs)) h
    obtain ⟨us, cs, h4, h5, h6⟩ := ih hcvs h3
    exact ⟨u :: us, c :: cs, by simp [h1, h4], RL.cons h2 h5, h6⟩
theorem run_results {fn : Func} {tmps : Array Value} {w : World} {us : List Value} (h : (fn.results.toList.mapM (resRun tmps)).run P w = .ok us w) : (results fn tmps).run P w = .ok (if us.length = 1 then us.headD Go.undef else .tuple us.toArray) w := by
  have e : (fn.results.mapM (resRun tmps)).run P w = .ok us.toArray w := by
    rw [← Array.toArray_toList (xs := fn.results), List.mapM_toArray]
    simp [h]
  have e2 : results fn tmps = (do let vs ← fn.results.mapM (resRun tmps); pure (if h : vs.size = 1 then vs[0] else .tuple vs)) := by
    unfold results
    congr 1
  rw [e2]
  simp only [Sem.run_bind, e, Result.andThen_ok, Sem.run_pure]
  congr 1
  match us with
  | [] => rfl
  | [u] => rfl
  | u :: v :: us => simp
theorem pack_rv {E : Env} {w : World} {cs : List AV} {us : List Value} (h : RL E w cs us) : RV E w (pack cs) (if us.length = 1 then us.headD Go.undef else .tuple us.toArray) := by
  match cs, us, h with
  | [], us, h =>
    have : us = [] := List.eq_nil_of_length_eq_zero (by simpa using h.len)
    subst this
    exact .tup [] [] rfl (fun j c u h => by simp at h)
  | [c], us, h =>
    obtain ⟨u, vs, rfl, h1, h2⟩ := RL.cons_inv h
    have : vs = [] := List.eq_nil_of_length_eq_zero (by simpa using h2.len)
    subst this
    exact h1
  | c :: d :: cs, us, h =>
    have hl := h.len
    rw [if_neg (by simp at hl; omega)]
    exact .tup _ _ h.len h.each
/-! ### Entering -/
theorem up_val (j : D16) {β : Type} (c : β) (k : D16 → β) : (j.val = 15 ∧ j.up c k = c) ∨ ∃ e : D16, e.val = j.val + 1 ∧ j.up c k = k e := D16.up_spec j c k
theorem lay_cons (x : AV) (args : List AV) (i j : D16) (f : Fr AV) : Vm.lay (x :: args) (.mk i j) f = Vm.lay args (j.up (i.up (.mk .d0 .d0) fun i => .mk i .d0) fun j => .mk i j) ((Sl.mk i j).set x f) := rfl
theorem lay_get {t : Nat} (ht : t < 256) (args : List AV) (p : Sl) (f : Fr AV) (hp : p.val + args.length ≤ 256) : (Sl.ofNat t).get (Vm.lay args p f) = if p.val ≤ t then (args[t - p.val]?).getD ((Sl.ofNat t).get f) else (Sl.ofNat t).get f := by
  induction args generalizing p f with
  | nil => show (Sl.ofNat t).get f = _; simp
  | cons x args ih =>
    cases p with | mk i j =>
    rw [lay_cons]
    have hpv : (Sl.mk i j).val = i.val * 16 + j.val := rfl
    have hget : (Sl.ofNat t).get ((Sl.mk i j).set x f) = if t = (Sl.mk i j).val then x else (Sl.ofNat t).get f := by
      rw [Sl.get_set]
      by_cases h : t = (Sl.mk i j).val
      · rw [if_pos h, if_pos (Sl.val_inj (by rw [Sl.val_ofNat ht]; exact h))]
      · rw [if_neg h, if_neg (fun e => h (by rw [← e, Sl.val_ofNat ht]))]
    cases args with
    | nil =>
      show (Sl.ofNat t).get ((Sl.mk i j).set x f) = _
      rw [hget]
      by_cases h : t = (Sl.mk i j).val
      · rw [if_pos h, if_pos (by omega), h]; simp
      · rw [if_neg h]
        by_cases h2 : (Sl.mk i j).val ≤ t
        · rw [if_pos h2, List.getElem?_eq_none (by simp; omega)]; rfl
        · rw [if_neg h2]
    | cons y args =>
      have hlt : (Sl.mk i j).val + 1 < 256 := by simp at hp; omega
      have hnext : (j.up (i.up (Sl.mk .d0 .d0) fun i => Sl.mk i .d0) fun j => Sl.mk i j).val = (Sl.mk i j).val + 1 := by
        rcases up_val j (i.up (Sl.mk .d0 .d0) fun i => Sl.mk i .d0) (fun j => Sl.mk i j) with ⟨h1, e⟩ | ⟨j', h1, e⟩
        · rw [e]
          rcases up_val i (Sl.mk .d0 .d0) (fun i => Sl.mk i .d0) with ⟨h2, e⟩ | ⟨i', h2, e⟩
          · omega
          · rw [e]; show i'.val * 16 + 0 = _; omega
        · rw [e]; show i.val * 16 + j'.val = _; omega
      rw [ih _ _ (by rw [hnext]; simp at hp ⊢; omega), hnext, hget]
      by_cases h : t = (Sl.mk i j).val
      · rw [if_neg (by omega), if_pos h, if_pos (by omega), h]; simp
      · by_cases h2 : (Sl.mk i j).val + 1 ≤ t
        · rw [if_pos h2, if_neg h, if_pos (by omega)]
          have : t - (Sl.mk i j).val = (t - ((Sl.mk i j).val + 1)) + 1 := by omega
          rw [this, List.getElem?_cons_succ]
        · rw [if_neg h2, if_neg h, if_neg (by omega)]
theorem frame0_rf {E : Env} {w : World} {nt : Nat} {args : List AV} {vals : List Value} (h : RL E w args vals) (h1 : args.length ≤ nt) (h2 : nt ≤ 256) : RF E w nt (frame0 args) { tmps := vals.toArray ++ Array.replicate (nt - vals.toArray.size) Go.undef, defers := [] } := by
  have hl := h.len
  refine ⟨fun t ht => ?_, by simp; omega, rfl⟩
  show RV E w ((Sl.ofNat t).get (Vm.lay args (.mk .d0 .d0) (.rep undef))) _
  have hz : (Sl.mk .d0 .d0).val = 0 := rfl
  rw [lay_get ht args _ _ (by rw [hz]; omega), if_pos (by rw [hz]; omega), hz, Nat.sub_zero, Sl.get_rep]
  by_cases hlt : t < args.length
  · have e1 : (vals.toArray ++ Array.replicate (nt - vals.toArray.size) Go.undef).getD t Go.undef = vals[t]'(by omega) := by
      simp only [Array.getD_eq_getD_getElem?]
      rw [Array.getElem?_append_left (by simp; omega)]
      simp [show t < vals.length by omega]
    rw [e1, List.getElem?_eq_getElem hlt]
    exact h.each t _ _ (List.getElem?_eq_getElem hlt) (List.getElem?_eq_getElem (by omega))
  · have e1 : (vals.toArray ++ Array.replicate (nt - vals.toArray.size) Go.undef).getD t Go.undef = Go.undef := by
      simp only [Array.getD_eq_getD_getElem?]
      rw [Array.getElem?_append_right (by simp; omega), Array.getElem?_replicate]
      split <;> rfl
    rw [e1, List.getElem?_eq_none (by omega)]
    exact RV.undef E w
/-! ### Calls -/
theorem Id.up_val' (x : Id) (h : x.val + 1 < 65536) : (x.up x fun q => q).val = x.val + 1 := by
  rcases Id.up_spec x x (fun q => q) with e | ⟨y, hy, e⟩
  · -- the last name
    exfalso
    cases x with | mk a b c d =>
    have hv : (Id.mk a b c d).val = ((a.val * 16 + b.val) * 16 + c.val) * 16 + d.val := rfl
    have hu : (Id.mk a b c d).up (Id.mk a b c d) (fun q => q) = d.up (c.up (b.up (a.up (Id.mk a b c d) fun a => Id.mk a .d0 .d0 .d0) fun b => Id.mk a b .d0 .d0) fun c => Id.mk a b c .d0) fun d => Id.mk a b c d := rfl
    have la := a.val_lt; have lb := b.val_lt; have lc := c.val_lt; have ld := d.val_lt
    rw [hu] at e
    have e' := congrArg Id.val e
    rcases up_val d (c.up (b.up (a.up (Id.mk a b c d) fun a => Id.mk a .d0 .d0 .d0) fun b => Id.mk a b .d0 .d0) fun c => Id.mk a b c .d0) (fun d => Id.mk a b c d) with ⟨h1, q⟩ | ⟨d', h1, q⟩
    · rw [q] at e'
      rcases up_val c (b.up (a.up (Id.mk a b c d) fun a => Id.mk a .d0 .d0 .d0) fun b => Id.mk a b .d0 .d0) (fun c => Id.mk a b c .d0) with ⟨h2, q⟩ | ⟨c', h2, q⟩
      · rw [q] at e'
        rcases up_val b (a.up (Id.mk a b c d) fun a => Id.mk a .d0 .d0 .d0) (fun b => Id.mk a b .d0 .d0) with ⟨h3, q⟩ | ⟨b', h3, q⟩
        · rw [q] at e'
          rcases up_val a (Id.mk a b c d) (fun a => Id.mk a .d0 .d0 .d0) with ⟨h4, q⟩ | ⟨a', h4, q⟩
          · omega
          · rw [q] at e'
            have : ((a'.val * 16 + 0) * 16 + 0) * 16 + 0 = ((a.val * 16 + b.val) * 16 + c.val) * 16 + d.val := e'
            omega
        · rw [q] at e'
          have : ((a.val * 16 + b'.val) * 16 + 0) * 16 + 0 = ((a.val * 16 + b.val) * 16 + c.val) * 16 + d.val := e'
          omega
      · rw [q] at e'
        have : ((a.val * 16 + b.val) * 16 + c'.val) * 16 + 0 = ((a.val * 16 + b.val) * 16 + c.val) * 16 + d.val := e'
        omega
    · rw [q] at e'
      have : ((a.val * 16 + b.val) * 16 + c.val) * 16 + d'.val = ((a.val * 16 + b.val) * 16 + c.val) * 16 + d.val := e'
      omega
  · rw [e]; exact hy
theorem cfs_get (fs : List Func) (p : Id) (t : Tab CF) (hp : p.val + fs.length ≤ 65536) (g : Id) : (∃ fn, p.val ≤ g.val ∧ fs[g.val - p.val]? = some fn ∧ g.get (cfs P fs p t) = cf P fn) ∨ g.get (cfs P fs p t) = g.get t := by
  induction fs generalizing p t with
  | nil => exact .inr rfl
  | cons f fs ih =>
    have hset : g.get (p.set (cf P f) t) = if g = p then cf P f else g.get t := Id.get_set g p _ t
    show (∃ fn, _ ∧ _ ∧ g.get (cfs P fs (p.up p fun q => q) (p.set (cf P f) t)) = _) ∨ g.get (cfs P fs (p.up p fun q => q) (p.set (cf P f) t)) = _
    cases fs with
    | nil =>
      show (∃ fn, _ ∧ _ ∧ g.get (p.set (cf P f) t) = _) ∨ g.get (p.set (cf P f) t) = _
      rw [hset]
      by_cases h : g = p
      · rw [if_pos h]; exact .inl ⟨f, by rw [h]; exact Nat.le_refl _, by rw [h]; simp, rfl⟩
      · rw [if_neg h]; exact .inr rfl
    | cons f2 fs =>
      simp only [List.length_cons] at hp
      have hn := Id.up_val' p (by omega)
      rcases ih (p.up p fun q => q) (p.set (cf P f) t) (by rw [hn]; simp only [List.length_cons]; omega) with ⟨fn, h1, h2, h3⟩ | h1
      · refine .inl ⟨fn, by omega, ?_, h3⟩
        rw [hn] at h2
        have : g.val - p.val = (g.val - (p.val + 1)) + 1 := by omega
        rw [this, List.getElem?_cons_succ]; exact h2
      · rw [h1, hset]
        by_cases h : g = p
        · rw [if_pos h]; exact .inl ⟨f, by rw [h]; exact Nat.le_refl _, by rw [h]; simp, rfl⟩
        · rw [if_neg h]; exact .inr rfl
theorem prog_get (g : Id) : (∃ fn, P.funcs[g.val]? = some fn ∧ g.get (prog P) = cf P fn) ∨ g.get (prog P) = .bad := by
  unfold prog
  split
  · rename_i hP
    rcases cfs_get (P := P) P.funcs.toList (.mk .d0 .d0 .d0 .d0) (.rep .bad) (by show 0 + _ ≤ _; simp; exact hP) g with ⟨fn, _, h2, h3⟩ | h
    · exact .inl ⟨fn, by rw [← Array.getElem?_toList]; exact h2, h3⟩
    · exact .inr (by rw [h, Id.get_rep])
  · exact .inr (Id.get_rep g _)
theorem evF_good {call : CallT} (hsc : SoundCall P call) (hdr : DrawnOk P call) (n : Nat) {g : Id} {fn : Func} (hf : P.funcs[g.val]? = some fn) {args : List AV} {s s' : St} {r : AV} (h : evF call n (cf P fn) args s = .ok r s') :
    (fn.body.isNone = false ∧ fn.name ≠ "runtime.NumGoroutine") ∧ ∀ (E : Env) (w : World) (vals : List Value), Rel s E w → RL E w args vals →
      Calls P g.val vals.toArray w fun e w' => ∃ E' v, e = .returned v ∧ RV E' w' r v ∧ Went s E w s' E' w' := by
  cases hc : cf P fn with
  | bad => rw [hc] at h; exact R.noConfusion h
  | mk nt res body =>
    rw [hc] at h
    unfold cf at hc
    generalize hopt : (do
      let b ← fn.body
      let c ← cc P fn.ntmps b
      let r ← fn.results.toList.mapM (copRes P)
      if fn.ntmps ≤ 256 ∧ fn.name ≠ "runtime.NumGoroutine" then some (CF.mk fn.ntmps r c) else none : Option CF) = opt at hc
    cases opt with
    | none => cases hc
    | some q =>
      have hq : q = .mk nt res body := hc
      subst hq
      simp only [Option.bind_eq_bind, Option.bind_eq_some_iff] at hopt
      obtain ⟨b, hb, c, hcc, rs, hrs, hif⟩ := hopt
      split at hif <;> first | (cases hif; done) | skip
      rename_i hcond
      have hif' := Option.some.inj hif
      injection hif' with e1 e2 e3
      subst e1; subst e2; subst e3
      clear hif
      obtain ⟨hle, h⟩ := br_ok (show br (Nat.ble (ln args) fn.ntmps) (fin rs (excode call n c (frame0 args) s)) .no = .ok r s' from h)
      have hle' : args.length ≤ fn.ntmps := by have := Nat.le_of_ble_eq_true hle; rwa [ln_eq] at this
      have hgood := code_good hsc hdr n b c hcc
      -- where it ends
      have hend : ∃ f1 s1, (excode call n c (frame0 args) s = .nor f1 s1 ∨ excode call n c (frame0 args) s = .ret f1 s1) ∧ ress f1 s1 rs (fun l => .ok (pack l) s1) = .ok r s' := by
        rcases RC.on_ok h with ⟨_, h1⟩ | ⟨f1, s1, e, h1⟩ | ⟨i, f1, s1, e, h1⟩ | ⟨f1, s1, e, h1⟩
        · exact R.noConfusion h1
        · exact ⟨f1, s1, .inl e, h1⟩
        · exact R.noConfusion h1
        · exact ⟨f1, s1, .inr e, h1⟩
      obtain ⟨f1, s1, he, hres⟩ := hend
      have hne : excode call n c (frame0 args) s ≠ .no := by rcases he with e | e <;> rw [e] <;> exact fun h => by cases h
      refine ⟨⟨by rw [hb]; rfl, hcond.2⟩, fun E w vals rel hrl => calls_of_wp hf hb (Code.wp_mono ?_ (hgood (frame0 args) s _ E w (frame0_rf hrl hle' hcond.1) rel hne))⟩
      intro e a' w' hp
      have fin' : ∀ (E' : Env), RF E' w' fn.ntmps f1 a' → Went s E w s1 E' w' → a'.defers = [] ∧ ∃ v, (results fn a'.tmps).run P w' = .ok v w' ∧ ∃ E' u, Ending.returned v = .returned u ∧ RV E' w' r u ∧ Went s E w s' E' w' := by
        intro E' rf hw
        obtain ⟨us, cs, g1, g2, g3⟩ := ress_ok rf hw.rel.h hrs hres
        obtain ⟨rfl, rfl⟩ := ok_inj g3
        exact ⟨rf.defers, _, run_results g1, E', _, rfl, pack_rv g2, hw⟩
      cases e with
      | normal =>
        obtain ⟨f', s2, E', h1, h2, h3⟩ := hp
        rcases he with e | e
        · rw [e] at h1; cases h1; exact fin' E' h2 h3
        · rw [e] at h1; cases h1
      | ret =>
        obtain ⟨f', s2, E', h1, h2, h3⟩ := hp
        rcases he with e | e
        · rw [e] at h1; cases h1
        · rw [e] at h1; cases h1; exact fin' E' h2 h3
      | exit i =>
        obtain ⟨f', s2, E', h1, h2, h3⟩ := hp
        rcases he with e | e <;> rw [e] at h1 <;> cases h1
      | _ => exact hp.elim
/-- THE ABSTRACT MACHINE IS SOUND: over what other calls are told to come to. -/
theorem evF_sound {call : CallT} (hsc : SoundCall P call) (hdr : ∀ call, SoundCall P call → DrawnOk P call) (n : Nat) {g : Id} {args : List AV} {s s' : St} {r : AV} (h : evF call n (g.get (prog P)) args s = .ok r s') :
    (∃ fn, P.funcs[g.val]? = some fn ∧ fn.body.isNone = false ∧ fn.name ≠ "runtime.NumGoroutine") ∧ ∀ (E : Env) (w : World) (vals : List Value), Rel s E w → RL E w args vals →
      Calls P g.val vals.toArray w fun e w' => ∃ E' v, e = .returned v ∧ RV E' w' r v ∧ Went s E w s' E' w' := by
  rcases prog_get (P := P) g with ⟨fn, hf, hg⟩ | hg
  · rw [hg] at h
    obtain ⟨h1, h2⟩ := evF_good hsc (hdr call hsc) n hf h
    exact ⟨⟨fn, hf, h1⟩, h2⟩
  · rw [hg] at h; exact R.noConfusion h
theorem ev_sound (hdr : ∀ call, SoundCall P call → DrawnOk P call) (k : Nat) : SoundCall P (ev (prog P) k) := by
  induction k with
  | zero => intro g args s r s' h; exact R.noConfusion h
  | succ k ih => intro g args s r s' h; exact evF_sound ih hdr k h
end Go.Vm
