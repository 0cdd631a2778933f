/- The abstract machine is sound: calls; every operation. No condition. -/
import Derived.Test.YtjnejkganejdbaaVmR
namespace Go.Vm
set_option linter.unusedVariables false
variable {P : Program}
section
variable {E : Env} {w : World} {nt : Nat} {f : Fr AV} {a : Act} {s s' : St} {r : AV} {call : CallT} {o : Oper}
theorem toArr {xs : Array Operand} (g : Operand → Value) : (xs.toList.map g).toArray = xs.map g := by apply Array.ext'; simp
theorem exop_good_call {cl : Call} {co : COp} (hop : o.op = .call cl) (hc : copCall P cl = some co) (rf : RF E w nt f a) (rh : RelH s.obj E w) (h : exop co call f s = .ok r s') : OpGood P call o a E w s s' r co.kind := by
  unfold copCall at hc
  split at hc
  · -- a function of the program's
    rename_i g hcal
    split at hc <;> first | (cases hc; done) | skip
    rename_i hg
    simp only [Option.bind_eq_bind, Option.bind_eq_some_iff] at hc
    obtain ⟨cs, hcs, hc⟩ := hc
    cases hc
    have hrl := cods_rl hcs rf
    intro rel hsc
    refine call_out rel hsc (vals := cl.args.toList.map a.eval) hrl h (fun fn h1 h2 h3 => ?_)
    rw [Id.val_ofNat hg] at h1 ⊢
    rw [toArr]
    simp [execOp, hop, resolve, hcal, Act.eval, Deferred.ofValue, invoke, run_callFunc h1 h2 h3]
  · -- a value
    rename_i x hne hcal
    simp only [Option.bind_eq_bind, Option.bind_eq_some_iff] at hc
    obtain ⟨cx, hx, cs, hcs, hc⟩ := hc
    cases hc
    have hrl := cods_rl hcs rf
    have h1 := cod_rv hx rf
    obtain ⟨g, as, bs, hv, hh⟩ := onFn_ok h
    rw [hv] at h1
    generalize hu : a.eval x = u at h1
    cases h1 with | fn _ _ _ us vs hl hr hm hs =>
    rw [apd_eq, apd_eq] at hh
    intro rel hsc
    have hrow : RL E w (as ++ (evs f cs ++ bs)) (us ++ (cl.args.toList.map a.eval ++ vs)) := RL.append ⟨hl, hr⟩ (hrl.append ⟨hm, hs⟩)
    refine call_out rel hsc hrow hh (fun fn h1 h2 h3 => ?_)
    have e : (us ++ (cl.args.toList.map a.eval ++ vs)).toArray = us.toArray ++ cl.args.map a.eval ++ vs.toArray := by apply Array.ext'; simp
    rw [e]
    simp [execOp, hop, resolve, hcal, hu, Deferred.ofValue, invoke, run_callFunc h1 h2 h3]
  · -- len
    rename_i hcal
    split at hc <;> first | (cases hc; done) | skip
    rename_i x t ha hat
    simp only [Option.bind_eq_bind, Option.bind_eq_some_iff] at hc
    obtain ⟨d, hd, hc⟩ := hc
    cases d <;> first | (cases hc; done) | skip
    all_goals
      simp only [Option.bind_eq_some_iff] at hc
      obtain ⟨cx, hx, hc⟩ := hc
      cases hc
    · exact good_q fun n n' => s_lens (call := call) hop hcal ha hat hd hx rf rh h
    · exact good_q fun n n' => s_len (call := call) hop hcal ha hat hd hx rf rh h
    · exact good_q fun n n' => s_lenm (call := call) hop hcal ha hat hd hx rf rh h
  · -- cap
    rename_i hcal
    split at hc <;> first | (cases hc; done) | skip
    rename_i x t ha hat
    simp only [Option.bind_eq_bind, Option.bind_eq_some_iff] at hc
    obtain ⟨d, hd, hc⟩ := hc
    cases d <;> first | (cases hc; done) | skip
    simp only [Option.bind_eq_some_iff] at hc
    obtain ⟨cx, hx, hc⟩ := hc
    cases hc
    exact good_q fun n n' => s_cap (call := call) hop hcal ha hat hd hx rf rh h
  · rename_i hcal
    split at hc <;> first | (cases hc; done) | skip
    rename_i x rs ha
    simp only [Option.bind_eq_bind, Option.bind_eq_some_iff] at hc
    obtain ⟨cx, hx, crs, hrs, hc⟩ := hc
    cases hc
    exact good_q fun n n' => s_mm (mx := true) (call := call) hop hcal ha hx hrs rf rh h
  · rename_i hcal
    split at hc <;> first | (cases hc; done) | skip
    rename_i x rs ha
    simp only [Option.bind_eq_bind, Option.bind_eq_some_iff] at hc
    obtain ⟨cx, hx, crs, hrs, hc⟩ := hc
    cases hc
    exact good_q fun n n' => s_mm (mx := false) (call := call) hop hcal ha hx hrs rf rh h
  · -- append
    rename_i hcal
    split at hc <;> first | (cases hc; done) | skip
    rename_i x y t u ha hat
    simp only [Option.bind_eq_bind, Option.bind_eq_some_iff] at hc
    obtain ⟨d, hd, hc⟩ := hc
    cases d <;> first | (cases hc; done) | skip
    simp only [Option.bind_eq_some_iff] at hc
    obtain ⟨i, hi, z, hz, d2, hd2, hc⟩ := hc
    cases d2 <;> dsimp only at hc <;> first | (cases hc; done) | skip
    · split at hc <;> first | (cases hc; done) | skip
      simp only [Option.bind_eq_some_iff] at hc
      obtain ⟨cx, hx, cy, hy, hc⟩ := hc
      cases hc
      intro rel hsc
      have hh := s_app (call := call) hd hi hz (.inr hd2) hop hcal ha hat hx hy rf rh (rel.n s.n (Nat.le_refl _)) h
      exact .of rel hh.1 hh.2
    · simp only [Option.bind_eq_some_iff] at hc
      obtain ⟨cx, hx, cy, hy, hc⟩ := hc
      cases hc
      intro rel hsc
      have hh := s_app (call := call) hd hi hz (.inl ⟨_, hd2⟩) hop hcal ha hat hx hy rf rh (rel.n s.n (Nat.le_refl _)) h
      exact .of rel hh.1 hh.2
  · cases hc
theorem codo_opt {x : Option Operand} {c : Option CO} (h : codo x = some c) : codo x = some c := h
/-- EVERY OPERATION. -/
theorem exop_good {co : COp} (hc : cop P o.op = some co) (rf : RF E w nt f a) (rh : RelH s.obj E w) (h : exop co call f s = .ok r s') : OpGood P call o a E w s s' r co.kind := by
  cases hop : o.op with
  | move x => rw [hop] at hc; simp only [cop, Option.map_eq_some_iff] at hc; obtain ⟨cx, hx, rfl⟩ := hc; exact good_q fun n n' => s_mv (call := call) (.inl hop) hx rf rh h
  | assign x => rw [hop] at hc; simp only [cop, Option.map_eq_some_iff] at hc; obtain ⟨cx, hx, rfl⟩ := hc; exact good_q fun n n' => s_mv (call := call) (.inr hop) hx rf rh h
  | pick c x y =>
    rw [hop] at hc; simp only [cop, Option.bind_eq_bind, Option.bind_eq_some_iff] at hc
    obtain ⟨c1, h1, c2, h2, c3, h3, hc⟩ := hc; cases hc
    exact good_q fun n n' => s_pick (call := call) hop h1 h2 h3 rf rh h
  | alloc t => rw [hop] at hc; simp only [cop, Option.map_eq_some_iff] at hc; obtain ⟨z, hz, rfl⟩ := hc; exact fun hf => s_alloc (call := call) hz hop rf rh hf h
  | box t x => rw [hop] at hc; simp only [cop, Option.map_eq_some_iff] at hc; obtain ⟨cx, hx, rfl⟩ := hc; exact fun hf => s_box (call := call) hop hx rf rh hf h
  | build t ps =>
    rw [hop] at hc; simp only [cop, Option.bind_eq_bind, Option.bind_eq_some_iff] at hc
    obtain ⟨z, hz, d, hd, hc⟩ := hc
    cases d <;> first | (cases hc; done) | skip
    simp only [Option.bind_eq_some_iff] at hc
    obtain ⟨pl, hpl, cps, hcps, hc⟩ := hc; cases hc
    exact good_q fun n n' => s_build (call := call) hz hd hpl hcps hop rf rh h
  | buildSlice t len ps =>
    rw [hop] at hc; simp only [cop, Option.bind_eq_bind, Option.bind_eq_some_iff] at hc
    obtain ⟨d, hd, hc⟩ := hc
    cases d <;> first | (cases hc; done) | skip
    simp only [Option.bind_eq_some_iff] at hc
    obtain ⟨sz, hs, z, hz, hc⟩ := hc
    split at hc <;> first | (cases hc; done) | skip
    rename_i hlen
    simp only [Option.bind_eq_some_iff] at hc
    obtain ⟨cps, hcps, hc⟩ := hc; cases hc
    exact fun hf => s_blit (call := call) hd hs hz hlen hcps hop rf rh hf h
  | load t x =>
    rw [hop] at hc; simp only [cop, Option.bind_eq_bind, Option.bind_eq_some_iff] at hc
    obtain ⟨ag, ha, sz, hs, cx, hx, hc⟩ := hc; cases hc
    exact good_q fun n n' => s_load (call := call) hop ha hs hx rf rh h
  | store t x y =>
    rw [hop] at hc; simp only [cop, Option.bind_eq_bind, Option.bind_eq_some_iff] at hc
    obtain ⟨sz, hs, cx, hx, cy, hy, hc⟩ := hc; cases hc
    intro rel hsc
    have hh := s_store (call := call) (n := s.n.val) (n' := s'.n.val) hs hop hx hy rf rh h
    exact .of rel (by rw [hh.1]; exact Nat.le_refl _) hh.2
  | nilCheck x => rw [hop] at hc; simp only [cop, Option.map_eq_some_iff] at hc; obtain ⟨cx, hx, rfl⟩ := hc; exact good_q fun n n' => s_nilck (call := call) hop hx rf rh h
  | binOp op t x y u => rw [hop] at hc; exact exop_good_bin hop hc rf rh h
  | unOp op t x =>
    rw [hop] at hc
    cases op <;> first | (cases hc; done) | skip
    all_goals simp only [cop, Option.map_eq_some_iff] at hc
    all_goals first | (obtain ⟨cx, hx, rfl⟩ := hc) | (cases hc; done)
    · exact good_q fun n n' => s_neg (call := call) hop hx rf rh h
    · exact good_q fun n n' => s_not (call := call) hop hx rf rh h
  | convert t u x => rw [hop] at hc; exact exop_good_conv hop hc rf rh h
  | makeInterface t x =>
    rw [hop] at hc; simp only [cop, Option.bind_eq_bind, Option.bind_eq_some_iff] at hc
    obtain ⟨d, hd, hc⟩ := hc
    split at hc <;> first | (cases hc; done) | skip
    rename_i hni
    simp only [Option.bind_eq_some_iff] at hc
    obtain ⟨cx, hx, hc⟩ := hc; cases hc
    exact good_q fun n n' => s_mkif (call := call) hd (fun ms he => hni ms he) hop hx rf rh h
  | makeFunc g as bs =>
    rw [hop] at hc
    cases g <;> first | (cases hc; done) | skip
    rename_i g
    simp only [cop] at hc
    split at hc <;> first | (cases hc; done) | skip
    rename_i hg
    simp only [Option.bind_eq_bind, Option.bind_eq_some_iff] at hc
    obtain ⟨c1, h1, c2, h2, hc⟩ := hc; cases hc
    exact good_q fun n n' => s_mkfn (call := call) hg hop h1 h2 rf rh h
  | makeMap t rs =>
    rw [hop] at hc
    cases rs <;> first | (cases hc; done) | skip
    cases hc
    exact fun hf => s_mkmap (call := call) hop rf rh hf h
  | makeSlice t x y =>
    rw [hop] at hc; simp only [cop, Option.bind_eq_bind, Option.bind_eq_some_iff] at hc
    obtain ⟨d, hd, hc⟩ := hc
    cases d <;> first | (cases hc; done) | skip
    simp only [Option.bind_eq_some_iff] at hc
    obtain ⟨i, hi, z, hz, cx, hx, cy, hy, hc⟩ := hc; cases hc
    exact fun hf => s_mksl (call := call) hd hi hz hop hx hy rf rh hf h
  | slice t x lo hi mx =>
    rw [hop] at hc; simp only [cop, Option.bind_eq_bind, Option.bind_eq_some_iff] at hc
    obtain ⟨d, hd, hc⟩ := hc
    cases d <;> first | (cases hc; done) | skip
    · dsimp only at hc
      split at hc <;> first | (cases hc; done) | skip
      rename_i hmx
      simp only [Option.bind_eq_some_iff] at hc
      obtain ⟨cx, hx, cl, hl, ch, hh, hc⟩ := hc; cases hc
      have hmx' : mx = none := by cases mx <;> first | rfl | (exact absurd rfl hmx)
      subst hmx'
      exact good_q fun n n' => s_sslice (call := call) hd hop hx hl hh rf rh h
    · simp only [Option.bind_eq_some_iff] at hc
      obtain ⟨sz, hs, hc⟩ := hc
      split at hc <;> first | (cases hc; done) | skip
      rename_i hmx
      simp only [Option.bind_eq_some_iff] at hc
      obtain ⟨cx, hx, cl, hl, ch, hh, cm, hm, hc⟩ := hc; cases hc
      exact good_q fun n n' => s_slice (call := call) hd hs (fun h1 => by cases hi <;> simp_all) hop hx hl hh hm rf rh h
  | fieldAddr t x i =>
    rw [hop] at hc; simp only [cop, Option.bind_eq_bind, Option.bind_eq_some_iff] at hc
    obtain ⟨d, hd, hc⟩ := hc
    cases d <;> first | (cases hc; done) | skip
    simp only [Option.bind_eq_some_iff] at hc
    obtain ⟨fd, hfd, sz, hs, hc⟩ := hc
    split at hc <;> first | (cases hc; done) | skip
    rename_i h0
    simp only [Option.bind_eq_some_iff] at hc
    obtain ⟨cx, hx, hc⟩ := hc; cases hc
    exact good_q fun n n' => s_faddr (call := call) hd hfd hs h0 hop hx rf rh h
  | field t x i =>
    rw [hop] at hc; simp only [cop, Option.bind_eq_bind, Option.bind_eq_some_iff] at hc
    obtain ⟨d, hd, hc⟩ := hc
    cases d <;> first | (cases hc; done) | skip
    simp only [Option.bind_eq_some_iff] at hc
    obtain ⟨fd, hfd, ag, ha, sz, hs, cx, hx, hc⟩ := hc; cases hc
    exact good_q fun n n' => s_field (call := call) hd hfd ha hs hop hx rf rh h
  | indexAddr t x y =>
    rw [hop] at hc; simp only [cop, Option.bind_eq_bind, Option.bind_eq_some_iff] at hc
    obtain ⟨d, hd, hc⟩ := hc
    cases d <;> first | (cases hc; done) | skip
    simp only [Option.bind_eq_some_iff] at hc
    obtain ⟨sz, hs, cx, hx, cy, hy, hc⟩ := hc; cases hc
    exact good_q fun n n' => s_iaddr (call := call) hd hs hop hx hy rf rh h
  | index t x y =>
    rw [hop] at hc; simp only [cop, Option.bind_eq_bind, Option.bind_eq_some_iff] at hc
    obtain ⟨d, hd, hc⟩ := hc
    cases d <;> first | (cases hc; done) | skip
    · simp only [Option.bind_eq_some_iff] at hc
      obtain ⟨cx, hx, cy, hy, hc⟩ := hc; cases hc
      exact good_q fun n n' => s_sidx (call := call) hd hop hx hy rf rh h
    · simp only [Option.bind_eq_some_iff] at hc
      obtain ⟨ag, ha, sz, hs, cx, hx, cy, hy, hc⟩ := hc; cases hc
      exact good_q fun n n' => s_aidx (call := call) hd ha hs hop hx hy rf rh h
  | lookup t x y ok =>
    rw [hop] at hc; simp only [cop, Option.bind_eq_bind, Option.bind_eq_some_iff] at hc
    obtain ⟨d, hd, hc⟩ := hc
    cases d <;> first | (cases hc; done) | skip
    simp only [Option.bind_eq_some_iff] at hc
    obtain ⟨i, hi, zv, hz, v, hv, d2, hd2, hc⟩ := hc
    cases d2 <;> first | (cases hc; done) | skip
    all_goals
      simp only [Option.bind_eq_some_iff] at hc
      obtain ⟨cx, hx, cy, hy, hc⟩ := hc; cases hc
    · exact good_q fun n n' => s_lookup (call := call) hd hd2 (.inr ⟨rfl, _, rfl⟩) hi hz hv hop hx hy rf rh h
    · exact good_q fun n n' => s_lookup (call := call) hd hd2 (.inl ⟨rfl, rfl⟩) hi hz hv hop hx hy rf rh h
  | mapUpdate t x y z =>
    rw [hop] at hc; simp only [cop, Option.bind_eq_bind, Option.bind_eq_some_iff] at hc
    obtain ⟨d, hd, hc⟩ := hc
    cases d <;> first | (cases hc; done) | skip
    simp only [Option.bind_eq_some_iff] at hc
    obtain ⟨d2, hd2, hc⟩ := hc
    cases d2 <;> first | (cases hc; done) | skip
    all_goals
      simp only [Option.bind_eq_some_iff] at hc
      obtain ⟨cx, hx, cy, hy, cz, hz, hc⟩ := hc; cases hc
      intro rel hsc
    · have hh := s_mupd (call := call) (n := s.n.val) (n' := s'.n.val) hd hd2 (.inr ⟨rfl, _, rfl⟩) hop hx hy hz rf rh h
      exact .of rel (by rw [hh.1]; exact Nat.le_refl _) hh.2
    · have hh := s_mupd (call := call) (n := s.n.val) (n' := s'.n.val) hd hd2 (.inl ⟨rfl, rfl⟩) hop hx hy hz rf rh h
      exact .of rel (by rw [hh.1]; exact Nat.le_refl _) hh.2
  | extract x i =>
    rw [hop] at hc; simp only [cop, Option.bind_eq_bind, Option.bind_eq_some_iff] at hc
    obtain ⟨cx, hx, hc⟩ := hc; cases hc
    exact good_q fun n n' => s_ext (call := call) hop hx rf rh h
  | call cl => rw [hop] at hc; exact exop_good_call hop hc rf rh h
  | _ => rw [hop] at hc; cases hc
end
end Go.Vm
