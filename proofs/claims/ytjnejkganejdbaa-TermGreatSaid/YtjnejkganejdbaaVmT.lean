/- The abstract machine is sound: statements in the text's order, code, calls; the statements whose order is open left to a condition. -/
import Derived.Scope
import Derived.Test.YtjnejkganejdbaaVmS
import Derived.LoopN
import Derived.Tactics
namespace Go.Vm
set_option linter.unusedVariables false
variable {P : Program}
/-! ### Frames -/
theorem put_tmps (a : Act) (d : Tmp) (v : Value) : (a.put (some d) v) = { a with tmps := a.tmps.setIfInBounds d v } := rfl
theorem Sl.ofNat_inj {t d : Nat} (ht : t < 256) (hd : d < 256) : (Sl.ofNat t = Sl.ofNat d) ↔ t = d :=
  ⟨fun h => by have := congrArg Sl.val h; rwa [Sl.val_ofNat ht, Sl.val_ofNat hd] at this, fun h => by rw [h]⟩
/-- Where a result goes. -/
def DstOk (nt : Nat) (dst : Option Tmp) (cd : CD) : Prop := (dst = none ∧ cd = .none) ∨ ∃ d, dst = some d ∧ cd = .d (.ofNat d) ∧ d < nt ∧ d < 256
theorem copD_ok {nt : Nat} {dst : Option Tmp} {cd : CD} (h : copD nt dst = some cd) : DstOk nt dst cd := by
  cases dst with
  | none => cases h; exact .inl ⟨rfl, rfl⟩
  | some d =>
    simp only [copD] at h
    split at h <;> first | (cases h; done) | skip
    rename_i hd
    cases h
    exact .inr ⟨d, rfl, rfl, hd.1, hd.2⟩
theorem RF.put {E : Env} {w : World} {nt : Nat} {f : Fr AV} {a : Act} (rf : RF E w nt f a) {dst : Option Tmp} {cd : CD} (hd : DstOk nt dst cd) {r : AV} {v : Value} (hv : RV E w r v) : RF E w nt (putD cd r f) (a.put dst v) := by
  rcases hd with ⟨rfl, rfl⟩ | ⟨d, rfl, rfl, h1, h2⟩
  · exact rf
  · refine ⟨fun t ht => ?_, by simp [put_tmps, rf.size], rf.defers⟩
    show RV E w ((Sl.ofNat t).get ((Sl.ofNat d).set r f)) _
    rw [Sl.get_set, put_tmps]
    by_cases htd : t = d
    · subst htd
      rw [if_pos rfl]
      have : (a.tmps.setIfInBounds t v).getD t Go.undef = v := by simp [Array.getD, rf.size, h1]
      rw [this]; exact hv
    · rw [if_neg (fun h => htd ((Sl.ofNat_inj ht h2).mp h))]
      have : (a.tmps.setIfInBounds d v).getD t Go.undef = a.tmps.getD t Go.undef := by
        simp [Array.getD_eq_getD_getElem?, Ne.symm htd]
      rw [this]; exact rf.slot t ht
theorem wanted_eq {ops : Array Oper} {o : Oper} {g : CG} (h : copG ops o.guard = some g) {E : Env} {w : World} {nt : Nat} {f : Fr AV} {a : Act} (rf : RF E w nt f a) : Region.wanted o (yielded ops a.tmps) = wanted g f := by
  cases hg : o.guard with
  | none => rw [hg] at h; cases h; simp [Region.wanted, hg, wanted]
  | some p =>
    obtain ⟨j, b⟩ := p
    rw [hg] at h
    simp only [copG, Option.bind_eq_bind, Option.bind_eq_some_iff] at h
    obtain ⟨q, hq, d, hd, h⟩ := h
    split at h <;> first | (cases h; done) | skip
    rename_i hlt
    cases h
    have hs := rf.slot d hlt
    show Region.wanted o _ = ((Sl.ofNat d).get f).onBool false fun c => br b c (br c false true)
    simp only [Region.wanted, hg, yielded, hq, hd, Option.bind_some]
    cases hv : a.tmps[d]? with
    | none =>
      have hu : a.tmps.getD d Go.undef = Go.undef := by simp [Array.getD_eq_getD_getElem?, hv]
      rw [hu] at hs
      generalize (Sl.ofNat d).get f = c at hs
      cases c <;> first | rfl | (have := rv_bool hs; cases this)
    | some v =>
      have hu : a.tmps.getD d Go.undef = v := by simp [Array.getD_eq_getD_getElem?, hv]
      rw [hu] at hs
      generalize (Sl.ofNat d).get f = c at hs
      cases c with
      | bool c =>
        obtain rfl := rv_bool hs
        cases b <;> cases c <;> rfl
      | _ => cases hs <;> rfl

/-! ### What code comes to -/
theorem Went.refl {s : St} {E : Env} {w : World} (h : Rel s E w) : Went s E w s E w := ⟨h, Nat.le_refl _, .refl⟩
theorem Went.trans {s s1 s2 : St} {E E1 E2 : Env} {w w1 w2 : World} (h : Went s E w s1 E1 w1) (k : Went s1 E1 w1 s2 E2 w2) : Went s E w s2 E2 w2 :=
  ⟨k.rel, Nat.le_trans h.le k.le, h.ext.trans k.ext h.le k.le⟩
theorem Went.toLe {s s' : St} {E E' : Env} {w w' : World} (h : Went s E w s' E' w') (hr : Rel s E w) : Le E w E' w' := h.ext.le hr.h
def CodePost (nt : Nat) (s : St) (E : Env) (w : World) (rc : RC) : Exit → Act → World → Prop
  | .normal, a', w' => ∃ f' s' E', rc = .nor f' s' ∧ RF E' w' nt f' a' ∧ Went s E w s' E' w'
  | .exit i, a', w' => ∃ f' s' E', rc = .exit i f' s' ∧ RF E' w' nt f' a' ∧ Went s E w s' E' w'
  | .ret, a', w' => ∃ f' s' E', rc = .ret f' s' ∧ RF E' w' nt f' a' ∧ Went s E w s' E' w'
  | _, _, _ => False
theorem CodePost.trans {nt : Nat} {s s1 : St} {E E1 : Env} {w w1 : World} (h : Went s E w s1 E1 w1) {rc : RC} {e : Exit} {a' : Act} {w' : World} (k : CodePost nt s1 E1 w1 rc e a' w') : CodePost nt s E w rc e a' w' := by
  cases e with
  | normal => obtain ⟨f', s', E', h1, h2, h3⟩ := k; exact ⟨f', s', E', h1, h2, h.trans h3⟩
  | exit i => obtain ⟨f', s', E', h1, h2, h3⟩ := k; exact ⟨f', s', E', h1, h2, h.trans h3⟩
  | ret => obtain ⟨f', s', E', h1, h2, h3⟩ := k; exact ⟨f', s', E', h1, h2, h.trans h3⟩
  | _ => exact k
/-- Code, in whatever fits. -/
def CodeGood (P : Program) (nt : Nat) (c : Code) (ex : Fr AV → St → RC) : Prop :=
  ∀ f s a E w, RF E w nt f a → Rel s E w → ex f s ≠ .no → c.wp P (CodePost nt s E w (ex f s)) a w
/-- A statement in the text's order. -/
theorem ops_good {call : CallT} (hsc : SoundCall P call) {nt : Nat} {ops : Array Oper} {l : List Oper} {cl : List CR} (hl : l.mapM (copR P nt ops) = some cl) (f : Fr AV) (s0 s : St) (a : Act) (E0 E : Env) (w0 w : World)
    (hw : Went s0 E0 w0 s E w) (rf : RF E w nt f a) (hne : exops call cl f s ≠ .no) : wpList P ops (CodePost nt s0 E0 w0 (exops call cl f s)) l a w := by
  induction l generalizing cl f s a E w with
  | nil =>
    simp at hl; subst hl
    exact ⟨f, s, E, rfl, rf, hw⟩
  | cons o l ih =>
    simp only [List.mapM_cons, Option.bind_eq_bind, Option.bind_eq_some_iff, Option.pure_def, Option.some.injEq] at hl
    obtain ⟨cr, hcr, cl, hcl, rfl⟩ := hl
    simp only [copR, Option.bind_eq_bind, Option.bind_eq_some_iff, Option.some.injEq] at hcr
    obtain ⟨cd, hcd, co, hco, cg, hcg, rfl⟩ := hcr
    have hdo := copD_ok hcd
    have hwe := wanted_eq hcg rf
    have e : exops call (.mk cd co cg :: cl) f s = br (wanted cg f) ((exop co call f s).on .no fun v s => exops call cl (putD cd v f) s) (exops call cl (putD cd undef f) s) := rfl
    rw [e] at hne ⊢
    cases hwt : wanted cg f with
    | false =>
      rw [hwt, br_false] at hne
      rw [br_false]
      unfold wpList
      rw [if_neg (by rw [hwe, hwt]; simp)]
      exact ih hcl _ s _ E w hw (rf.put hdo (RV.undef E w)) hne
    | true =>
      rw [hwt, br_true] at hne
      rw [br_true]
      cases hx : exop co call f s with
      | no => rw [hx] at hne; exact absurd rfl hne
      | ok v s' =>
        rw [hx] at hne
        have hout : OpOut P o a s E w v s' := by
          have hg := exop_good (call := call) hco rf hw.rel.h hx
          cases hk : co.kind with
          | quiet => rw [hk] at hg; obtain ⟨rfl, hg⟩ := hg; exact .of hw.rel (Nat.le_refl _) (hg _ _)
          | read => rw [hk] at hg; obtain ⟨rfl, hg⟩ := hg; exact .of hw.rel (Nat.le_refl _) (hg _ _)
          | alloc =>
            rw [hk] at hg
            obtain ⟨h1, h2⟩ := hg (hw.rel.n s.n (Nat.le_refl _))
            exact .of hw.rel (by omega) (by rw [h1]; exact h2)
          | «mut» => rw [hk] at hg; exact hg hw.rel hsc
        refine wpList_step (fun K hK => ?_)
        rw [if_pos (by rw [hwe, hwt])]
        refine hout.2 K _ (fun E' w' u h1 h2 h3 => hK _ _ ?_)
        have hw2 : Went s E w s' E' w' := ⟨h1, hout.1, h3⟩
        exact ih hcl _ s' _ E' w' (hw.trans hw2) ((rf.mono (hw2.toLe hw.rel)).put hdo h2) hne
theorem bad_no (call : CallT) (n : Nat) (f : Fr AV) (s : St) : excode call n badC f s = .no := rfl
/-- What is asked of statements whose order is open. -/
def DrawnOk (P : Program) (call : CallT) : Prop := ∀ (nt : Nat) (id : Nat) (ops : Array Oper) (cc' : CC), ccDrawn P nt ops = some cc' → ∃ l, cc' = .drawn l ∧ CodeGood P nt (.region id ops true) (exdrawn call l)
theorem code_good {call : CallT} (hsc : SoundCall P call) (hdr : DrawnOk P call) (n : Nat) {nt : Nat} : ∀ (c : Code) (c' : CC), cc P nt c = some c' → CodeGood P nt c (excode call n c')
  | .skip, c', h => by cases h; exact fun f s a E w rf rel hne => wp_skip ⟨f, s, E, rfl, rf, .refl rel⟩
  | .exit i, c', h => by cases h; exact fun f s a E w rf rel hne => wp_exit ⟨f, s, E, rfl, rf, .refl rel⟩
  | .ret, c', h => by cases h; exact fun f s a E w rf rel hne => wp_ret ⟨f, s, E, rfl, rf, .refl rel⟩
  | .region id ops true, c', h => by
    have h' := Option.some.inj h
    cases hq : ccDrawn P nt ops with
    | none => rw [hq] at h'; subst h'; exact fun f s a E w rf rel hne => absurd (bad_no call n f s) hne
    | some c2 =>
      rw [hq] at h'
      have h2 : c2 = c' := h'
      subst h2
      obtain ⟨l, rfl, hg⟩ := hdr nt id ops _ hq
      exact hg
  | .region id ops false, c', h => by
    have h' := Option.some.inj h
    cases hcl : ops.toList.mapM (copR P nt ops) with
    | none => rw [hcl] at h'; subst h'; exact fun f s a E w rf rel hne => absurd (bad_no call n f s) hne
    | some cl =>
    rw [hcl] at h'
    have h2 : CC.region cl = c' := h'
    subst h2
    exact fun f s a E w rf rel hne => wp_region_list (ops_good hsc hcl f s s a E E w w (.refl rel) rf hne)
  | .seq x y, c', h => by
    simp only [cc, Option.bind_eq_bind, Option.bind_eq_some_iff] at h
    obtain ⟨cx, hx, cy, hy, h⟩ := h; cases h
    have ix := code_good hsc hdr n x cx hx
    have iy := code_good hsc hdr n y cy hy
    intro f s a E w rf rel hne
    have e : excode call n (.seq cx cy) f s = seqK (excode call n cy) (excode call n cx f s) := rfl
    rw [e] at hne ⊢
    have hne1 : excode call n cx f s ≠ .no := fun h0 => by rw [h0] at hne; exact hne rfl
    refine wp_seq (Code.wp_mono ?_ (ix f s a E w rf rel hne1))
    intro e a' w' hp
    cases e with
    | normal =>
      obtain ⟨f', s', E', h1, h2, h3⟩ := hp
      rw [h1] at hne ⊢
      exact Code.wp_mono (fun _ _ _ hq => hq.trans h3) (iy f' s' a' E' w' h2 h3.rel hne)
    | exit i => obtain ⟨f', s', E', h1, h2, h3⟩ := hp; rw [h1]; exact ⟨f', s', E', rfl, h2, h3⟩
    | ret => obtain ⟨f', s', E', h1, h2, h3⟩ := hp; rw [h1]; exact ⟨f', s', E', rfl, h2, h3⟩
    | _ => exact hp
  | .cond c x y, c', h => by
    simp only [cc, Option.bind_eq_bind, Option.bind_eq_some_iff] at h
    obtain ⟨cx, hx, cy, hy, h⟩ := h
    have h' := Option.some.inj h
    cases hc1 : cod c with
    | none => rw [hc1] at h'; subst h'; exact fun f s a E w rf rel hne => absurd (bad_no call n f s) hne
    | some cc1 =>
    rw [hc1] at h'
    have h2 : CC.cond cc1 cx cy = c' := h'
    subst h2
    have ix := code_good hsc hdr n x cx hx
    have iy := code_good hsc hdr n y cy hy
    intro f s a E w rf rel hne
    have e : excode call n (.cond cc1 cx cy) f s = (ev1 f cc1).onBool .no fun t => br t (excode call n cx f s) (excode call n cy f s) := rfl
    rw [e] at hne ⊢
    have hv := cod_rv hc1 rf
    cases hcv : ev1 f cc1 with
    | bool t =>
      rw [hcv] at hv hne
      have hb := rv_bool hv
      cases t with
      | true => exact wp_cond_true hb (ix f s a E w rf rel hne)
      | false => exact wp_cond_false hb (iy f s a E w rf rel hne)
    | _ => rw [hcv] at hne; exact absurd rfl hne
  | .block id x, c', h => by
    simp only [cc, Option.map_eq_some_iff] at h
    obtain ⟨cx, hx, rfl⟩ := h
    have ix := code_good hsc hdr n x cx hx
    intro f s a E w rf rel hne
    have e : excode call n (.block id cx) f s = blockK id (excode call n cx f s) := rfl
    rw [e] at hne ⊢
    have hne1 : excode call n cx f s ≠ .no := fun h0 => by rw [h0] at hne; exact hne rfl
    refine wp_block (Code.wp_mono ?_ (ix f s a E w rf rel hne1))
    intro e a' w' hp
    cases e with
    | normal => obtain ⟨f', s', E', h1, h2, h3⟩ := hp; rw [h1]; exact ⟨f', s', E', rfl, h2, h3⟩
    | exit i =>
      obtain ⟨f', s', E', h1, h2, h3⟩ := hp
      rw [h1]
      show if i = id then _ else _
      by_cases hi : i = id
      · rw [if_pos hi]
        refine ⟨f', s', E', ?_, h2, h3⟩
        show br (Nat.beq i id) _ _ = _
        rw [hi, Nat.beq_refl]; rfl
      · rw [if_neg hi]
        refine ⟨f', s', E', ?_, h2, h3⟩
        show br (Nat.beq i id) _ _ = _
        have : Nat.beq i id = false := by
          cases hq : Nat.beq i id with
          | false => rfl
          | true => exact absurd (Nat.eq_of_beq_eq_true hq) hi
        rw [this]; rfl
    | ret => obtain ⟨f', s', E', h1, h2, h3⟩ := hp; rw [h1]; exact ⟨f', s', E', rfl, h2, h3⟩
    | _ => exact hp
  | .loop x, c', h => by
    simp only [cc, Option.map_eq_some_iff] at h
    obtain ⟨cx, hx, rfl⟩ := h
    have ix := code_good hsc hdr n x cx hx
    intro f s a E w rf rel hne
    have e : excode call n (.loop cx) f s = iter (excode call n cx) n f s := rfl
    rw [e] at hne ⊢
    refine wp_loop_rounds n ?_
    have key : ∀ (m : Nat) (f : Fr AV) (s1 : St) (a : Act) (E1 : Env) (w1 : World), RF E1 w1 nt f a → Went s E w s1 E1 w1 → iter (excode call n cx) m f s1 ≠ .no → ∀ rc, iter (excode call n cx) m f s1 = rc → Code.rounds P x (CodePost nt s E w rc) m a w1 := by
      intro m
      induction m with
      | zero => intro f s1 a E1 w1 _ _ hne; exact absurd rfl hne
      | succ m ih =>
        intro f s1 a E1 w1 rf hw hne rc hrc
        have e : iter (excode call n cx) (m + 1) f s1 = seqK (iter (excode call n cx) m) (excode call n cx f s1) := rfl
        rw [e] at hne hrc
        have hne1 : excode call n cx f s1 ≠ .no := fun h0 => by rw [h0] at hne; exact hne rfl
        rw [rounds_succ]
        refine Code.wp_mono ?_ (ix f s1 a E1 w1 rf hw.rel hne1)
        intro e a' w' hp
        cases e with
        | normal =>
          obtain ⟨f', s', E', h1, h2, h3⟩ := hp
          rw [h1] at hne hrc
          exact ih f' s' a' E' w' h2 (hw.trans h3) hne rc hrc
        | exit i => obtain ⟨f', s', E', h1, h2, h3⟩ := hp; rw [h1] at hrc; exact ⟨f', s', E', hrc.symm, h2, hw.trans h3⟩
        | ret => obtain ⟨f', s', E', h1, h2, h3⟩ := hp; rw [h1] at hrc; exact ⟨f', s', E', hrc.symm, h2, hw.trans h3⟩
        | _ => exact hp
    exact key n f s a E w rf (.refl rel) hne _ rfl
  | .scope x, c', h => by
    have ix := code_good hsc hdr n x c' h
    intro f s a E w rf rel hne
    refine wp_scope_straight (Code.wp_mono ?_ (ix f s a E w rf rel hne))
    intro e a' w' hp
    cases e with
    | normal => exact hp
    | exit i => exact hp
    | ret => exact hp
    | _ => exact hp.elim
  | .label _, c', h => by cases h; exact fun f s a E w rf rel hne => wp_label ⟨f, s, E, rfl, rf, .refl rel⟩
  | .goto _, c', h => by cases h; exact fun f s a E w rf rel hne => absurd (bad_no call n f s) hne
  | .rangeFunc _ _ _ _, c', h => by cases h; exact fun f s a E w rf rel hne => absurd (bad_no call n f s) hne
  | .refuse _, c', h => by cases h; exact fun f s a E w rf rel hne => absurd (bad_no call n f s) hne
end Go.Vm
