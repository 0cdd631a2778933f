/- The abstract machine: code that may come to several things, all told. No condition. -/
import Derived.Test.YtjnejkganejdbaaVmZN
namespace Go.Vm
set_option linter.unusedVariables false
variable {P : Program}
/-- Code, from a frame and a state: it comes to one of these. -/
def Runs (P : Program) (nt : Nat) (c : Code) (f : Fr AV) (s : St) (Z : RC → Prop) : Prop :=
  ∀ a E w, RF E w nt f a → Rel s E w → c.wp P (fun e a' w' => ∃ rc, Z rc ∧ CodePost nt s E w rc e a' w') a w
theorem Runs.mono {nt : Nat} {c : Code} {f : Fr AV} {s : St} {Z Z' : RC → Prop} (h : Runs P nt c f s Z) (hz : ∀ rc, Z rc → Z' rc) : Runs P nt c f s Z' :=
  fun a E w rf rel => Code.wp_mono (fun e a' w' ⟨rc, h1, h2⟩ => ⟨rc, hz rc h1, h2⟩) (h a E w rf rel)
theorem Runs.code {call : CallT} (hsc : SoundCall P call) (hdr : DrawnOk P call) (n : Nat) {nt : Nat} {c : Code} {c' : CC} (hc : cc P nt c = some c') {f : Fr AV} {s : St} (hne : excode call n c' f s ≠ .no) : Runs P nt c f s (· = excode call n c' f s) :=
  fun a E w rf rel => Code.wp_mono (fun e a' w' h => ⟨_, rfl, h⟩) (code_ok hsc hdr n hc rf rel hne)
theorem Runs.seq {nt : Nat} {x y : Code} {f : Fr AV} {s : St} {Z Z' : RC → Prop} (hx : Runs P nt x f s Z) (hy : ∀ f1 s1, Z (.nor f1 s1) → Runs P nt y f1 s1 Z') (hz : ∀ rc, Z rc → (∀ f1 s1, rc ≠ .nor f1 s1) → Z' rc) : Runs P nt (.seq x y) f s Z' := by
  intro a E w rf rel
  refine wp_seq (Code.wp_mono ?_ (hx a E w rf rel))
  intro e a' w' ⟨rc, h1, h2⟩
  cases e with
  | normal =>
    obtain ⟨f1, s1, E1, rfl, g2, g3⟩ := h2
    exact Code.wp_mono (fun e a2 w2 ⟨rc, q1, q2⟩ => ⟨rc, q1, q2.trans g3⟩) (hy f1 s1 h1 a' E1 w' g2 g3.rel)
  | exit i =>
    obtain ⟨f1, s1, E1, rfl, g2, g3⟩ := h2
    exact ⟨_, hz _ h1 (fun _ _ h => by cases h), f1, s1, E1, rfl, g2, g3⟩
  | ret =>
    obtain ⟨f1, s1, E1, rfl, g2, g3⟩ := h2
    exact ⟨_, hz _ h1 (fun _ _ h => by cases h), f1, s1, E1, rfl, g2, g3⟩
  | _ => exact h2.elim
/-- What a loop over a map starts from. -/
structure Ranged (P : Program) (nt : Nat) (id4 : Nat) (ops4 : Array Oper) (cd0 cd1 : CD) (co0 : COp) (x : Tmp) : Prop where
  shape : ∃ o0 o1 t kt et, ops4.toList = [o0, o1] ∧ copR P nt ops4 o0 = some (.mk cd0 co0 .none) ∧ x < 256 ∧ o1.op = .range t (.tmp x) ∧ P.underlying t = some (.map kt et) ∧ o1.guard = none ∧ copD nt o1.dst = some cd1
theorem Runs.range {nt : Nat} (T : Turning P nt) {call : CallT} (hsc : SoundCall P call) (hdr : DrawnOk P call) (n : Nat) {id4 : Nat} {ops4 : Array Oper} {cd0 cd1 : CD} {co0 : COp} {x : Tmp} (hR : Ranged P nt id4 ops4 cd0 cd1 co0 x)
    {f : Fr AV} {s s1 s2 : St} {v : AV} {mb : Id} {es : List (AV × AV)} (hx0 : exop co0 call f s = .ok v s1) (hv : (Sl.ofNat x).get (putD cd0 v f) = .map mb) (hes : s1.obj mb = .map es)
    (hs2 : s2.n.val = s1.n.val + 1) (ho2 : ∀ b, s2.obj b = if b = mb then .dead else s1.obj b)
    (hne : ∀ p, p.Perm es → T.turns call n s1.n p (putD cd1 (.ptr s1.n 0) (putD cd0 v f)) s2 ≠ .no) :
    Runs P nt (Code.seq (.region id4 ops4 false) (.block T.id0 (.loop T.code))) f s (fun rc => ∃ p, p.Perm es ∧ rc = T.turns call n s1.n p (putD cd1 (.ptr s1.n 0) (putD cd0 v f)) s2) := by
  intro a E w rf rel
  obtain ⟨o0, o1, t, kt, et, h4, hc0, hx256, hop1, ht, hg1, hd1⟩ := hR.shape
  exact ranged_good T hsc hdr n h4 hc0 hx256 hop1 ht hg1 hd1 rf rel hx0 hv hes hs2 ho2 _ hne (fun p f' s' E' a' w' h1 h2 h3 h4 => ⟨_, ⟨p, h1, rfl⟩, f', s', E', h2, h3, h4⟩)
/-- A call that comes to one of several things. -/
theorem fn_runs {g : Nat} {fn : Func} {b : Code} {rs : List Res} (hf : P.funcs[g]? = some fn) (hb : fn.body = some b) (hrs : fn.results.toList.mapM (copRes P) = some rs) (hnt : fn.ntmps ≤ 256) {args : List AV} (hle : args.length ≤ fn.ntmps) {s : St} {Z : RC → Prop} {W : AV → St → Prop}
    (hrun : Runs P fn.ntmps b (frame0 args) s Z) (hW : ∀ rc, Z rc → ∃ r s', fin rs rc = .ok r s' ∧ W r s') {E : Env} {w : World} {vals : List Value} (rel : Rel s E w) (hrl : RL E w args vals) :
    Calls P g vals.toArray w fun e w' => ∃ r s' E' v, W r s' ∧ e = .returned v ∧ RV E' w' r v ∧ Went s E w s' E' w' := by
  refine calls_of_wp hf hb (Code.wp_mono ?_ (hrun _ E w (frame0_rf hrl hle hnt) rel))
  intro e a' w' ⟨rc, hz, hp⟩
  obtain ⟨r, s', hfin, hw⟩ := hW rc hz
  have fin' : ∀ f1 s1 (E' : Env), ress f1 s1 rs (fun l => .ok (pack l) s1) = .ok r s' → RF E' w' fn.ntmps f1 a' → Went s E w s1 E' w' → a'.defers = [] ∧ ∃ v, (results fn a'.tmps).run P w' = .ok v w' ∧ ∃ r s' E' u, W r s' ∧ Ending.returned v = .returned u ∧ RV E' w' r u ∧ Went s E w s' E' w' := by
    intro f1 s1 E' hres rf hw1
    obtain ⟨us, cs, g1, g2, g3⟩ := ress_ok rf hw1.rel.h hrs hres
    obtain ⟨rfl, rfl⟩ := ok_inj g3
    exact ⟨rf.defers, _, run_results g1, _, _, E', _, hw, rfl, pack_rv g2, hw1⟩
  cases e with
  | normal => obtain ⟨f', s2, E', rfl, h2, h3⟩ := hp; exact fin' f' s2 E' hfin h2 h3
  | ret => obtain ⟨f', s2, E', rfl, h2, h3⟩ := hp; exact fin' f' s2 E' hfin h2 h3
  | exit i => obtain ⟨f', s2, E', rfl, h2, h3⟩ := hp; exact R.noConfusion hfin
  | _ => exact hp.elim
/-- What is told of a call from nothing: it comes to values that look so. -/
def Seen (P : Program) (g : Nat) (args : List AV) (ret : AV) : Prop :=
  ∀ F w vals, Rel St.empty F w → RL F w args vals → Calls P g vals.toArray w fun e w' => ∃ r s' E' v, mt s' true ret r = true ∧ e = .returned v ∧ RV E' w' r v ∧ Went .empty F w s' E' w'
/-- Calls that are told: what the arguments look as, and what is seen of the answer. -/
theorem seen_sound {pk : Id → List AV → St → Option (List AV × AV)} {call : CallT} (hc : SoundCall P call)
    (h : ∀ g args s en, pk g args s = some en → mt.mts s false en.1 args = true ∧ (∃ fn, P.funcs[g.val]? = some fn ∧ fn.body.isNone = false ∧ fn.name ≠ "runtime.NumGoroutine") ∧ Seen P g.val en.1 en.2) : SoundCall P (picks pk call) := by
  intro g args s r s' hr
  cases hT : pk g args s with
  | none =>
    have e : picks pk call g args s = call g args s := by unfold picks; rw [hT]
    rw [e] at hr
    exact hc g args s r s' hr
  | some en =>
    have e : picks pk call g args s = .ok en.2 s := by unfold picks; rw [hT]
    rw [e] at hr
    obtain ⟨rfl, rfl⟩ := ok_inj hr
    obtain ⟨hm, hfn, hseen⟩ := h g args s en hT
    refine ⟨hfn, fun E w vals rel hrl => ?_⟩
    have hdead : ∀ b, St.empty.obj b = .dead := empty_obj
    let F : Env := ⟨E.φ, fun k => E.I k ∨ ∃ b, s.obj b ≠ .dead ∧ (E.φ b).block = k, fun _ => False⟩
    have hF : RL F w en.1 vals := (mt_rv (F := F) (own := false) rel.h (fun b hb => .inr ⟨b, hb, rfl⟩) (fun _ k hk => .inl hk) (SizeOf.sizeOf en.1)).2.2 _ _ (Nat.le_refl _) hm vals hrl
    have hRF : Rel St.empty F w := ⟨fun b _ h => h, ⟨(fun b cs h => by rw [hdead] at h; cases h), (fun b es h => by rw [hdead] at h; cases h), fun b h => absurd (hdead b) h, fun b c h => absurd (hdead b) h, fun b h => absurd (hdead b) h,
      fun k hk => hk.elim (rel.h.seen k) (fun ⟨b, hb, e⟩ => by rw [← e]; exact rel.h.block_lt hb)⟩⟩
    refine Calls.mono (hseen F w vals hRF hF) ?_
    rintro e w' ⟨r0, s1, E1, v, h2, rfl, k1, k2⟩
    have hold : ∀ k, k < w.heap.size → w'.heap[k]? = w.heap[k]? := fun k hk => k2.ext.keep k hk (fun b hb => absurd (hdead b) hb)
    have hnew : ∀ b, s1.obj b ≠ .dead → w.heap.size ≤ (E1.φ b).block ∧ (E1.φ b).block < w'.heap.size := fun b hb => by
      refine ⟨?_, k2.rel.h.block_lt hb⟩
      rcases k2.ext.new b hb with ⟨c, hc, _⟩ | hge
      · exact absurd (hdead c) hc
      · exact hge
    let G : Env := ⟨E.φ, fun k => E.I k ∨ ∃ b, s1.obj b ≠ .dead ∧ (E1.φ b).block = k, E.D⟩
    have hle : Le E w G w' := ⟨fun _ h => h, fun _ _ => rfl, fun _ h => .inl h, fun k hk => hold k (rel.h.seen k hk), .of_old hold⟩
    have hv : RV G w' en.2 v := (mt_rv (F := G) (own := true) k2.rel.h (fun b hb => .inr ⟨b, hb, rfl⟩) (fun h => by cases h) (SizeOf.sizeOf en.2)).1 _ _ (Nat.le_refl _) h2 v k1
    refine ⟨G, v, rfl, hv, ⟨⟨rel.n, rel_keep rel.h hle hold k2.ext.size (fun k hk => hk.elim .inl (fun ⟨b, hb, e⟩ => .inr (by rw [← e]; exact hnew b hb)))⟩, Nat.le_refl _, ?_⟩⟩
    exact ⟨fun _ h => h, fun _ _ => rfl, fun _ h => .inl h, fun _ h => .inl h, fun k hk => hk.elim .inl (fun ⟨b, hb, e⟩ => .inr (.inl (by rw [← e]; exact (hnew b hb).1))), k2.ext.os, k2.ext.tape, k2.ext.output, k2.ext.size, fun k hk _ => hold k hk, .of_old hold, fun b hb => .inl ⟨b, hb, rfl⟩⟩
end Go.Vm
