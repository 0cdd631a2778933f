/- The abstract machine: functions that go over a map once; their answer, whatever the order. No condition. -/
import Derived.Test.YtjnejkganejdbaaVmZO
namespace Go.Vm
set_option linter.unusedVariables false
variable {P : Program}
/-! ### Orders -/
section
variable {α : Type}
noncomputable def inserts (a : α) (l : List α) : List (List α) := List.rec [[a]] (fun b r ih => (a :: b :: r) :: List.rec [] (fun x _ ih2 => (b :: x) :: ih2) ih) l
noncomputable def joins (f : List α → List (List α)) (l : List (List α)) : List (List α) := List.rec [] (fun p _ ih => apd (f p) ih) l
noncomputable def perms (l : List α) : List (List α) := List.rec [[]] (fun a _ ih => joins (inserts a) ih) l
theorem inserts_cons (a b : α) (r : List α) : inserts a (b :: r) = (a :: b :: r) :: (inserts a r).map (b :: ·) := by
  show (a :: b :: r) :: List.rec [] (fun x _ ih2 => (b :: x) :: ih2) (inserts a r) = _
  congr 1
  induction inserts a r with
  | nil => rfl
  | cons x l ih => show (b :: x) :: _ = _; rw [ih]; rfl
theorem perms_cons (a : α) (l : List α) : perms (a :: l) = (perms l).flatMap (inserts a) := by
  show joins (inserts a) (perms l) = _
  induction perms l with
  | nil => rfl
  | cons p q ih => show apd (inserts a p) (joins (inserts a) q) = _; rw [apd_eq, ih]; simp
theorem mem_inserts (a : α) (x y : List α) : x ++ a :: y ∈ inserts a (x ++ y) := by
  induction x with
  | nil =>
    cases y with
    | nil => exact List.mem_singleton.mpr rfl
    | cons b r => simp only [List.nil_append]; rw [inserts_cons]; exact List.mem_cons_self
  | cons b x ih =>
    simp only [List.cons_append]
    rw [inserts_cons]
    exact List.mem_cons_of_mem _ (List.mem_map.mpr ⟨_, ih, rfl⟩)
theorem mem_perms {p l : List α} (h : p.Perm l) : p ∈ perms l := by
  induction l generalizing p with
  | nil => rw [List.perm_nil.mp h]; exact List.mem_singleton.mpr rfl
  | cons a l ih =>
    have ha : a ∈ p := h.mem_iff.mpr List.mem_cons_self
    obtain ⟨x, y, rfl⟩ := List.append_of_mem ha
    have h2 : (x ++ y).Perm l := (List.perm_cons a).mp (List.perm_middle.symm.trans h)
    rw [perms_cons]
    exact List.mem_flatMap.mpr ⟨x ++ y, ih h2, mem_inserts a x y⟩
end
/-! ### Pieces of code -/
def chainCode (l : List Code) (y : Code) : Code := l.foldr .seq y
noncomputable def excodes (call : CallT) (n : Nat) (l : List CC) : Fr AV → St → RC := List.rec (fun f s => .nor f s) (fun c _ ih f s => seqK ih (excode call n c f s)) l
theorem Runs.chain {call : CallT} (hsc : SoundCall P call) (hdr : DrawnOk P call) (n : Nat) {nt : Nat} {l : List Code} {cl : List CC} (hl : l.mapM (cc P nt) = some cl) {y : Code} {f f1 : Fr AV} {s s1 : St} {Z : RC → Prop} (he : excodes call n cl f s = .nor f1 s1)
    (hy : Runs P nt y f1 s1 Z) : Runs P nt (chainCode l y) f s Z := by
  induction l generalizing cl f s with
  | nil =>
    simp at hl; subst hl
    cases he; exact hy
  | cons c l ih =>
    simp only [List.mapM_cons, Option.bind_eq_bind, Option.bind_eq_some_iff, Option.pure_def, Option.some.injEq] at hl
    obtain ⟨c', hc, cl, hcl, rfl⟩ := hl
    have he' : seqK (excodes call n cl) (excode call n c' f s) = .nor f1 s1 := he
    have hne : excode call n c' f s ≠ .no := fun h0 => by rw [h0] at he'; cases he'
    refine Runs.seq (Runs.code hsc hdr n hc hne) (fun f2 s2 h2 => ?_) (fun rc hrc hn => ?_)
    · rw [← h2] at he'; exact ih hcl he'
    · exfalso
      rw [← hrc] at he'
      cases rc with
      | nor f2 s2 => exact hn f2 s2 rfl
      | no => cases he'
      | exit i f2 s2 => cases he'
      | ret f2 s2 => cases he'
/-- A function that goes over a map once. -/
structure MapFn (P : Program) (g : Nat) where
  fn : Func
  b : Code
  rs : List Res
  hf : P.funcs[g]? = some fn
  hb : fn.body = some b
  hname : fn.name ≠ "runtime.NumGoroutine"
  hrs : fn.results.toList.mapM (copRes P) = some rs
  hnt : fn.ntmps ≤ 256
  T : Turning P fn.ntmps
  pre : List Code
  cpre : List CC
  hpre : pre.mapM (cc P fn.ntmps) = some cpre
  post : Code
  cpost : CC
  hpost : cc P fn.ntmps post = some cpost
  id4 : Nat
  ops4 : Array Oper
  cd0 : CD
  cd1 : CD
  co0 : COp
  x : Tmp
  hR : Ranged P fn.ntmps id4 ops4 cd0 cd1 co0 x
  hbody : b = chainCode pre (.seq (.seq (.region id4 ops4 false) (.block T.id0 (.loop T.code))) post)
section
variable {g : Nat} (M : MapFn P g) (call : CallT) (n : Nat)
/-- Its answer, the entries in an order. -/
noncomputable def MapFn.by (ib : Id) (f2 : Fr AV) (s2 : St) (p : List (AV × AV)) : R := fin M.rs (seqK (excode call n M.cpost) (M.T.turns call n ib p f2 s2))
/-- .. alike in each order. -/
noncomputable def MapFn.alike (ib : Id) (f2 : Fr AV) (s2 : St) (r : AV) (ps : List (List (AV × AV))) : Bool :=
  List.rec true (fun p _ ih => br ((M.by call n ib f2 s2 p).on false fun v s => mt s true r v) ih false) ps
theorem MapFn.alike_ok {ib : Id} {f2 : Fr AV} {s2 : St} {r : AV} {ps : List (List (AV × AV))} (h : M.alike call n ib f2 s2 r ps = true) {p : List (AV × AV)} (hp : p ∈ ps) : ∃ v s, M.by call n ib f2 s2 p = .ok v s ∧ mt s true r v = true := by
  induction ps with
  | nil => simp at hp
  | cons q ps ih =>
    have h' : br ((M.by call n ib f2 s2 q).on false fun v s => mt s true r v) (M.alike call n ib f2 s2 r ps) false = true := h
    cases hq : ((M.by call n ib f2 s2 q).on false fun v s => mt s true r v) with
    | false => rw [hq] at h'; cases h'
    | true =>
      rw [hq, br_true] at h'
      rcases List.mem_cons.mp hp with rfl | hp
      · cases hb : M.by call n ib f2 s2 p with
        | no => rw [hb] at hq; cases hq
        | ok v s => rw [hb] at hq; exact ⟨v, s, rfl, hq⟩
      · exact ih h' hp
noncomputable def MapFn.ret2 (ib : Id) (f2 : Fr AV) (s2 : St) (es : List (AV × AV)) : Option AV :=
  (M.by call n ib f2 s2 es).on none fun v s => Option.rec none (fun r => br (M.alike call n ib f2 s2 r (perms es)) (some r) none) (vw s true 64 v)
noncomputable def MapFn.ret1 (f : Fr AV) (s : St) : Option AV :=
  (exop M.co0 call f s).on none fun v s1 => ((Sl.ofNat M.x).get (putD M.cd0 v f)).onMap none none fun mb => (s1.obj mb).onMap none fun es =>
    s1.n.up none fun n' => M.ret2 call n s1.n (putD M.cd1 (.ptr s1.n 0) (putD M.cd0 v f)) (.mk (mb.set .dead s1.h) n') es
noncomputable def MapFn.ret (args : List AV) : Option AV :=
  br (Nat.ble (ln args) M.fn.ntmps) ((excodes call n M.cpre (frame0 args) .empty).on none (fun f s => M.ret1 call n f s) (fun _ _ _ => none) fun _ _ => none) none
theorem MapFn.seen (hsc : SoundCall P call) (hdr : DrawnOk P call) {args : List AV} {r : AV} (h : M.ret call n args = some r) : Seen P g args r := by
  unfold MapFn.ret at h
  cases hle : Nat.ble (ln args) M.fn.ntmps with
  | false => rw [hle] at h; cases h
  | true =>
    rw [hle, br_true] at h
    have hle' : args.length ≤ M.fn.ntmps := by have := Nat.le_of_ble_eq_true hle; rwa [ln_eq] at this
    cases hpre : excodes call n M.cpre (frame0 args) .empty with
    | no => rw [hpre] at h; cases h
    | exit i f s => rw [hpre] at h; cases h
    | ret f s => rw [hpre] at h; cases h
    | nor f s =>
      rw [hpre] at h
      have h1 : M.ret1 call n f s = some r := h
      unfold MapFn.ret1 at h1
      cases hx : exop M.co0 call f s with
      | no => rw [hx] at h1; cases h1
      | ok v s1 =>
        rw [hx] at h1
        have h2 : (((Sl.ofNat M.x).get (putD M.cd0 v f)).onMap none none fun mb => (s1.obj mb).onMap none fun es => s1.n.up none fun n' => M.ret2 call n s1.n (putD M.cd1 (.ptr s1.n 0) (putD M.cd0 v f)) (.mk (mb.set .dead s1.h) n') es) = some r := h1
        cases hm : (Sl.ofNat M.x).get (putD M.cd0 v f) <;> rw [hm] at h2 <;> first | (cases h2; done) | skip
        rename_i mb
        have h3 : ((s1.obj mb).onMap none fun es => s1.n.up none fun n' => M.ret2 call n s1.n (putD M.cd1 (.ptr s1.n 0) (putD M.cd0 v f)) (.mk (mb.set .dead s1.h) n') es) = some r := h2
        cases hes : s1.obj mb <;> rw [hes] at h3 <;> first | (cases h3; done) | skip
        rename_i es
        have h4 : (s1.n.up none fun n' => M.ret2 call n s1.n (putD M.cd1 (.ptr s1.n 0) (putD M.cd0 v f)) (.mk (mb.set .dead s1.h) n') es) = some r := h3
        rcases Id.up_spec s1.n (none : Option AV) (fun n' => M.ret2 call n s1.n (putD M.cd1 (.ptr s1.n 0) (putD M.cd0 v f)) (.mk (mb.set .dead s1.h) n') es) with hu | ⟨n', hn', hu⟩
        · rw [hu] at h4; cases h4
        · rw [hu] at h4
          have hal : M.alike call n s1.n (putD M.cd1 (.ptr s1.n 0) (putD M.cd0 v f)) (.mk (mb.set .dead s1.h) n') r (perms es) = true := by
            unfold MapFn.ret2 at h4
            cases hb : M.by call n s1.n (putD M.cd1 (.ptr s1.n 0) (putD M.cd0 v f)) (.mk (mb.set .dead s1.h) n') es with
            | no => rw [hb] at h4; cases h4
            | ok v' s' =>
              rw [hb] at h4
              have h5 : (Option.rec none (fun r => br (M.alike call n s1.n (putD M.cd1 (.ptr s1.n 0) (putD M.cd0 v f)) (.mk (mb.set .dead s1.h) n') r (perms es)) (some r) none) (vw s' true 64 v') : Option AV) = some r := h4
              cases hv : vw s' true 64 v' with
              | none => rw [hv] at h5; cases h5
              | some r' =>
                rw [hv] at h5
                have h6 : br (M.alike call n s1.n (putD M.cd1 (.ptr s1.n 0) (putD M.cd0 v f)) (.mk (mb.set .dead s1.h) n') r' (perms es)) (some r') none = some r := h5
                cases ha : M.alike call n s1.n (putD M.cd1 (.ptr s1.n 0) (putD M.cd0 v f)) (.mk (mb.set .dead s1.h) n') r' (perms es) with
                | false => rw [ha] at h6; cases h6
                | true => rw [ha, br_true] at h6; cases h6; exact ha
          have hby := fun (p : List (AV × AV)) (hp : p.Perm es) => M.alike_ok call n hal (mem_perms hp)
          intro F w vals rel hrl
          refine Calls.mono (fn_runs (Z := fun rc => ∃ p, p.Perm es ∧ rc = seqK (excode call n M.cpost) (M.T.turns call n s1.n p (putD M.cd1 (.ptr s1.n 0) (putD M.cd0 v f)) (.mk (mb.set .dead s1.h) n'))) (W := fun r0 s' => mt s' true r r0 = true) M.hf M.hb M.hrs M.hnt hle' ?_ (fun rc ⟨p, hp, e⟩ => ?_) rel hrl) (fun e w' ⟨r0, s', E', u, q1, q2, q3, q4⟩ => ⟨r0, s', E', u, q1, q2, q3, q4⟩)
          · rw [M.hbody]
            refine Runs.chain hsc hdr n M.hpre hpre ?_
            refine Runs.seq (Runs.range M.T hsc hdr n M.hR hx hm hes (s2 := .mk (mb.set .dead s1.h) n') hn' (fun b => Id.get_set b mb AO.dead s1.h) (fun p hp h0 => ?_)) (fun f3 s3 ⟨p, hp, e⟩ => ?_) (fun rc ⟨p, hp, e⟩ hn => ?_)
            · obtain ⟨v1, s3, h5, _⟩ := hby p hp
              unfold MapFn.by at h5
              rw [h0] at h5; cases h5
            · have hne : excode call n M.cpost f3 s3 ≠ .no := by
                obtain ⟨v1, s4, h5, _⟩ := hby p hp
                unfold MapFn.by at h5
                rw [← e] at h5
                intro h0
                have h6 : fin M.rs (excode call n M.cpost f3 s3) = .ok v1 s4 := h5
                rw [h0] at h6; cases h6
              refine (Runs.code hsc hdr n M.hpost hne).mono (fun rc hrc => ⟨p, hp, ?_⟩)
              rw [hrc, ← e]; rfl
            · refine ⟨p, hp, ?_⟩
              rw [← e]
              cases rc with
              | nor f3 s3 => exact absurd rfl (hn f3 s3)
              | _ => rfl
          · obtain ⟨v1, s3, h5, h6⟩ := hby p hp
            exact ⟨v1, s3, by rw [e]; exact h5, h6⟩
/-- The calls of it. -/
noncomputable def MapFn.pick (gid : Id) : Id → List AV → St → Option (List AV × AV) := fun g args s =>
  br (decide (g = gid)) (Option.rec none (fun pa => Option.rec none (fun r => some (pa, r)) (M.ret call n pa)) (mapO (vw s false 64) false args)) none
theorem MapFn.sound (hsc : SoundCall P call) (hdr : ∀ call, SoundCall P call → DrawnOk P call) {gid : Id} (hg : gid.val = g) {call2 : CallT} (h2 : SoundCall P call2) : SoundCall P (picks (M.pick call n gid) call2) := by
  refine seen_sound h2 (fun g' args s en hen => ?_)
  unfold MapFn.pick at hen
  by_cases hgg : g' = gid
  · rw [decide_eq_true hgg, br_true] at hen
    cases hv : mapO (vw s false 64) false args with
    | none => rw [hv] at hen; cases hen
    | some pa =>
      rw [hv] at hen
      have hen' : (Option.rec none (fun r => some (pa, r)) (M.ret call n pa) : Option (List AV × AV)) = some en := hen
      cases hr : M.ret call n pa with
      | none => rw [hr] at hen'; cases hen'
      | some r =>
        rw [hr] at hen'
        cases hen'
        subst hgg
        refine ⟨vws_mts hv, ⟨M.fn, by rw [hg]; exact M.hf, by rw [M.hb]; rfl, M.hname⟩, ?_⟩
        rw [hg]
        exact M.seen call n hsc (hdr call hsc) hr
  · rw [decide_eq_false hgg, br_false] at hen; cases hen
end
end Go.Vm
