/- Loops over maps; calls told by what lies in memory. No condition. -/
import Derived.Test.YtfndnjmnakdglaaGreatDoorVmQ
namespace Go.Vm
set_option linter.unusedVariables false
variable {P : Program}
def left (ms : Array MapEntry) (seen : Array Nat) : Array MapEntry := ms.filter fun a => !decide (a.born ∈ seen)
end Go.Vm
namespace Go.Vm
set_option linter.unusedVariables false
variable {P : Program}
structure Turning (P : Program) (nt : Nat) where
  id5 : Nat
  id6 : Nat
  id0 : Nat
  id1 : Nat
  ops5 : Array Oper
  ops6 : Array Oper
  o2 : Oper
  o4 : Oper
  l5 : List Oper
  l6 : List Oper
  it : Tmp
  nx : CD
  en : CD
  c5 : List CR
  c6 : List CR
  cnd : Operand
  b : CO
  C7 : Code
  c7 : CC
  hit : it < 256
  h5 : ops5.toList = o2 :: l5
  hop2 : o2.op = .next (.tmp it) false
  hg2 : o2.guard = none
  hd2 : copD nt o2.dst = some nx
  hc5 : l5.mapM (copR P nt ops5) = some c5
  h6 : ops6.toList = o4 :: l6
  hop4 : o4.op = .entry (.tmp it)
  hg4 : o4.guard = none
  hd4 : copD nt o4.dst = some en
  hc6 : l6.mapM (copR P nt ops6) = some c6
  hb : cod cnd = some b
  h7 : cc P nt C7 = some c7
section
variable {nt : Nat} (T : Turning P nt)
def Turning.code : Code := .seq (.region T.id5 T.ops5 false) (.seq (.cond T.cnd .skip (.exit T.id0)) (.block T.id1 (.seq (.region T.id6 T.ops6 false) T.C7)))
variable (call : CallT) (n : Nat) (ib : Id)
end
section
variable {s0 : St} {E0 : Env} {w0 : World} {ib : Id} {r k : Nat} {ms : Array MapEntry} {cl : Nat}
end
end Go.Vm
namespace Go.Vm
set_option linter.unusedVariables false
variable {P : Program}
noncomputable def mapO (f : AV → Option AV) (chk : Bool) (l : List AV) : Option (List AV) :=
  List.rec (some []) (fun a _ ih => Option.rec none (fun b => br (br chk b.one true) (Option.rec none (fun r => some (b :: r)) ih) none) (f a)) l
noncomputable def vw (s : St) (own : Bool) : Nat → AV → Option AV
  | 0, _ => none
  | n + 1, .ptr b o => (mapO (vw s own n) true ((s.obj b).row.drop o)).map .tp
  | n + 1, .tp l => br own none ((mapO (vw s own n) true l).map .tp)
  | n + 1, .sl b o len cap ex => (mapO (vw s own n) true ((s.obj b).row.drop o)).map fun l => .ts l len len false
  | n + 1, .ts l len cap ex => br own none ((mapO (vw s own n) true l).map fun l => .ts l len len false)
  | n + 1, .agg l => (mapO (vw s own n) true l).map .agg
  | n + 1, .tup l => (mapO (vw s own n) false l).map .tup
  | n + 1, .bool b => some (.bool b)
  | n + 1, .int k i => some (.int k i)
  | n + 1, .str b => some (.str b)
  | n + 1, .nilp => some .nilp
  | n + 1, .nils => some .nils
  | n + 1, .nilm => some .nilm
  | n + 1, .nilf => some .nilf
  | n + 1, .nili => some .nili
  | _, _ => none
end Go.Vm
namespace Go.Vm
set_option linter.unusedVariables false
variable {P : Program}
structure Ranged (P : Program) (nt : Nat) (id4 : Nat) (ops4 : Array Oper) (cd0 cd1 : CD) (co0 : COp) (x : Tmp) : Prop where
  shape : ∃ o0 o1 t kt et, ops4.toList = [o0, o1] ∧ copR P nt ops4 o0 = some (.mk cd0 co0 .none) ∧ x < 256 ∧ o1.op = .range t (.tmp x) ∧ P.underlying t = some (.map kt et) ∧ o1.guard = none ∧ copD nt o1.dst = some cd1
def Seen [Lay] (P : Program) (g : Nat) (args : List AV) (ret : AV) : Prop :=
  ∀ F w vals, Rel St.empty F w → RL F w args vals → Calls P g vals.toArray w fun e w' => ∃ r s' E' v, mt s' true ret r = true ∧ e = .returned v ∧ RV E' w' r v ∧ Went .empty F w s' E' w'
theorem seen_sound [Lay] [Bare] {pk : Id → List AV → St → Option (List AV × AV)} {call : CallT} (hc : SoundCall P call)
    (h : ∀ g args s en, pk g args s = some en → mt.mts s false en.1 args = true ∧ (∃ fn, P.funcs[g.val]? = some fn ∧ fn.body.isNone = false ∧ fn.name ≠ "runtime.NumGoroutine") ∧ Seen P g.val en.1 en.2) : SoundCall P (picks pk call) := by
  intro g args s r s' hr
  cases hT : pk g args s with
  | none =>
    have e : picks pk call g args s = call g args s := by unfold picks; rw [hT]
    rw [e] at hr
    exact hc g args s r s' hr
  | some en =>
    have e : picks pk call g args s = .ok en.2 s := by unfold picks; rw [hT]
    rw [e] at hr
    obtain ⟨rfl, rfl⟩ := ok_inj hr
    obtain ⟨hm, hfn, hseen⟩ := h g args s en hT
    refine ⟨hfn, fun E w vals rel hrl => ?_⟩
    have hdead : ∀ b, St.empty.obj b = .dead := empty_obj
    let F : Env := ⟨E.φ, fun k => E.I k ∨ ∃ b, s.obj b ≠ .dead ∧ (E.φ b).block = k, fun _ => False⟩
    have hF : RL F w en.1 vals := (mt_rv (F := F) (own := false) rel.h (fun b hb => .inr ⟨b, hb, rfl⟩) (fun _ k hk => .inl hk) (SizeOf.sizeOf en.1)).2.2 _ _ (Nat.le_refl _) hm vals hrl
    have hRF : Rel St.empty F w := ⟨fun b _ h => h, ⟨(fun b cs h => by rw [hdead] at h; cases h), (fun b es h => by rw [hdead] at h; cases h), fun b h => absurd (hdead b) h, fun b c h => absurd (hdead b) h, fun b h => absurd (hdead b) h,
      fun k hk => hk.elim (rel.h.seen k) (fun ⟨b, hb, e⟩ => by rw [← e]; exact rel.h.block_lt hb)⟩, rel.laid.on (fun _ hk => .inl hk) fun _ _ => rfl⟩
    refine Calls.mono (hseen F w vals hRF hF) ?_
    rintro e w' ⟨r0, s1, E1, v, h2, rfl, k1, k2⟩
    have hold : ∀ k, k < w.heap.size → w'.heap[k]? = w.heap[k]? := fun k hk => k2.ext.keep k hk (fun b hb => absurd (hdead b) hb)
    have hnew : ∀ b, s1.obj b ≠ .dead → w.heap.size ≤ (E1.φ b).block ∧ (E1.φ b).block < w'.heap.size := fun b hb => by
      refine ⟨?_, k2.rel.h.block_lt hb⟩
      rcases k2.ext.new b hb with ⟨c, hc, _⟩ | hge
      · exact absurd (hdead c) hc
      · exact hge
    let G : Env := ⟨E.φ, fun k => E.I k ∨ ∃ b, s1.obj b ≠ .dead ∧ (E1.φ b).block = k, E.D⟩
    have hle : Le E w G w' := ⟨fun _ h => h, fun _ _ => rfl, fun _ h => .inl h, fun k hk => hold k (rel.h.seen k hk), .of_old hold⟩
    have hv : RV G w' en.2 v := (mt_rv (F := G) (own := true) k2.rel.h (fun b hb => .inr ⟨b, hb, rfl⟩) (fun h => by cases h) (SizeOf.sizeOf en.2)).1 _ _ (Nat.le_refl _) h2 v k1
    refine ⟨G, v, rfl, hv, ⟨⟨rel.n, rel_keep rel.h hle hold k2.ext.size (fun k hk => hk.elim .inl (fun ⟨b, hb, e⟩ => .inr (by rw [← e]; exact hnew b hb))), rel.laid.le hle⟩, Nat.le_refl _, ?_⟩⟩
    exact ⟨fun _ h => h, fun _ _ => rfl, fun _ h => .inl h, fun _ h => .inl h, fun k hk => hk.elim .inl (fun ⟨b, hb, e⟩ => .inr (.inl (by rw [← e]; exact (hnew b hb).1))), k2.ext.os, k2.ext.tape, k2.ext.output, k2.ext.size, fun k hk _ => hold k hk, .of_old hold, fun b hb => .inl ⟨b, hb, rfl⟩⟩
end Go.Vm
namespace Go.Vm
set_option linter.unusedVariables false
variable {P : Program}
section
variable {α : Type}
end
def chainCode (l : List Code) (y : Code) : Code := l.foldr .seq y
structure MapFn (P : Program) (g : Nat) where
  fn : Func
  b : Code
  rs : List Res
  hf : P.funcs[g]? = some fn
  hb : fn.body = some b
  hname : fn.name ≠ "runtime.NumGoroutine"
  hrs : fn.results.toList.mapM (copRes P) = some rs
  hnt : fn.ntmps ≤ 256
  T : Turning P fn.ntmps
  pre : List Code
  cpre : List CC
  hpre : pre.mapM (cc P fn.ntmps) = some cpre
  post : Code
  cpost : CC
  hpost : cc P fn.ntmps post = some cpost
  id4 : Nat
  ops4 : Array Oper
  cd0 : CD
  cd1 : CD
  co0 : COp
  x : Tmp
  hR : Ranged P fn.ntmps id4 ops4 cd0 cd1 co0 x
  hbody : b = chainCode pre (.seq (.seq (.region id4 ops4 false) (.block T.id0 (.loop T.code))) post)
section
variable {g : Nat} (M : MapFn P g) (call : CallT) (n : Nat)
end
end Go.Vm
namespace Go.Vm
set_option linter.unusedVariables false
variable {P : Program}
noncomputable def qevP (pk : Id → List AV → St → Option (List AV × AV)) (C : Tab CF) (k : Nat) : CallT :=
  Nat.rec (motive := fun _ => CallT) (fun _ _ _ => .no) (fun k ih => picks pk fun g args s => qevF ih k (g.get C) args s) k
theorem qevP_sound [Lay] {pk : Id → List AV → St → Option (List AV × AV)} (hdr : ∀ call, SoundCall P call → DrawnOk P call) (hpk : ∀ call, SoundCall P call → SoundCall P (picks pk call)) (k : Nat) : SoundCall P (qevP pk (prog P) k) := by
  induction k with
  | zero => exact fun g args s r s' h => R.noConfusion h
  | succ k ih =>
    refine hpk _ (fun g args s r s' h => ?_)
    rw [qevF_eq] at h
    exact evF_sound ih hdr k h
end Go.Vm
namespace Go.Vm
set_option linter.unusedVariables false
variable {P : Program}
def Has (P : Program) (g : Nat) : Prop := ∃ fn, P.funcs[g]? = some fn ∧ fn.body.isNone = false ∧ fn.name ≠ "runtime.NumGoroutine"
theorem seen_of [Lay] {base : CallT} (hb : SoundCall P base) {g : Id} {args : List AV} {ret : AV} (h : sees base g (args, ret) = true) : Has P g.val ∧ Seen P g.val args ret := by
  obtain ⟨r0, s', h1, h2⟩ := sees_ok h
  have h3 := hb g args .empty r0 s' h1
  exact ⟨h3.1, fun F w vals rel hrl => Calls.mono (h3.2 F w vals rel hrl) fun e w' ⟨E', v, q1, q2, q3⟩ => ⟨r0, s', E', v, h2, q1, q2, q3⟩⟩
noncomputable def pkBy (gid : Id) (num : List AV → St → Nat) (most : Nat) (pat : Nat → List AV) (res : Nat → AV) : Id → List AV → St → Option (List AV × AV) := fun g args s =>
  br (decide (g = gid)) (br (brB (Nat.ble (num args s) most) (mt.mts s false (pat (num args s)) args) false) (some (pat (num args s), res (num args s))) none) none
theorem pkBy_sound [Lay] [Bare] {gid : Id} {num : List AV → St → Nat} {most : Nat} {pat : Nat → List AV} {res : Nat → AV} (hg : Has P gid.val) (h : ∀ d, d ≤ most → Seen P gid.val (pat d) (res d)) (call : CallT) (hc : SoundCall P call) : SoundCall P (picks (pkBy gid num most pat res) call) := by
  refine seen_sound hc (fun g args s en hen => ?_)
  unfold pkBy at hen
  by_cases hgg : g = gid
  · rw [decide_eq_true hgg, br_true] at hen
    rw [brB_and] at hen
    cases hq : (Nat.ble (num args s) most && mt.mts s false (pat (num args s)) args) with
    | false => rw [hq] at hen; cases hen
    | true =>
      rw [hq, br_true] at hen
      cases hen
      simp only [Bool.and_eq_true, Nat.ble_eq] at hq
      subst hgg
      exact ⟨hq.2, hg, h _ hq.1⟩
  · rw [decide_eq_false hgg, br_false] at hen; cases hen
theorem pkOne_sound [Lay] [Bare] {gid : Id} {pa : List AV} {r : AV} (hg : Has P gid.val) (h : Seen P gid.val pa r) (call : CallT) (hc : SoundCall P call) : SoundCall P (picks (pkBy gid (fun _ _ => 0) 0 (fun _ => pa) fun _ => r) call) :=
  pkBy_sound hg (fun _ _ => h) call hc
end Go.Vm
namespace Go.Vm
set_option linter.unusedVariables false
variable {P : Program}
noncomputable def pInt (v : AV) (h : IntKind → Int → Bool) : Bool := AV.onInt v false h
noncomputable def pStr (v : AV) (h : List UInt8 → Bool) : Bool := AV.onStr v false h
noncomputable def pPtr (v : AV) (h : Id → Nat → Bool) (g : List AV → Bool) : Bool := AV.onPtr v false h g
noncomputable def pSl (v : AV) (e : Bool) (h : Id → Nat → Nat → Nat → Nat → Bool) (g : List AV → Nat → Nat → Bool → Bool) : Bool := AV.onSl v false e h g
noncomputable def pAgg (v : AV) (h : List AV → Bool) : Bool := AV.onAgg v false h
noncomputable def qrow (s : St) (b : Id) (o : Nat) : List AV := dr o (s.qobj b).row
noncomputable def fm (s : St) (own : Bool) : AV → AV → Bool :=
  AV.rec (motive_1 := fun _ => AV → Bool) (motive_2 := fun _ => List AV → Bool)
    (fun b v => mt s own (.bool b) v) (fun k n v => pInt v fun j m => brB (keq k j) (ieq n m) false) (fun l v => pStr v fun m => beqs l m) (fun v => mt s own .nilp v) (fun b o v => mt s own (.ptr b o) v)
    (fun l ih v => pPtr v (fun b o => ih (qrow s b o)) fun m => brB own false (ih m)) (fun v => pSl v true (fun _ _ _ _ _ => false) fun _ _ _ _ => false) (fun b o k c x v => mt s own (.sl b o k c x) v)
    (fun l n c x ih v => pSl v false (fun b o k d y => brB (brB x false (brB (Nat.beq n k) (Nat.ble c n) false)) (ih (qrow s b o)) false) fun m k d y => brB (brB own true x) false (brB (brB (Nat.beq n k) (Nat.ble c n) false) (ih m) false))
    (fun v => mt s own .nilm v) (fun b v => mt s own (.map b) v) (fun v => mt s own .nilf v) (fun f a b _ _ v => mt s own (.fn f a b) v) (fun v => mt s own .nili v) (fun t a _ v => mt s own (.ifc t a) v)
    (fun l ih v => pAgg v fun m => brB (Nat.beq (ln l) (ln m)) (ih m) false) (fun l _ v => mt s own (.tup l) v)
    (fun _ => true) (fun a l iha ihl m => List.rec (motive := fun _ => Bool) false (fun b r _ => brB (brB a.one (iha b) false) (ihl r) false) m)
noncomputable def fmL (s : St) (own : Bool) : List AV → List AV → Bool :=
  AV.rec_1 (motive_1 := fun _ => AV → Bool) (motive_2 := fun _ => List AV → Bool)
    (fun b v => mt s own (.bool b) v) (fun k n v => pInt v fun j m => brB (keq k j) (ieq n m) false) (fun l v => pStr v fun m => beqs l m) (fun v => mt s own .nilp v) (fun b o v => mt s own (.ptr b o) v)
    (fun l ih v => pPtr v (fun b o => ih (qrow s b o)) fun m => brB own false (ih m)) (fun v => pSl v true (fun _ _ _ _ _ => false) fun _ _ _ _ => false) (fun b o k c x v => mt s own (.sl b o k c x) v)
    (fun l n c x ih v => pSl v false (fun b o k d y => brB (brB x false (brB (Nat.beq n k) (Nat.ble c n) false)) (ih (qrow s b o)) false) fun m k d y => brB (brB own true x) false (brB (brB (Nat.beq n k) (Nat.ble c n) false) (ih m) false))
    (fun v => mt s own .nilm v) (fun b v => mt s own (.map b) v) (fun v => mt s own .nilf v) (fun f a b _ _ v => mt s own (.fn f a b) v) (fun v => mt s own .nili v) (fun t a _ v => mt s own (.ifc t a) v)
    (fun l ih v => pAgg v fun m => brB (Nat.beq (ln l) (ln m)) (ih m) false) (fun l _ v => mt s own (.tup l) v)
    (fun _ => true) (fun a l iha ihl m => List.rec (motive := fun _ => Bool) false (fun b r _ => brB (brB a.one (iha b) false) (ihl r) false) m)
theorem brB_not (a b : Bool) : brB a false b = (!a && b) := by cases a <;> rfl
theorem qrow_eq (s : St) (b : Id) (o : Nat) : qrow s b o = (s.obj b).row.drop o := by unfold qrow; rw [dr_eq, St.qobj_eq]
theorem fmL_cons (s : St) (own : Bool) (a b : AV) (l m : List AV) : fmL s own (a :: l) (b :: m) = brB (brB a.one (fm s own a b) false) (fmL s own l m) false := rfl
theorem fm_ts (s : St) (own : Bool) (l : List AV) (n c : Nat) (x : Bool) (v : AV) : fm s own (.ts l n c x) v = pSl v false (fun b o k d y => brB (brB x false (brB (Nat.beq n k) (Nat.ble c n) false)) (fmL s own l (qrow s b o)) false) fun m k d y => brB (brB own true x) false (brB (brB (Nat.beq n k) (Nat.ble c n) false) (fmL s own l m) false) := rfl
theorem fm_tp (s : St) (own : Bool) (l : List AV) (v : AV) : fm s own (.tp l) v = pPtr v (fun b o => fmL s own l (qrow s b o)) fun m => brB own false (fmL s own l m) := rfl
theorem fm_agg (s : St) (own : Bool) (l : List AV) (v : AV) : fm s own (.agg l) v = pAgg v fun m => brB (Nat.beq (ln l) (ln m)) (fmL s own l m) false := rfl
theorem nbeq (a b : Nat) : Nat.beq a b = (a == b) := by rw [Bool.eq_iff_iff]; simp
theorem fm_eq (s : St) (own : Bool) : ∀ (n : Nat), (∀ a v : AV, SizeOf.sizeOf a ≤ n → fm s own a v = mt s own a v) ∧ (∀ l m : List AV, SizeOf.sizeOf l ≤ n → fmL s own l m = mt.mtp s own l m) := by
  intro n
  induction n with
  | zero =>
    refine ⟨fun a v h => ?_, fun l m h => ?_⟩
    · cases a <;> simp at h
    · cases l <;> simp at h
  | succ n ih =>
    obtain ⟨iha, ihl⟩ := ih
    refine ⟨fun a v h => ?_, fun l m h => ?_⟩
    · cases a with
      | int k i => cases v <;> first | rfl | (show brB (keq k _) (ieq i _) false = _; rw [brB_and, ieq_eq]; rfl)
      | str l => cases v <;> first | rfl | (show beqs l _ = _; rw [beqs_eq]; rfl)
      | nils => cases v <;> rfl
      | ts l k c x =>
        have hl := fun m => ihl l m (by simp at h; omega)
        rw [fm_ts]
        cases v <;> first | rfl | (show brB (brB x false (brB (Nat.beq k _) (Nat.ble c k) false)) (fmL s own l (qrow s _ _)) false = _; rw [brB_and, brB_not, brB_and, nbeq, hl, qrow_eq]; simp [mt, Bool.and_assoc]) | (show brB (brB own true x) false (brB (brB (Nat.beq k _) (Nat.ble c k) false) (fmL s own l _) false) = _; rw [brB_not, brB_or, brB_and, brB_and, nbeq, hl]; cases own <;> cases x <;> simp [mt, Bool.and_assoc])
      | tp l =>
        have hl := fun m => ihl l m (by simp at h; omega)
        rw [fm_tp]
        cases v <;> first | rfl | (show fmL s own l (qrow s _ _) = _; rw [hl, qrow_eq]; rfl) | (show brB own false (fmL s own l _) = _; rw [brB_not, hl]; rfl)
      | agg l =>
        have hl := fun m => ihl l m (by simp at h; omega)
        rw [fm_agg]
        cases v <;> first | rfl | (show brB (Nat.beq (ln l) (ln _)) (fmL s own l _) false = _; rw [brB_and, nbeq, hl, ln_eq, ln_eq]; rfl)
      | _ => rfl
    · cases l with
      | nil => cases m <;> rfl
      | cons a l =>
        cases m with
        | nil => rfl
        | cons b m =>
          rw [fmL_cons, brB_and, brB_and, iha a b (by simp at h; omega), ihl l m (by simp at h; omega)]
          rfl
noncomputable def fms (s : St) (l : List AV) : List AV → Bool :=
  List.rec (motive := fun _ => List AV → Bool) (fun m => List.rec (motive := fun _ => Bool) true (fun _ _ _ => false) m) (fun a l ihl m => List.rec (motive := fun _ => Bool) false (fun b r _ => brB (fm s false a b) (ihl r) false) m) l
theorem fms_eq (s : St) (l m : List AV) : fms s l m = mt.mts s false l m := by
  induction l generalizing m with
  | nil => cases m <;> rfl
  | cons a l ih =>
    cases m with
    | nil => rfl
    | cons b m =>
      show brB (fm s false a b) (fms s l m) false = _
      rw [brB_and, (fm_eq s false (SizeOf.sizeOf a)).1 a b (Nat.le_refl _), ih]
      rfl
noncomputable def lookQ (es : List (List AV × AV)) (args : List AV) (s : St) : Option (List AV × AV) := List.rec none (fun e _ ih => br (fms s e.1 args) (some e) ih) es
theorem lookQ_eq : lookQ = look := by
  funext es args s
  induction es with
  | nil => rfl
  | cons e es ih =>
    show br (fms s e.1 args) (some e) (lookQ es args s) = br (mt.mts s false e.1 args) (some e) (look es args s)
    rw [fms_eq, ih]
end Go.Vm
