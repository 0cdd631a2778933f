/- The abstract machine again, code and calls: each is the same as before, and the kernel goes faster. No condition. -/
import Derived.Test.YtjnejkganejdbaaVmQ1
namespace Go.Vm
set_option linter.unusedVariables false
noncomputable def qputD (d : CD) (v : AV) (f : Fr AV) : Fr AV := CD.rec (motive := fun _ => AV → Fr AV → Fr AV) (fun _ f => f) (fun s v f => s.qset v f) d v f
theorem qputD_eq (d : CD) (v : AV) (f : Fr AV) : qputD d v f = putD d v f := by
  cases d with
  | none => rfl
  | d s => exact Sl.qset_eq s v f
noncomputable def qwanted (g : CG) (f : Fr AV) : Bool := CG.rec (motive := fun _ => Fr AV → Bool) (fun _ => true) (fun s w f => (s.qget f).pBool false fun b => brB w b (brB b false true)) g f
theorem qwanted_eq (g : CG) (f : Fr AV) : qwanted g f = wanted g f := by
  cases g with
  | none => rfl
  | g s w => show AV.pBool (s.qget f) _ _ = _; rw [Sl.qget_eq]; rfl
noncomputable def qexOne (call : CallT) (o : CR) (ih : Fr AV → St → RC) (f : Fr AV) (s : St) : RC :=
  CR.rec (motive := fun _ => CallT → (Fr AV → St → RC) → Fr AV → St → RC) (fun d op g call ih f s => brC (qwanted g f) ((qexop op call f s).qon .no fun v s => ih (qputD d v f) s) (ih (qputD d undef f) s)) o call ih f s
theorem qexOne_eq (call : CallT) (o : CR) (ih : Fr AV → St → RC) (f : Fr AV) (s : St) : qexOne call o ih f s = exOne call o ih f s := by
  cases o with
  | mk d op g =>
    show brC (qwanted g f) ((qexop op call f s).qon .no fun v s => ih (qputD d v f) s) (ih (qputD d undef f) s) = _
    simp only [qwanted_eq, qexop_eq, qputD_eq]
    rfl
noncomputable def qexops (l : List CR) (call : CallT) : Fr AV → St → RC := List.rec (motive := fun _ => CallT → Fr AV → St → RC) (fun _ f s => .nor f s) (fun o _ ih call => qexOne call o (ih call)) l call
theorem qexops_eq (l : List CR) (call : CallT) : qexops l call = exops call l := by
  induction l with
  | nil => rfl
  | cons o l ih =>
    funext f s
    show qexOne call o (qexops l call) f s = exOne call o (exops call l) f s
    rw [qexOne_eq, ih]
/-! ### In open order -/
noncomputable def qbit (m i : Nat) : Bool := Nat.beq (Nat.land 1 (Nat.shiftRight m i)) 1
theorem qbit_eq (m i : Nat) : qbit m i = bit m i := by
  show Nat.beq (1 &&& (m >>> i)) 1 = Nat.testBit m i
  unfold Nat.testBit
  rw [Nat.one_and_eq_mod_two]
  rcases Nat.mod_two_eq_zero_or_one (m >>> i) with h | h <;> rw [h] <;> rfl
noncomputable def qflush (l : List Pd) (h : Tab AO) : Tab AO := List.rec (motive := fun _ => Tab AO → Tab AO) (fun h => h) (fun p _ ih h => ih (Id.qset (Pd.rec (motive := fun _ => Id) (fun _ b _ => b) p) (Pd.rec (motive := fun _ => AO) (fun _ _ o => o) p) h)) l h
theorem qflush_eq (l : List Pd) (h : Tab AO) : qflush l h = flush l h := by
  induction l generalizing h with
  | nil => rfl
  | cons p l ih =>
    show qflush l (Id.qset p.b p.o h) = flush l (p.b.set p.o h)
    rw [Id.qset_eq, ih]
noncomputable def qagain (h : Tab AO) (n : Id) (f : Fr AV) (op : COp) (v : AV) : Bool := R.rec (motive := fun _ => Bool) false (fun u _ => like u v) (qexop op noCall f (.mk h n))
theorem qagain_eq (h : Tab AO) (n : Id) (f : Fr AV) (op : COp) (v : AV) : qagain h n f op v = again h n f op v := by unfold qagain; rw [qexop_eq]; rfl
noncomputable def qreadsOk (l : List Rd) (pre : Nat) (h : Tab AO) (n : Id) : Bool :=
  List.rec (motive := fun _ => Nat → Tab AO → Id → Bool) (fun _ _ _ => true) (fun r _ ih pre h n => Rd.rec (motive := fun _ => Nat → Tab AO → Id → Bool → Bool) (fun i f op v pre h n t => brB (brB (qbit pre i) true (qagain h n f op v)) t false) r pre h n (ih pre h n)) l pre h n
theorem brB_and (a b : Bool) : brB a b false = (a && b) := by cases a <;> rfl
theorem brB_or (a b : Bool) : brB a true b = (a || b) := by cases a <;> rfl
theorem qreadsOk_eq (l : List Rd) (pre : Nat) (h : Tab AO) (n : Id) : qreadsOk l pre h n = readsOk pre h n l := by
  induction l with
  | nil => rfl
  | cons r l ih =>
    cases r with
    | mk i f op v =>
      show brB (brB (qbit pre i) true (qagain h n f op v)) (qreadsOk l pre h n) false = _
      rw [brB_and, brB_or, qbit_eq, qagain_eq, ih]; rfl
noncomputable def qwritesOk (l : List Wr) (pre : Nat) (n : Id) (f : Fr AV) (op : COp) (v : AV) : Bool :=
  List.rec (motive := fun _ => Nat → Id → Fr AV → COp → AV → Bool) (fun _ _ _ _ _ => true) (fun w _ ih pre n f op v => Wr.rec (motive := fun _ => Nat → Id → Fr AV → COp → AV → Bool → Bool) (fun i h pre n f op v t => brB (brB (qbit pre i) true (qagain h n f op v)) t false) w pre n f op v (ih pre n f op v)) l pre n f op v
theorem qwritesOk_eq (l : List Wr) (pre : Nat) (n : Id) (f : Fr AV) (op : COp) (v : AV) : qwritesOk l pre n f op v = writesOk pre n f op v l := by
  induction l with
  | nil => rfl
  | cons w l ih =>
    cases w with
    | mk i h =>
      show brB (brB (qbit pre i) true (qagain h n f op v)) (qwritesOk l pre n f op v) false = _
      rw [brB_and, brB_or, qbit_eq, qagain_eq, ih]; rfl
noncomputable def qallPre (ws : List Wr) (pre : Nat) : Bool :=
  List.rec (motive := fun _ => Nat → Bool) (fun _ => true) (fun w _ ih pre => brB (qbit pre (Wr.rec (motive := fun _ => Nat) (fun i _ => i) w)) (ih pre) false) ws pre
theorem qallPre_eq (ws : List Wr) (pre : Nat) : qallPre ws pre = allPre pre (ws.map (·.i)) := by
  induction ws with
  | nil => rfl
  | cons w l ih =>
    show brB (qbit pre w.i) (qallPre l pre) false = _
    rw [brB_and, qbit_eq, ih]; rfl
noncomputable def qkeep (t : Bool) (ps : List Pd) (pre : Nat) : List Pd :=
  List.rec (motive := fun _ => Nat → List Pd) (fun _ => []) (fun p _ ih pre => Bool.rec (motive := fun _ => List Pd → Pd → List Pd) (fun r _ => r) (fun r p => p :: r) (brB t (qbit pre (Pd.rec (motive := fun _ => Nat) (fun i _ _ => i) p)) (brB (qbit pre (Pd.rec (motive := fun _ => Nat) (fun i _ _ => i) p)) false true)) (ih pre) p) ps pre
theorem qkeep_true (ps : List Pd) (pre : Nat) : qkeep true ps pre = ps.filter fun p => bit pre p.i := by
  induction ps with
  | nil => rfl
  | cons p l ih =>
    have e : qkeep true (p :: l) pre = Bool.rec (motive := fun _ => List Pd → Pd → List Pd) (fun r _ => r) (fun r p => p :: r) (qbit pre p.i) (qkeep true l pre) p := rfl
    rw [e, qbit_eq, ih, List.filter_cons]
    cases bit pre p.i <;> rfl
theorem qkeep_false (ps : List Pd) (pre : Nat) : qkeep false ps pre = ps.filter fun p => !bit pre p.i := by
  induction ps with
  | nil => rfl
  | cons p l ih =>
    have e : qkeep false (p :: l) pre = Bool.rec (motive := fun _ => List Pd → Pd → List Pd) (fun r _ => r) (fun r p => p :: r) (brB (qbit pre p.i) false true) (qkeep false l pre) p := rfl
    rw [e, qbit_eq, ih, List.filter_cons]
    cases bit pre p.i <;> rfl
abbrev Rest := Fr AV → Tab AO → Id → List Pd → List Rd → List Wr → RC
abbrev KindT := CallT → Rest → Nat → Nat → CD → COp → Id → Fr AV → Tab AO → Id → List Pd → List Rd → List Wr → RC
noncomputable def qQuiet : KindT := fun call rest i pre d op b f h n ps rs ws => (qexop op noCall f .empty).qon .no fun v _ => rest (qputD d v f) h n ps rs ws
noncomputable def qAllocK : KindT := fun call rest i pre d op b f h n ps rs ws => (qexop op noCall f (.mk (.rep .dead) b)).qon .no fun v s => rest (qputD d v f) h n (⟨i, b, b.qget s.h⟩ :: ps) rs ws
noncomputable def qReadK : KindT := fun call rest i pre d op b f h n ps rs ws => (qexop op noCall f (.mk h n)).qon .no fun v _ => brC (qwritesOk ws pre n f op v) (rest (qputD d v f) h n ps (⟨i, f, op, v⟩ :: rs) ws) .no
noncomputable def qMutK : KindT := fun call rest i pre d op b f h n ps rs ws => brC (qallPre ws pre)
  ((qexop op call f (.mk (qflush (qkeep true ps pre) h) n)).qon .no fun v s => brC (qreadsOk rs pre s.h s.n) (rest (qputD d v f) s.h s.n (qkeep false ps pre) rs (⟨i, h⟩ :: ws)) .no) .no
noncomputable def qexkind : Kind → KindT := Kind.rec (motive := fun _ => KindT) qQuiet qAllocK qReadK qMutK
theorem qexkind_eq (k : Kind) (call : CallT) (rest : Rest) (i pre : Nat) (d : CD) (op : COp) (b : Id) (f : Fr AV) (h : Tab AO) (n : Id) (ps : List Pd) (rs : List Rd) (ws : List Wr) :
    qexkind k call rest i pre d op b f h n ps rs ws = exkind call rest i pre d op b f h n ps rs ws k := by
  cases k with
  | quiet =>
    show R.qon (qexop op noCall f .empty) .no (fun v _ => rest (qputD d v f) h n ps rs ws) = _
    simp only [qexop_eq, qputD_eq]; rfl
  | alloc =>
    show R.qon (qexop op noCall f (.mk (.rep .dead) b)) .no (fun v s => rest (qputD d v f) h n (⟨i, b, b.qget s.h⟩ :: ps) rs ws) = _
    simp only [qexop_eq, qputD_eq, Id.qget_eq]; rfl
  | read =>
    show R.qon (qexop op noCall f (.mk h n)) .no (fun v _ => brC (qwritesOk ws pre n f op v) (rest (qputD d v f) h n ps (⟨i, f, op, v⟩ :: rs) ws) .no) = _
    simp only [qexop_eq, qputD_eq, qwritesOk_eq]; rfl
  | «mut» =>
    show brC (qallPre ws pre) ((qexop op call f (.mk (qflush (qkeep true ps pre) h) n)).qon .no fun v s => brC (qreadsOk rs pre s.h s.n) (rest (qputD d v f) s.h s.n (qkeep false ps pre) rs (⟨i, h⟩ :: ws)) .no) .no = _
    simp only [qexop_eq, qputD_eq, qreadsOk_eq, qallPre_eq, qflush_eq, qkeep_true, qkeep_false]; rfl
abbrev DrawT := CallT → Id → Rest
noncomputable def qexdraw : List DR → DrawT := List.rec (motive := fun _ => DrawT) (fun call b f h n ps rs ws => .nor f (.mk (qflush ps h) n))
  (fun x _ ih call b f h n ps rs ws => DR.rec (motive := fun _ => DrawT → DrawT) (fun i pre k o ih call b f h n ps rs ws => CR.rec (motive := fun _ => Nat → Nat → Kind → DrawT → DrawT)
    (fun d op g i pre k ih call b f h n ps rs ws => b.up .no fun b' => brC (qwanted g f) (qexkind k call (ih call b') i pre d op b f h n ps rs ws) (ih call b' (qputD d undef f) h n ps rs ws)) o i pre k ih call b f h n ps rs ws) x ih call b f h n ps rs ws)
theorem qexdraw_eq (l : List DR) (call : CallT) (b : Id) (f : Fr AV) (h : Tab AO) (n : Id) (ps : List Pd) (rs : List Rd) (ws : List Wr) : qexdraw l call b f h n ps rs ws = exdraw call l b f h n ps rs ws := by
  induction l generalizing b f h n ps rs ws with
  | nil => show RC.nor f (.mk (qflush ps h) n) = _; rw [qflush_eq]; rfl
  | cons x l ih =>
    cases x with
    | mk i pre k o =>
      cases o with
      | mk d op g =>
        show b.up RC.no (fun b' => brC (qwanted g f) (qexkind k call (qexdraw l call b') i pre d op b f h n ps rs ws) (qexdraw l call b' (qputD d undef f) h n ps rs ws)) =
          b.up RC.no (fun b' => br (wanted g f) (exkind call (exdraw call l b') i pre d op b f h n ps rs ws k) (exdraw call l b' (putD d undef f) h n ps rs ws))
        have e : ∀ b', qexdraw l call b' = exdraw call l b' := fun b' => by funext f h n ps rs ws; exact ih b' f h n ps rs ws
        simp only [qwanted_eq, qexkind_eq, qputD_eq, e]; rfl
noncomputable def qups : Nat → Id → (Id → RC) → RC := Nat.rec (motive := fun _ => Id → (Id → RC) → RC) (fun n k => k n) (fun _ ih n k => n.up .no fun n => ih n k)
theorem qups_eq (m : Nat) (n : Id) (k : Id → RC) : qups m n k = ups m n k := by
  induction m generalizing n with
  | zero => rfl
  | succ m ih =>
    show n.up RC.no (fun n => qups m n k) = n.up RC.no fun n => ups m n k
    simp only [ih]
noncomputable def qexdrawn (l : List DR) (call : CallT) (f : Fr AV) (s : St) : RC := qups (ln l) s.n fun n => qexdraw l call s.n f s.h n [] [] []
theorem qexdrawn_eq (l : List DR) (call : CallT) : qexdrawn l call = exdrawn call l := by
  funext f s
  unfold qexdrawn exdrawn
  rw [qups_eq, ln_eq]
  simp only [qexdraw_eq]
/-! ### Code, calls -/
noncomputable def qseqK (k : Fr AV → St → RC) (r : RC) : RC := r.qon .no k .exit .ret
noncomputable def qblockK (id : Nat) (r : RC) : RC := r.qon .no .nor (fun i f s => brC (Nat.beq i id) (.nor f s) (.exit i f s)) .ret
noncomputable def qiter (n : Nat) (body : Fr AV → St → RC) : Fr AV → St → RC := Nat.rec (motive := fun _ => (Fr AV → St → RC) → Fr AV → St → RC) (fun _ _ _ => .no) (fun _ ih body f s => qseqK (ih body) (body f s)) n body
theorem qiter_eq (n : Nat) (body : Fr AV → St → RC) : qiter n body = iter body n := by
  induction n with
  | zero => rfl
  | succ n ih => funext f s; show qseqK (qiter n body) (body f s) = _; rw [ih]; rfl
abbrev CodeT := CallT → Nat → Fr AV → St → RC
noncomputable def qSkip : CodeT := fun _ _ f s => .nor f s
noncomputable def qSeq (a b : CodeT) : CodeT := fun call n f s => qseqK (b call n) (a call n f s)
noncomputable def qCond (c : CO) (a b : CodeT) : CodeT := fun call n f s => (qev1 f c).rBool .no fun t => brC t (a call n f s) (b call n f s)
noncomputable def qBlock (id : Nat) (a : CodeT) : CodeT := fun call n f s => qblockK id (a call n f s)
noncomputable def qLoop (a : CodeT) : CodeT := fun call n f s => qiter n (a call n) f s
noncomputable def qexcode : CC → CodeT :=
  CC.rec (motive := fun _ => CodeT) qSkip (fun ops call _ => qexops ops call) (fun ops call _ => qexdrawn ops call) (fun _ _ iha ihb => qSeq iha ihb) (fun c _ _ iha ihb => qCond c iha ihb)
    (fun id _ ih => qBlock id ih) (fun _ ih => qLoop ih) (fun id _ _ f s => .exit id f s) (fun _ _ f s => .ret f s)
theorem qexcode_eq (c : CC) (call : CallT) (n : Nat) : qexcode c call n = excode call n c := by
  induction c with
  | skip => rfl
  | region ops => exact qexops_eq ops call
  | drawn ops => exact qexdrawn_eq ops call
  | seq a b iha ihb =>
    funext f s
    show qseqK (qexcode b call n) (qexcode a call n f s) = _
    rw [iha, ihb]; rfl
  | cond c a b iha ihb =>
    funext f s
    show AV.rBool (qev1 f c) RC.no (fun t => brC t (qexcode a call n f s) (qexcode b call n f s)) = _
    rw [iha, ihb, qev1_eq]; rfl
  | block id a ih =>
    funext f s
    show qblockK id (qexcode a call n f s) = _
    rw [ih]; rfl
  | loop a ih =>
    funext f s
    show qiter n (qexcode a call n) f s = _
    rw [ih, qiter_eq]; rfl
  | exit id => rfl
  | ret => rfl
noncomputable def qevF (call : CallT) (n : Nat) (c : CF) (args : List AV) (s : St) : R :=
  CF.rec (motive := fun _ => CallT → Nat → List AV → St → R) (fun _ _ _ _ => .no) (fun nt res body call n args s => brR (Nat.ble (ln args) nt) (fin res (qexcode body call n (frame0 args) s)) .no) c call n args s
theorem qevF_eq (call : CallT) (n : Nat) (c : CF) (args : List AV) (s : St) : qevF call n c args s = evF call n c args s := by
  cases c with
  | bad => rfl
  | mk nt res body =>
    show brR (Nat.ble (ln args) nt) (fin res (qexcode body call n (frame0 args) s)) .no = _
    rw [qexcode_eq]; rfl
noncomputable def qev (C : Tab CF) (k : Nat) : CallT := Nat.rec (motive := fun _ => Tab CF → CallT) (fun _ _ _ _ => .no) (fun k ih C g args s => qevF (ih C) k (g.get C) args s) k C
theorem qev_eq (C : Tab CF) (k : Nat) : qev C k = ev C k := by
  induction k with
  | zero => rfl
  | succ k ih => funext g args s; show qevF (qev C k) k (g.get C) args s = _; rw [ih, qevF_eq]; rfl
end Go.Vm
