/- The abstract machine: statements (in the text's order; or in whatever order, checked), code, calls. No condition. -/
import Derived.Test.YtjnejkganejdbaaVmC
namespace Go.Vm
set_option linter.unusedVariables false

inductive CG where
  | none
  | g (s : Sl) (want : Bool)
inductive CD where
  | none
  | d (s : Sl)
inductive CR where
  | mk (d : CD) (op : COp) (g : CG)
/-- What an operation does to the blocks: nothing, it makes one, it reads, it may write. -/
inductive Kind where
  | quiet | alloc | read | mut
noncomputable def COp.kind : COp → Kind
  | .box _ | .alloc _ | .blit _ _ _ | .mkmap | .mksl _ _ _ _ => .alloc
  | .load _ _ _ | .tostr _ | .lookup _ _ _ _ _ | .lenm _ => .read
  | .store _ _ _ | .mupd _ _ _ _ | .callf _ _ | .callv _ _ | .app _ _ _ _ => .mut
  | _ => .quiet
/-- An operation of a statement whose order is open: its place, what comes ahead of it (a mask). -/
inductive DR where
  | mk (i : Nat) (pre : Nat) (kind : Kind) (o : CR)
inductive CC where
  | skip
  | region (ops : List CR)
  | drawn (ops : List DR)
  | seq (a b : CC)
  | cond (c : CO) (a b : CC)
  | block (id : Nat) (c : CC)
  | loop (c : CC)
  | exit (id : Nat)
  | ret
inductive Res where
  | tmp (s : Sl)
  | cell (s : Sl) (agg : Bool) (sz : Nat)
inductive CF where
  | bad
  | mk (nt : Nat) (res : List Res) (body : CC)

/-! ### Evaluation -/
noncomputable def putD (d : CD) (v : AV) (f : Fr AV) : Fr AV := CD.rec (fun _ f => f) (fun s v f => s.set v f) d v f
noncomputable def wanted (g : CG) (f : Fr AV) : Bool := CG.rec (fun _ => true) (fun s w f => (s.get f).onBool false fun b => br w b (br b false true)) g f
noncomputable def exOne (call : CallT) (o : CR) (ih : Fr AV → St → RC) (f : Fr AV) (s : St) : RC :=
  CR.rec (fun d op g ih f s => br (wanted g f) ((exop op call f s).on .no fun v s => ih (putD d v f) s) (ih (putD d undef f) s)) o ih f s
noncomputable def exops (call : CallT) (l : List CR) : Fr AV → St → RC := List.rec (fun f s => .nor f s) (fun o _ ih => exOne call o ih) l

/-- A read that was made: its place, its frame, what it was, what it came to. -/
structure Rd where
  i : Nat
  f : Fr AV
  op : COp
  v : AV
/-- A write that was made: its place, the blocks ahead of it. -/
structure Wr where
  i : Nat
  h : Tab AO
structure Pd where
  i : Nat
  b : Id
  o : AO
noncomputable def noCall : CallT := fun _ _ _ => .no
/-- Likeness of values, for what a statement reads. -/
noncomputable def like : AV → AV → Bool
  | .bool a, .bool b => a == b
  | .int j a, .int k b => keq j k && a == b
  | .str a, .str b => a == b
  | .nilp, .nilp | .nils, .nils | .nilm, .nilm | .nilf, .nilf | .nili, .nili => true
  | .ptr a n, .ptr b m => decide (a = b) && n == m
  | .sl a n l c x, .sl b m k d y => decide (a = b) && n == m && l == k && c == d && x == y
  | .map a, .map b => decide (a = b)
  | .agg l, .agg m => likes l m
  | .tup l, .tup m => likes l m
  | .ts l n c x, .ts m k d y => likes l m && n == k && c == d && x == y
  | .tp l, .tp m => likes l m
  | .ifc t a, .ifc u b => t == u && like a b
  | .fn a l m, .fn b k n => decide (a = b) && likes l k && likes m n
  | _, _ => false
where likes : List AV → List AV → Bool
  | [], [] => true
  | a :: l, b :: m => like a b && likes l m
  | _, _ => false
noncomputable def again (h : Tab AO) (n : Id) (f : Fr AV) (op : COp) (v : AV) : Bool := (exop op noCall f (.mk h n)).on false fun u _ => like u v
noncomputable def bit (m i : Nat) : Bool := Nat.testBit m i
/-- The reads that a write may come ahead of: as they were, behind it too. -/
noncomputable def readsOk (pre : Nat) (h : Tab AO) (n : Id) : List Rd → Bool
  | [] => true
  | r :: l => (bit pre r.i || again h n r.f r.op r.v) && readsOk pre h n l
noncomputable def writesOk (pre : Nat) (n : Id) (f : Fr AV) (op : COp) (v : AV) : List Wr → Bool
  | [] => true
  | w :: l => (bit pre w.i || again w.h n f op v) && writesOk pre n f op v l
noncomputable def allPre (pre : Nat) : List Nat → Bool
  | [] => true
  | i :: l => bit pre i && allPre pre l
noncomputable def flush : List Pd → Tab AO → Tab AO
  | [], h => h
  | p :: l, h => flush l (p.b.set p.o h)
noncomputable def exkind (call : CallT) (rest : Fr AV → Tab AO → Id → List Pd → List Rd → List Wr → RC) (i pre : Nat) (d : CD) (op : COp) (b : Id) (f : Fr AV) (h : Tab AO) (n : Id) (ps : List Pd) (rs : List Rd) (ws : List Wr) : Kind → RC
  | .quiet => (exop op noCall f .empty).on .no fun v _ => rest (putD d v f) h n ps rs ws
  | .alloc => (exop op noCall f (.mk (.rep .dead) b)).on .no fun v s => rest (putD d v f) h n (⟨i, b, b.get s.h⟩ :: ps) rs ws
  | .read => (exop op noCall f (.mk h n)).on .no fun v _ => br (writesOk pre n f op v ws) (rest (putD d v f) h n ps (⟨i, f, op, v⟩ :: rs) ws) .no
  | .mut => br (allPre pre (ws.map (·.i)))
      ((exop op call f (.mk (flush (ps.filter fun p => bit pre p.i) h) n)).on .no fun v s => br (readsOk pre s.h s.n rs) (rest (putD d v f) s.h s.n (ps.filter fun p => !bit pre p.i) rs (⟨i, h⟩ :: ws)) .no) .no
/-- The statement, in the text's order, with the checks that any other order comes to the same. 'b': the names kept for what it makes. -/
noncomputable def exdraw (call : CallT) : List DR → Id → Fr AV → Tab AO → Id → List Pd → List Rd → List Wr → RC
  | [], _, f, h, n, ps, _, _ => .nor f (.mk (flush ps h) n)
  | .mk i pre k (.mk d op g) :: l, b, f, h, n, ps, rs, ws =>
    b.up .no fun b' => br (wanted g f) (exkind call (exdraw call l b') i pre d op b f h n ps rs ws k) (exdraw call l b' (putD d undef f) h n ps rs ws)
noncomputable def ups : Nat → Id → (Id → RC) → RC
  | 0, n, k => k n
  | m + 1, n, k => n.up .no fun n => ups m n k
noncomputable def exdrawn (call : CallT) (l : List DR) (f : Fr AV) (s : St) : RC := ups l.length s.n fun n => exdraw call l s.n f s.h n [] [] []

noncomputable def seqK (k : Fr AV → St → RC) (r : RC) : RC := r.on .no k .exit .ret
noncomputable def blockK (id : Nat) (r : RC) : RC := r.on .no .nor (fun i f s => br (Nat.beq i id) (.nor f s) (.exit i f s)) .ret
noncomputable def iter (body : Fr AV → St → RC) (n : Nat) : Fr AV → St → RC := Nat.rec (fun _ _ => .no) (fun _ ih f s => seqK ih (body f s)) n
noncomputable def cSeq (a b : Fr AV → St → RC) : Fr AV → St → RC := fun f s => seqK b (a f s)
noncomputable def cCond (c : CO) (a b : Fr AV → St → RC) : Fr AV → St → RC := fun f s => (ev1 f c).onBool .no fun t => br t (a f s) (b f s)
noncomputable def cBlock (id : Nat) (a : Fr AV → St → RC) : Fr AV → St → RC := fun f s => blockK id (a f s)
noncomputable def excode (call : CallT) (n : Nat) (c : CC) : Fr AV → St → RC :=
  CC.rec (fun f s => .nor f s) (fun ops => exops call ops) (fun ops => exdrawn call ops) (fun _ _ iha ihb => cSeq iha ihb) (fun c _ _ iha ihb => cCond c iha ihb)
    (fun id _ ih => cBlock id ih) (fun _ ih => iter ih n) (fun id f s => .exit id f s) (fun f s => .ret f s) c
noncomputable def lay (args : List AV) : Sl → Fr AV → Fr AV :=
  List.rec (fun _ f => f) (fun x _ ih p f => Sl.rec (fun i j x f ih => ih (j.up (i.up (.mk .d0 .d0) fun i => .mk i .d0) fun j => .mk i j) ((Sl.mk i j).set x f)) p x f ih) args
noncomputable def frame0 (args : List AV) : Fr AV := lay args (.mk .d0 .d0) (.rep undef)
noncomputable def resOf (f : Fr AV) (s : St) (r : Res) (k : AV → R) : R :=
  Res.rec (fun t f _ k => k (t.get f)) (fun t agg sz f s k => ((t.get f).onPtr .no (fun b o => (s.obj b).onCells .no fun cs => wrap1 agg sz (dr o cs) s) fun _ => .no).on .no fun v _ => k v) r f s k
noncomputable def ress (f : Fr AV) (s : St) (l : List Res) (k : List AV → R) : R := List.rec (fun k => k []) (fun r _ ih k => resOf f s r fun v => ih fun vs => k (v :: vs)) l k
noncomputable def pack (l : List AV) : AV := List.rec (fun l => .tup l) (fun v r _ l => List.rec v (fun _ _ _ => .tup l) r) l l
noncomputable def fin (res : List Res) (r : RC) : R := r.on .no (fun f s => ress f s res fun l => .ok (pack l) s) (fun _ _ _ => .no) fun f s => ress f s res fun l => .ok (pack l) s
noncomputable def evF (call : CallT) (n : Nat) (c : CF) (args : List AV) (s : St) : R :=
  CF.rec (fun _ _ => .no) (fun nt res body args s => br (Nat.ble (ln args) nt) (fin res (excode call n body (frame0 args) s)) .no) c args s
noncomputable def ev (C : Tab CF) (k : Nat) : CallT := Nat.rec (fun _ _ _ => .no) (fun k ih g args s => evF ih k (g.get C) args s) k

/-! ### Compiling code -/
section
variable (P : Program)
noncomputable def copG (ops : Array Oper) : Option (Nat × Bool) → Option CG
  | none => some .none
  | some (j, b) => do
    let o ← ops[j]?
    let d ← o.dst
    if d < 256 then some (.g (.ofNat d) b) else none
noncomputable def copD (nt : Nat) : Option Tmp → Option CD
  | none => some .none
  | some d => if d < nt ∧ d < 256 then some (.d (.ofNat d)) else none
noncomputable def copR (nt : Nat) (ops : Array Oper) (o : Oper) : Option CR := do
  some (.mk (← copD nt o.dst) (← cop P o.op) (← copG ops o.guard))
/-- Of each operation: what comes ahead of it, through others too. -/
noncomputable def pres : List Oper → List Nat → List Nat
  | [], acc => acc
  | o :: r, acc => pres r (acc ++ [o.after.toList.foldl (fun m e => if Region.binds .any e then m ||| 2 ^ e.on ||| acc.getD e.on 0 else m) 0])
noncomputable def coS (x : CO) : List Sl := CO.rec (fun s => [s]) (fun _ => []) x
noncomputable def cosS : List CO → List Sl
  | [] => []
  | x :: l => coS x ++ cosS l
noncomputable def cooS : Option CO → List Sl
  | none => []
  | some x => coS x
noncomputable def partsS : List Part → List Sl
  | [] => []
  | p :: l => coS p.x ++ partsS l
/-- The slots that an operation looks at. -/
noncomputable def COp.slots : COp → List Sl
  | .mv x | .mvs x | .box x | .load _ _ x | .nilck x | .neg x | .not x | .conv _ x | .tobytes x | .tostr x | .mkif _ x | .faddr _ x | .field _ _ _ x | .ext x _ | .lens x | .lenm x | .len x | .cap x => coS x
  | .pick a b c | .mupd _ a b c => coS a ++ (coS b ++ coS c)
  | .alloc _ | .mkmap => []
  | .build _ ps | .blit _ _ ps => partsS ps
  | .store _ x y | .bin _ x y | .beq _ x y | .nileq _ _ x y | .mksl _ _ x y | .iaddr _ x y | .sidx x y | .aidx _ _ _ x y | .lookup _ _ x y _ | .app _ _ x y => coS x ++ coS y
  | .mkfn _ a b => cosS a ++ cosS b
  | .slice _ x a b c => coS x ++ (cooS a ++ (cooS b ++ cooS c))
  | .sslice x a b => coS x ++ (cooS a ++ cooS b)
  | .callf _ as => cosS as
  | .callv g as => coS g ++ cosS as
  | .mm _ x r => coS x ++ cosS r
noncomputable def CR.dst : CR → Option Sl
  | .mk (.d s) _ _ => some s
  | .mk .none _ _ => none
/-- .. and writes. -/
noncomputable def CR.names : CR → List Sl
  | .mk cd co cg => (match cd with | .d s => [s] | .none => []) ++ ((match cg with | .g s _ => [s] | .none => []) ++ co.slots)
noncomputable def DR.cr : DR → CR
  | .mk _ _ _ o => o
noncomputable def DR.pre : DR → Nat
  | .mk _ p _ _ => p
noncomputable def DR.i : DR → Nat
  | .mk i _ _ _ => i
noncomputable def DR.kind : DR → Kind
  | .mk _ _ k _ => k
noncomputable def offs (d : Option Sl) (l : List Sl) : Bool := d.all fun s => !l.contains s
/-- Whoever writes a slot that another one looks at or writes comes ahead of it, or behind it. -/
noncomputable def apart1 (x : DR) : List DR → Bool
  | [] => true
  | y :: l => (bit y.pre x.i || (offs x.cr.dst y.cr.names && offs y.cr.dst x.cr.names)) && apart1 x l
noncomputable def apartOk : List DR → Bool
  | [] => true
  | x :: l => apart1 x l && apartOk l
/-- What comes ahead comes ahead by what the text says; and it stands ahead in the text. -/
noncomputable def preOk (ops : Array Oper) (pre : List Nat) : Bool :=
  (List.range ops.size).all fun i => match ops[i]? with
    | some o => (o.after.toList.all fun e => !Region.binds .any e || decide (e.on < i)) &&
      (List.range ops.size).all fun j => !bit (pre.getD i 0) j || o.after.toList.any fun e => Region.binds .any e && (e.on == j || bit (pre.getD e.on 0) j)
    | none => false
noncomputable def drs (nt : Nat) (ops : Array Oper) (pre : List Nat) : List Oper → Nat → Option (List DR)
  | [], _ => some []
  | o :: r, i => do
    let c ← copR P nt ops o
    let l ← drs nt ops pre r (i + 1)
    let op ← cop P o.op
    some (.mk i (pre.getD i 0) op.kind c :: l)
noncomputable def ccDrawn (nt : Nat) (ops : Array Oper) : Option CC :=
    let pre := pres ops.toList []
    if preOk ops pre then (drs P nt ops pre ops.toList 0).bind fun l => if apartOk l then some (.drawn l) else none else none
/-- Code that the machine does not know: it comes to nothing. -/
noncomputable def badC : CC := .region [.mk .none (.ext (.c .nilp) 0) .none]
noncomputable def cc (nt : Nat) : Code → Option CC
  | .skip => some .skip
  | .region _ ops false => some (((ops.toList.mapM (copR P nt ops)).map .region).getD badC)
  | .region _ ops true => some ((ccDrawn P nt ops).getD badC)
  | .seq a b => do some (.seq (← cc nt a) (← cc nt b))
  | .cond c a b => do
    let x ← cc nt a
    let y ← cc nt b
    some (((cod c).map fun c => CC.cond c x y).getD badC)
  | .scope c => cc nt c
  | .label _ => some .skip
  | .block i c => (cc nt c).map (.block i)
  | .loop c => (cc nt c).map .loop
  | .exit i => some (.exit i)
  | .ret => some .ret
  | _ => some badC
noncomputable def copRes : ResultVar → Option Res
  | .tmp t => if t < 256 then some (.tmp (.ofNat t)) else none
  | .cell t ty => do if t < 256 then some (.cell (.ofNat t) (← aggAt P ty) (← sizeAt P ty)) else none
noncomputable def cf (f : Func) : CF :=
  (do
    let b ← f.body
    let c ← cc P f.ntmps b
    let r ← f.results.toList.mapM (copRes P)
    if f.ntmps ≤ 256 ∧ f.name ≠ "runtime.NumGoroutine" then some (CF.mk f.ntmps r c) else none).getD .bad
noncomputable def cfs : List Func → Id → Tab CF → Tab CF
  | [], _, t => t
  | f :: r, p, t => cfs r (p.up p fun q => q) (p.set (cf P f) t)
noncomputable def prog : Tab CF := if P.funcs.size ≤ 65536 then cfs P P.funcs.toList (.mk .d0 .d0 .d0 .d0) (.rep .bad) else .rep .bad
end
end Go.Vm
