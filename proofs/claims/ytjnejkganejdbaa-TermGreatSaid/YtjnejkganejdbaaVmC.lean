/- The abstract machine: operations, their compiling out of the program's, code, calls. No condition. -/
import Derived.Test.YtjnejkganejdbaaVmB
namespace Go.Vm
set_option linter.unusedVariables false

abbrev CallT := Id → List AV → St → R
abbrev OpF := CallT → Fr AV → St → R

/-- What a value lays down. -/
noncomputable def AV.lay (v : AV) (k : List AV → R) : R := v.onCells (k [v]) k fun _ => .no
noncomputable def AV.cells (v : AV) : List AV := v.onCells [v] (fun cs => cs) (fun _ => [])
noncomputable def iadd (a b : Int) : Int := Int.rec (fun m b => Int.rec (fun n m => .ofNat (Nat.add m n)) (fun n m => Int.subNatNat m (Nat.succ n)) b m) (fun m b => Int.rec (fun n m => Int.subNatNat n (Nat.succ m)) (fun n m => .negSucc (Nat.succ (Nat.add m n))) b m) a b
noncomputable def ineg (a : Int) : Int := Int.rec (fun m => Nat.rec (.ofNat 0) (fun n _ => .negSucc n) m) (fun m => .ofNat (Nat.succ m)) a
theorem iadd_eq (a b : Int) : iadd a b = a + b := by cases a <;> cases b <;> rfl
theorem ineg_eq (a : Int) : ineg a = -a := by
  cases a with
  | ofNat m => cases m <;> rfl
  | negSucc m => rfl
/-- An index below n. -/
noncomputable def AV.idx (v : AV) (n : Nat) (k : Nat → R) : R := v.onInt .no fun _ i => Int.rec (fun m n k => br (Nat.ble (Nat.succ m) n) (k m) .no) (fun _ _ _ => .no) i n k
/-- A bound of a slice: at most y; d where there is none. -/
noncomputable def bnd (x : Option AV) (y d : Nat) (k : Nat → R) : R := Option.rec (fun _ d k => k d) (fun v y _ k => v.idx (Nat.succ y) k) x y d k
noncomputable def wrap1 (agg : Bool) (sz : Nat) (l : List AV) (s : St) : R :=
  br agg (br (Nat.beq (ln (tk sz l)) sz) (.ok (.agg (tk sz l)) s) .no) (List.rec (fun _ => .no) (fun x _ _ s => .ok x s) l s)
noncomputable def AV.isNil (v : AV) : Bool := v.onNil false true

/-! ### Operations -/
noncomputable def opMv (x : CO) : OpF := fun _ f s => .ok (ev1 f x) s
noncomputable def opMvs (x : CO) : OpF := fun _ f s => (ev1 f x).onStr .no fun l => .ok (.str l) s
noncomputable def opPick (c a b : CO) : OpF := fun _ f s => (ev1 f c).onBool .no fun t => .ok (br t (ev1 f a) (ev1 f b)) s
noncomputable def opBox (x : CO) : OpF := fun _ f s => (ev1 f x).lay fun l => s.alloc (.cells l) fun b s => .ok (.ptr b 0) s
noncomputable def opAlloc (z : List AV) : OpF := fun _ _ s => s.alloc (.cells z) fun b s => .ok (.ptr b 0) s
structure Part where
  off : Nat
  size : Nat
  x : CO
noncomputable def fill (f : Fr AV) (ps : List Part) : List AV → (List AV → R) → R :=
  List.rec (fun z k => k z) (fun p _ ih z k => Part.rec (fun o n x z k ih => (ev1 f x).lay fun l => br (Nat.beq (ln l) n) (br (Nat.ble (Nat.add o n) (ln z)) (ih (splice o l z) k) .no) .no) p z k ih) ps
noncomputable def opBuild (z : List AV) (ps : List Part) : OpF := fun _ f s => fill f ps z fun cs => .ok (.agg cs) s
noncomputable def opBlit (len : Nat) (z : List AV) (ps : List Part) : OpF := fun _ f s =>
  fill f ps (reps len z) fun cs => s.alloc (.cells cs) fun b s => .ok (.sl b 0 len len 0) s
noncomputable def opLoad (agg : Bool) (sz : Nat) (x : CO) : OpF := fun _ f s =>
  (ev1 f x).onPtr .no (fun b o => (s.obj b).onCells .no fun cs => wrap1 agg sz (dr o cs) s) fun cs => wrap1 agg sz cs s
noncomputable def opStore (sz : Nat) (x y : CO) : OpF := fun _ f s =>
  (ev1 f x).onPtr .no (fun b o => (s.obj b).onCells .no fun cs => (ev1 f y).lay fun l => br (Nat.beq (ln l) sz) (br (Nat.ble (Nat.add o sz) (ln cs)) (.ok undef (s.put b (.cells (splice o l cs)))) .no) .no) fun _ => .no
noncomputable def opNilck (x : CO) : OpF := fun _ f s => (ev1 f x).onNil3 (.ok (ev1 f x) s) .no
abbrev IntF := IntKind → Int → IntKind → Int → St → R
noncomputable def iAdd : IntF := fun j a k b s => br (keq j k) (.ok (.int j (wr j (iadd a b))) s) .no
noncomputable def iSub : IntF := fun j a k b s => br (keq j k) (.ok (.int j (wr j (iadd a (ineg b)))) s) .no
noncomputable def iMul : IntF := fun j a k b s => br (keq j k) (.ok (.int j (wr j (Int.mul a b))) s) .no
noncomputable def iQuo : IntF := fun j a k b s => br (keq j k) (br (ieq b 0) .no (.ok (.int j (wr j (a.tdiv b))) s)) .no
noncomputable def iRem : IntF := fun j a k b s => br (keq j k) (br (ieq b 0) .no (.ok (.int j (a.tmod b)) s)) .no
noncomputable def iAnd : IntF := fun j a k b s => br (keq j k) (.ok (.int j (j.wrap ((BitVec.ofInt j.bits a &&& BitVec.ofInt j.bits b).toNat : Int))) s) .no
noncomputable def iOr : IntF := fun j a k b s => br (keq j k) (.ok (.int j (j.wrap ((BitVec.ofInt j.bits a ||| BitVec.ofInt j.bits b).toNat : Int))) s) .no
noncomputable def iXor : IntF := fun j a k b s => br (keq j k) (.ok (.int j (j.wrap ((BitVec.ofInt j.bits a ^^^ BitVec.ofInt j.bits b).toNat : Int))) s) .no
noncomputable def iAndNot : IntF := fun j a k b s => br (keq j k) (.ok (.int j (j.wrap ((BitVec.ofInt j.bits a &&& ~~~BitVec.ofInt j.bits b).toNat : Int))) s) .no
noncomputable def iShl : IntF := fun j a _ b s => br (ilt b 0) .no (.ok (.int j (wr j (a * 2 ^ min b.toNat j.bits))) s)
noncomputable def iShr : IntF := fun j a _ b s => br (ilt b 0) .no (.ok (.int j (a.fdiv (2 ^ min b.toNat j.bits))) s)
noncomputable def iEql : IntF := fun j a k b s => br (keq j k) (.ok (.bool (ieq a b)) s) .no
noncomputable def iNeq : IntF := fun j a k b s => br (keq j k) (.ok (.bool (br (ieq a b) false true)) s) .no
noncomputable def iLss : IntF := fun j a k b s => br (keq j k) (.ok (.bool (ilt a b)) s) .no
noncomputable def iLeq : IntF := fun j a k b s => br (keq j k) (.ok (.bool (br (ilt b a) false true)) s) .no
noncomputable def iGtr : IntF := fun j a k b s => br (keq j k) (.ok (.bool (ilt b a)) s) .no
noncomputable def iGeq : IntF := fun j a k b s => br (keq j k) (.ok (.bool (br (ilt a b) false true)) s) .no
noncomputable def intBin : BinOp → IntF := BinOp.rec iAdd iSub iMul iQuo iRem iAnd iOr iXor iShl iShr iAndNot iEql iNeq iLss iLeq iGtr iGeq
abbrev StrF := List UInt8 → List UInt8 → St → R
noncomputable def sNo : StrF := fun _ _ _ => .no
noncomputable def sAdd : StrF := fun a b s => br (Nat.ble (Nat.add (ln a) (ln b)) 9223372036854775807) (.ok (.str (apd a b)) s) .no
noncomputable def sEql : StrF := fun a b s => .ok (.bool (beqs a b)) s
noncomputable def sNeq : StrF := fun a b s => .ok (.bool (br (beqs a b) false true)) s
noncomputable def sLss : StrF := fun a b s => .ok (.bool (Op.bytesLess a b)) s
noncomputable def sLeq : StrF := fun a b s => .ok (.bool (Op.bytesLess a b || beqs a b)) s
noncomputable def sGtr : StrF := fun a b s => .ok (.bool (!(Op.bytesLess a b || beqs a b))) s
noncomputable def sGeq : StrF := fun a b s => .ok (.bool (!Op.bytesLess a b)) s
noncomputable def strBin : BinOp → StrF := BinOp.rec sAdd sNo sNo sNo sNo sNo sNo sNo sNo sNo sNo sEql sNeq sLss sLeq sGtr sGeq
noncomputable def opBin (op : BinOp) (x y : CO) : OpF := fun _ f s =>
  (ev1 f x).onInt ((ev1 f x).onStr .no fun a => (ev1 f y).onStr .no fun b => strBin op a b s) fun j a => (ev1 f y).onInt .no fun k b => intBin op j a k b s
/-- Bools: alike (or not). -/
noncomputable def opBeq (neg : Bool) (x y : CO) : OpF := fun _ f s => (ev1 f x).onBool .no fun a => (ev1 f y).onBool .no fun b => .ok (.bool (br neg (br a (br b false true) b) (br a b (br b false true)))) s
/-- The forms that are held against nil. -/
inductive NK where
  | sl | ptr | map | fn | ifc
noncomputable def AV.isA (v : AV) : NK → Bool :=
  NK.rec (v.onIsSl false true) (v.onIsPtr false true) (v.onIsMap false true) (v.onIsFn false true) (v.onIsIfc false true)
/-- Against nil: one of both is. -/
noncomputable def opNeq (neg : Bool) (k : NK) (x y : CO) : OpF := fun _ f s =>
  br ((ev1 f x).isA k) (br ((ev1 f y).isA k) (br (ev1 f x).isNil (.ok (.bool (br neg (br (ev1 f y).isNil false true) (ev1 f y).isNil)) s) (br (ev1 f y).isNil (.ok (.bool neg) s) .no)) .no) .no
noncomputable def opNeg (x : CO) : OpF := fun _ f s => (ev1 f x).onInt .no fun k n => .ok (.int k (wr k (ineg n))) s
noncomputable def opNot (x : CO) : OpF := fun _ f s => (ev1 f x).onBool .no fun b => .ok (.bool (br b false true)) s
noncomputable def opConv (k : IntKind) (x : CO) : OpF := fun _ f s => (ev1 f x).onInt .no fun _ n => .ok (.int k (wr k n)) s
noncomputable def byteCells (l : List UInt8) : List AV := List.rec [] (fun c _ ih => .int .u8 (.ofNat c.toNat) :: ih) l
noncomputable def opToBytes (x : CO) : OpF := fun _ f s => (ev1 f x).onStr .no fun l => .ok (.ts (byteCells l) (ln l) (ln l) false) s
noncomputable def cellBytes (l : List AV) (k : List UInt8 → R) : R :=
  List.rec (fun k => k []) (fun v _ ih k => v.onInt .no fun j n => br (keq j .u8) (ih fun r => k (UInt8.ofNat n.toNat :: r)) .no) l k
noncomputable def opToStr (x : CO) : OpF := fun _ f s =>
  (ev1 f x).onSl .no (.ok (.str []) s) (fun b o l _ _ => (s.obj b).onCells .no fun cs => br (Nat.ble (Nat.add o l) (ln cs)) (cellBytes (tk l (dr o cs)) fun r => .ok (.str r) s) .no) fun cs l _ _ => br (Nat.beq l (ln cs)) (cellBytes cs fun r => .ok (.str r) s) .no
noncomputable def opMkif (t : TypeId) (x : CO) : OpF := fun _ f s => .ok (.ifc t (ev1 f x)) s
noncomputable def opMkfn (g : Id) (a b : List CO) : OpF := fun _ f s => .ok (.fn g (evs f a) (evs f b)) s
noncomputable def opMkmap : OpF := fun _ _ s => s.alloc (.map []) fun b s => .ok (.map b) s
def limit : Nat := 140737488355328
noncomputable def opMksl (bytes : Nat) (z : List AV) (l c : CO) : OpF := fun _ f s =>
  (ev1 f l).idx limit fun l => (ev1 f c).idx limit fun c => br (Nat.ble l c) (br (Nat.ble (Nat.mul c bytes) limit) (s.alloc (.cells (reps c z)) fun b s => .ok (.sl b 0 l c 0) s) .no) .no
noncomputable def opSslice (x : CO) (lo hi : Option CO) : OpF := fun _ f s =>
  (ev1 f x).onStr .no fun l => bnd (evo f hi) (ln l) (ln l) fun h => bnd (evo f lo) h 0 fun lo => .ok (.str (dr lo (tk h l))) s
noncomputable def opSlice (sz : Nat) (x : CO) (lo hi mx : Option CO) : OpF := fun _ f s =>
  (ev1 f x).onSl .no
    (bnd (evo f mx) 0 0 fun m => bnd (evo f hi) m 0 fun h => bnd (evo f lo) h 0 fun _ => .ok .nils s)
    (fun b o len cap ex => bnd (evo f mx) cap cap fun m => bnd (evo f hi) m len fun h => bnd (evo f lo) h 0 fun l =>
      br (br (Nat.beq ex 0) true (br mx.isSome true (Nat.ble (Nat.succ l) cap)))
        (br (br (Nat.beq ex 0) true (br mx.isSome true (Nat.beq ex sz))) (.ok (.sl b (br (Nat.beq m l) o (Nat.add o (Nat.mul l sz))) (Nat.sub h l) (Nat.sub m l) (br mx.isSome 0 ex)) s) .no)
        (.ok (.ts [] 0 0 false) s))
    fun cs len cap ex => bnd (evo f mx) cap cap fun m => bnd (evo f hi) (Nat.min m len) len fun h => bnd (evo f lo) h 0 fun l =>
      .ok (.ts (dr (Nat.mul l sz) (tk (Nat.mul h sz) cs)) (Nat.sub h l) (Nat.sub m l) (br ex true mx.isSome)) s
noncomputable def opFaddr (off : Nat) (x : CO) : OpF := fun _ f s => (ev1 f x).onPtr .no (fun b o => .ok (.ptr b (Nat.add o off)) s) fun cs => .ok (.tp (dr off cs)) s
noncomputable def opField (agg : Bool) (off sz : Nat) (x : CO) : OpF := fun _ f s => (ev1 f x).onAgg .no fun cs => wrap1 agg sz (dr off cs) s
noncomputable def opIaddr (sz : Nat) (x i : CO) : OpF := fun _ f s =>
  (ev1 f x).onSl .no .no (fun b o len _ _ => (ev1 f i).idx len fun m => .ok (.ptr b (Nat.add o (Nat.mul m sz))) s) fun cs len _ _ => (ev1 f i).idx len fun m => .ok (.tp (dr (Nat.mul m sz) cs)) s
noncomputable def opSidx (x i : CO) : OpF := fun _ f s => (ev1 f x).onStr .no fun l => (ev1 f i).idx (ln l) fun m => Option.rec .no (fun c => .ok (.int .u8 (.ofNat (UInt8.toNat c))) s) (nth m l)
noncomputable def opAidx (agg : Bool) (len sz : Nat) (x i : CO) : OpF := fun _ f s => (ev1 f x).onAgg .no fun cs => (ev1 f i).idx len fun m => wrap1 agg sz (dr (Nat.mul m sz) cs) s
noncomputable def keyEq (a b : AV) (d y n : R) : R :=
  a.onInt (a.onStr d fun p => b.onStr d fun q => br (beqs p q) y n) fun j p => b.onInt d fun k q => br (keq j k) (br (ieq p q) y n) d
noncomputable def mget (es : List (AV × AV)) (k : AV) (z : R) (yes : AV → R) : R := List.rec z (fun e _ ih => Prod.rec (fun a v ih => keyEq k a .no (yes v) ih) e ih) es
noncomputable def mput (es : List (AV × AV)) (k v : AV) (c : List (AV × AV) → R) : R :=
  List.rec (fun c => c [(k, v)]) (fun e r ih c => Prod.rec (fun a v' ih c => keyEq k a .no (c ((k, v) :: r)) (ih fun r => c ((a, v') :: r))) e ih c) es c
noncomputable def looked (ok : Bool) (b : Bool) (v : AV) (s : St) : R := br ok (.ok (.tup [v, .bool b]) s) (.ok v s)
noncomputable def isKey (str : Bool) (k : AV) (r : R) : R := br str (k.onStr .no fun _ => r) (k.onInt .no fun _ _ => r)
noncomputable def opLookup (str : Bool) (z : AV) (x k : CO) (ok : Bool) : OpF := fun _ f s => isKey str (ev1 f k)
  ((ev1 f x).onMap .no (looked ok false z s) fun b => (s.obj b).onMap .no fun es => mget es (ev1 f k) (looked ok false z s) fun v => looked ok true v s)
noncomputable def opMupd (str : Bool) (x k v : CO) : OpF := fun _ f s => isKey str (ev1 f k)
  ((ev1 f x).onMap .no .no fun b => (s.obj b).onMap .no fun es => mput es (ev1 f k) (ev1 f v) fun es => .ok undef (s.put b (.map es)))
noncomputable def opExt (x : CO) (i : Nat) : OpF := fun _ f s => (ev1 f x).onTup .no fun vs => Option.rec .no (fun v => .ok v s) (nth i vs)
noncomputable def opCallf (g : Id) (as : List CO) : OpF := fun call f s => call g (evs f as) s
noncomputable def opCallv (g : CO) (as : List CO) : OpF := fun call f s => (ev1 f g).onFn .no fun g a b => call g (apd a (apd (evs f as) b)) s
noncomputable def opLens (x : CO) : OpF := fun _ f s => (ev1 f x).onStr .no fun l => .ok (.int .i64 (.ofNat (ln l))) s
noncomputable def opLenm (x : CO) : OpF := fun _ f s => (ev1 f x).onMap .no (.ok (.int .i64 0) s) fun b => (s.obj b).onMap .no fun es => .ok (.int .i64 (.ofNat (ln es))) s
noncomputable def opLen (x : CO) : OpF := fun _ f s =>
  (ev1 f x).onSl .no (.ok (.int .i64 0) s) (fun _ _ l _ _ => .ok (.int .i64 (.ofNat l)) s) fun _ l _ _ => .ok (.int .i64 (.ofNat l)) s
noncomputable def opCap (x : CO) : OpF := fun _ f s =>
  (ev1 f x).onSl .no (.ok (.int .i64 0) s) (fun _ _ _ c ex => br (Nat.beq ex 0) (.ok (.int .i64 (.ofNat c)) s) .no) fun _ _ c ex => br ex (.ok (.int .i64 (.ofNat c)) s) .no
/-- What is appended: so many, their cells. -/
noncomputable def srcOf (s : St) (sz : Nat) (y : AV) (k : Nat → List AV → R) : R :=
  y.onSl (y.onStr .no fun l => br (Nat.beq sz 1) (k (ln l) (byteCells l)) .no) (k 0 [])
    (fun b o l _ _ => (s.obj b).onCells .no fun cs => br (Nat.ble (Nat.add o (Nat.mul l sz)) (ln cs)) (k l (tk (Nat.mul l sz) (dr o cs))) .no)
    fun cs l _ _ => br (Nat.beq (ln cs) (Nat.mul l sz)) (k l cs) .no
noncomputable def grown (s : St) (sz bytes m : Nat) (cs : List AV) : R :=
  br (Nat.ble (Nat.mul m bytes) limit) (br (Nat.ble m limit) (s.alloc (.cells cs) fun b s => .ok (.sl b 0 m m sz) s) .no) .no
noncomputable def opApp (sz bytes : Nat) (x y : CO) : OpF := fun _ f s =>
  srcOf s sz (ev1 f y) fun n new =>
  (ev1 f x).onSl .no
    (br (Nat.beq n 0) (.ok .nils s) (grown s sz bytes n new))
    (fun b o len cap ex => (s.obj b).onCells .no fun cs => br (Nat.ble (Nat.add o (Nat.mul cap sz)) (ln cs))
      (br (Nat.ble (Nat.add len n) cap) (.ok (.sl b o (Nat.add len n) cap ex) (s.put b (.cells (splice (Nat.add o (Nat.mul len sz)) new cs))))
        (br (Nat.beq ex 0) (grown s sz bytes (Nat.add len n) (apd (tk (Nat.mul len sz) (dr o cs)) new))
          (br (Nat.beq ex sz) (grown (s.put b .dead) sz bytes (Nat.add len n) (apd (tk (Nat.mul len sz) (dr o cs)) new)) .no))) .no)
    fun cs len cap ex => br (Nat.beq n 0) (.ok (ev1 f x) s)
      (br ex (br (Nat.ble (Nat.succ cap) (Nat.add len n)) (br (Nat.beq (ln cs) (Nat.mul len sz)) (grown s sz bytes (Nat.add len n) (apd cs new)) .no) .no) .no)
noncomputable def best (mx : Bool) (a b : Int) : Int := br mx (br (ilt a b) b a) (br (ilt b a) b a)
noncomputable def opMm (mx : Bool) (x : CO) (r : List CO) : OpF := fun _ f s =>
  List.rec (fun v => .ok v s) (fun y _ ih v => v.onInt .no fun j a => (ev1 f y).onInt .no fun k b => ih (.int j (best mx a b))) r (ev1 f x)

inductive COp where
  | mv (x : CO)
  | mvs (x : CO)
  | pick (c a b : CO)
  | box (x : CO)
  | alloc (z : List AV)
  | build (z : List AV) (ps : List Part)
  | blit (len : Nat) (z : List AV) (ps : List Part)
  | load (agg : Bool) (sz : Nat) (x : CO)
  | store (sz : Nat) (x y : CO)
  | nilck (x : CO)
  | bin (op : BinOp) (x y : CO)
  | beq (neg : Bool) (x y : CO)
  | nileq (neg : Bool) (k : NK) (x y : CO)
  | neg (x : CO)
  | not (x : CO)
  | conv (k : IntKind) (x : CO)
  | tobytes (x : CO)
  | tostr (x : CO)
  | mkif (t : TypeId) (x : CO)
  | mkfn (g : Id) (a b : List CO)
  | mkmap
  | mksl (bytes : Nat) (z : List AV) (l c : CO)
  | slice (sz : Nat) (x : CO) (lo hi mx : Option CO)
  | sslice (x : CO) (lo hi : Option CO)
  | faddr (off : Nat) (x : CO)
  | field (agg : Bool) (off sz : Nat) (x : CO)
  | iaddr (sz : Nat) (x i : CO)
  | sidx (x i : CO)
  | aidx (agg : Bool) (len sz : Nat) (x i : CO)
  | lookup (str : Bool) (z : AV) (x k : CO) (ok : Bool)
  | mupd (str : Bool) (x k v : CO)
  | ext (x : CO) (i : Nat)
  | callf (g : Id) (as : List CO)
  | callv (g : CO) (as : List CO)
  | lens (x : CO)
  | lenm (x : CO)
  | len (x : CO)
  | cap (x : CO)
  | app (sz bytes : Nat) (x y : CO)
  | mm (mx : Bool) (x : CO) (r : List CO)
noncomputable def exop : COp → OpF :=
  COp.rec opMv opMvs opPick opBox opAlloc opBuild opBlit opLoad opStore opNilck opBin opBeq opNeq opNeg opNot opConv opToBytes opToStr opMkif opMkfn opMkmap opMksl opSlice opSslice opFaddr opField opIaddr opSidx opAidx opLookup opMupd opExt opCallf opCallv opLens opLenm opLen opCap opApp opMm

/-! ### Compiling -/
section
variable (P : Program)
noncomputable def valAt1 : Value → Option AV
  | .bool b => some (.bool b)
  | .int k n => some (.int k n)
  | .string s => some (.str s.data.toList)
  | .pointer none => some .nilp
  | .slice none 0 0 => some .nils
  | .map none => some .nilm
  | .nilFunc => some .nilf
  | .nilIface => some .nili
  | _ => none
noncomputable def valAt : Value → Option AV
  | .agg cs => (cs.toList.mapM valAt1).map .agg
  | v => valAt1 v
noncomputable def cod : Operand → Option CO
  | .tmp t => if t < 256 then some (.t (.ofNat t)) else none
  | .const v => (valAt v).map .c
  | .func f => if f < 65536 then some (.c (.fn (.ofNat f) [] [])) else none
  | .global _ => none
noncomputable def codo : Option Operand → Option (Option CO)
  | none => some none
  | some x => (cod x).map some
/-- A type's zero value, as cells. -/
noncomputable def zeroAt (t : TypeId) : Option (List AV) := do
  let i ← P.info? t
  let z ← i.zero
  let v ← valAt z
  if v.cells.length = i.size ∧ 0 < i.size then some v.cells else none
noncomputable def aggAt (t : TypeId) : Option Bool := do
  match ← P.underlying t with
  | .struct _ | .array _ _ => some true
  | _ => some false
noncomputable def sizeAt (t : TypeId) : Option Nat := (P.info? t).map (·.size)
noncomputable def partsAt (place : Nat → Option (Nat × Nat)) : List (Nat × Operand) → Option (List Part)
  | [] => some []
  | (i, x) :: r => do
    let p ← place i
    let c ← cod x
    let l ← partsAt place r
    some (⟨p.1, p.2, c⟩ :: l)
/-- How two values of a type are compared. -/
inductive Cmp where
  | num | bool
  | nil (k : NK)
noncomputable def cmpAt (t : TypeId) : Option Cmp := do
  match ← P.underlying t with
  | .int _ | .string => some .num
  | .bool => some .bool
  | .slice _ => some (.nil .sl)
  | .pointer _ => some (.nil .ptr)
  | .map _ _ => some (.nil .map)
  | .func _ _ _ => some (.nil .fn)
  | .interface _ => some (.nil .ifc)
  | _ => none
noncomputable def isConst : Operand → Bool
  | .const _ => true
  | _ => false
noncomputable def copBin (op : BinOp) (t : TypeId) (x y : Operand) : Option COp := do
  let a ← cod x
  let b ← cod y
  match ← cmpAt P t with
  | .num => some (.bin op a b)
  | .bool => match op with | .eql => some (.beq false a b) | .neq => some (.beq true a b) | _ => none
  | .nil k => if isConst x || isConst y then (match op with | .eql => some (.nileq false k a b) | .neq => some (.nileq true k a b) | _ => none) else none
noncomputable def copConv (s d : TypeId) (x : Operand) : Option COp := do
  let a ← cod x
  match ← P.underlying s, ← P.underlying d with
  | .int _, .int k => some (.conv k a)
  | .string, .string => some (.mvs a)
  | .string, .slice e => match ← P.underlying e with | .int .u8 => some (.tobytes a) | _ => none
  | .slice e, .string => match ← P.underlying e with | .int .u8 => some (.tostr a) | _ => none
  | _, _ => none
noncomputable def copCall (c : Call) : Option COp := do
  match c.callee with
  | .value (.func f) => if f < 65536 then some (.callf (.ofNat f) (← c.args.toList.mapM cod)) else none
  | .value x => some (.callv (← cod x) (← c.args.toList.mapM cod))
  | .builtin .len => do
    match c.args.toList, c.argTypes.toList with
    | [x], [t] => match ← P.underlying t with | .string => some (.lens (← cod x)) | .slice _ => some (.len (← cod x)) | .map _ _ => some (.lenm (← cod x)) | _ => none
    | _, _ => none
  | .builtin .cap => do
    match c.args.toList, c.argTypes.toList with
    | [x], [t] => match ← P.underlying t with | .slice _ => some (.cap (← cod x)) | _ => none
    | _, _ => none
  | .builtin .max => match c.args.toList with | x :: r => some (.mm true (← cod x) (← r.mapM cod)) | [] => none
  | .builtin .min => match c.args.toList with | x :: r => some (.mm false (← cod x) (← r.mapM cod)) | [] => none
  | .builtin .append => do
    match c.args.toList, c.argTypes.toList with
    | [x, y], [t, u] =>
      match ← P.underlying t with
      | .slice e =>
        let i ← P.info? e
        let z ← zeroAt P e
        match ← P.underlying u with
        | .slice _ => some (.app i.size i.bytes (← cod x) (← cod y))
        | .string => if i.size = 1 then some (.app i.size i.bytes (← cod x) (← cod y)) else none
        | _ => none
      | _ => none
    | _, _ => none
  | _ => none
noncomputable def cop (o : Op) : Option COp :=
  match o with
  | .move x | .assign x => (cod x).map .mv
  | .pick c a b => do some (.pick (← cod c) (← cod a) (← cod b))
  | .alloc e => (zeroAt P e).map .alloc
  | .box _ v => (cod v).map .box
  | .build t ps => do
    let z ← zeroAt P t
    match ← P.underlying t with
    | .struct fs => do
      let places ← fs.toList.mapM fun f => (P.info? f.type).map fun i => (f.offset, i.size)
      some (.build z (← partsAt (places.toArray[·]?) ps.toList))
    | _ => none
  | .buildSlice t len ps => do
    match ← P.underlying t with
    | .slice e => do
      let sz ← sizeAt P e
      let z ← zeroAt P e
      if len * sz ≤ 16777216 then some (.blit len z (← partsAt (fun i => some (i * sz, sz)) ps.toList)) else none
    | _ => none
  | .load t x => do some (.load (← aggAt P t) (← sizeAt P t) (← cod x))
  | .store t x y => do some (.store (← sizeAt P t) (← cod x) (← cod y))
  | .nilCheck x => (cod x).map .nilck
  | .binOp op t x y _ => copBin P op t x y
  | .unOp .neg _ x => (cod x).map .neg
  | .unOp .not _ x => (cod x).map .not
  | .convert s d x => copConv P s d x
  | .makeInterface t x => do
    match ← P.underlying t with
    | .interface _ => none
    | _ => some (.mkif t (← cod x))
  | .makeFunc (.func f) a b => do if f < 65536 then some (.mkfn (.ofNat f) (← a.toList.mapM cod) (← b.toList.mapM cod)) else none
  | .makeMap _ none => some .mkmap
  | .makeSlice t l c => do
    match ← P.underlying t with
    | .slice e => do
      let i ← P.info? e
      some (.mksl i.bytes (← zeroAt P e) (← cod l) (← cod c))
    | _ => none
  | .slice t x lo hi mx => do
    match ← P.underlying t with
    | .slice e => do
      let sz ← sizeAt P e
      if mx.isSome && !hi.isSome then none else some (.slice sz (← cod x) (← codo lo) (← codo hi) (← codo mx))
    | .string => if mx.isSome then none else some (.sslice (← cod x) (← codo lo) (← codo hi))
    | _ => none
  | .fieldAddr s x i => do
    match ← P.underlying s with
    | .struct fs => do
      let f ← fs[i]?
      let sz ← sizeAt P f.type
      if sz = 0 then none else some (.faddr f.offset (← cod x))
    | _ => none
  | .field s x i => do
    match ← P.underlying s with
    | .struct fs => do
      let f ← fs[i]?
      some (.field (← aggAt P f.type) f.offset (← sizeAt P f.type) (← cod x))
    | _ => none
  | .indexAddr t x i => do
    match ← P.underlying t with
    | .slice e => do some (.iaddr (← sizeAt P e) (← cod x) (← cod i))
    | _ => none
  | .index t x i => do
    match ← P.underlying t with
    | .string => some (.sidx (← cod x) (← cod i))
    | .array n e => some (.aidx (← aggAt P e) n (← sizeAt P e) (← cod x) (← cod i))
    | _ => none
  | .lookup t x k ok => do
    match ← P.underlying t with
    | .map kt e => do
      let i ← P.info? e
      let z ← i.zero
      let v ← valAt z
      match ← P.underlying kt with
      | .int _ => some (.lookup false v (← cod x) (← cod k) ok)
      | .string => some (.lookup true v (← cod x) (← cod k) ok)
      | _ => none
    | _ => none
  | .mapUpdate t m k v => do
    match ← P.underlying t with
    | .map kt _ => do
      match ← P.underlying kt with
      | .int _ => some (.mupd false (← cod m) (← cod k) (← cod v))
      | .string => some (.mupd true (← cod m) (← cod k) (← cod v))
      | _ => none
    | _ => none
  | .extract x i => do some (.ext (← cod x) i)
  | .call c => copCall P c
  | _ => none
end
end Go.Vm
