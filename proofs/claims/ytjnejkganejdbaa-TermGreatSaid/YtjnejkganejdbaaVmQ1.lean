/- The abstract machine again, its tables at one type each: the kernel goes faster so. Each is the same as before. No condition. -/
import Derived.Test.YtjnejkganejdbaaVmD
namespace Go.Vm
set_option linter.unusedVariables false
noncomputable def AV.qBool : AV → R → (Bool → R) → R := AV.rec (motive_1 := fun _ => R → (Bool → R) → R) (motive_2 := fun _ => Unit) (fun b _ h => h b) (fun _ _ d _ => d) (fun _ d _ => d) (fun d _ => d) (fun _ _ d _ => d) (fun _ _ d _ => d) (fun d _ => d) (fun _ _ _ _ _ d _ => d) (fun _ _ _ _ _ d _ => d) (fun d _ => d) (fun _ d _ => d) (fun d _ => d) (fun _ _ _ _ _ d _ => d) (fun d _ => d) (fun _ _ _ d _ => d) (fun _ _ d _ => d) (fun _ _ d _ => d) () (fun _ _ _ _ => ())
noncomputable def AV.qInt : AV → R → (IntKind → Int → R) → R := AV.rec (motive_1 := fun _ => R → (IntKind → Int → R) → R) (motive_2 := fun _ => Unit) (fun _ d _ => d) (fun k n _ h => h k n) (fun _ d _ => d) (fun d _ => d) (fun _ _ d _ => d) (fun _ _ d _ => d) (fun d _ => d) (fun _ _ _ _ _ d _ => d) (fun _ _ _ _ _ d _ => d) (fun d _ => d) (fun _ d _ => d) (fun d _ => d) (fun _ _ _ _ _ d _ => d) (fun d _ => d) (fun _ _ _ d _ => d) (fun _ _ d _ => d) (fun _ _ d _ => d) () (fun _ _ _ _ => ())
noncomputable def AV.qStr : AV → R → (List UInt8 → R) → R := AV.rec (motive_1 := fun _ => R → (List UInt8 → R) → R) (motive_2 := fun _ => Unit) (fun _ d _ => d) (fun _ _ d _ => d) (fun s _ h => h s) (fun d _ => d) (fun _ _ d _ => d) (fun _ _ d _ => d) (fun d _ => d) (fun _ _ _ _ _ d _ => d) (fun _ _ _ _ _ d _ => d) (fun d _ => d) (fun _ d _ => d) (fun d _ => d) (fun _ _ _ _ _ d _ => d) (fun d _ => d) (fun _ _ _ d _ => d) (fun _ _ d _ => d) (fun _ _ d _ => d) () (fun _ _ _ _ => ())
noncomputable def AV.qPtr : AV → R → (Id → Nat → R) → (List AV → R) → R := AV.rec (motive_1 := fun _ => R → (Id → Nat → R) → (List AV → R) → R) (motive_2 := fun _ => Unit) (fun _ d _ _ => d) (fun _ _ d _ _ => d) (fun _ d _ _ => d) (fun d _ _ => d) (fun b o _ h _ => h b o) (fun cs _ _ _ g => g cs) (fun d _ _ => d) (fun _ _ _ _ _ d _ _ => d) (fun _ _ _ _ _ d _ _ => d) (fun d _ _ => d) (fun _ d _ _ => d) (fun d _ _ => d) (fun _ _ _ _ _ d _ _ => d) (fun d _ _ => d) (fun _ _ _ d _ _ => d) (fun _ _ d _ _ => d) (fun _ _ d _ _ => d) () (fun _ _ _ _ => ())
noncomputable def AV.qSl : AV → R → R → (Id → Nat → Nat → Nat → Nat → R) → (List AV → Nat → Nat → Bool → R) → R := AV.rec (motive_1 := fun _ => R → R → (Id → Nat → Nat → Nat → Nat → R) → (List AV → Nat → Nat → Bool → R) → R) (motive_2 := fun _ => Unit) (fun _ d _ _ _ => d) (fun _ _ d _ _ _ => d) (fun _ d _ _ _ => d) (fun d _ _ _ => d) (fun _ _ d _ _ _ => d) (fun _ _ d _ _ _ => d) (fun _ e _ _ => e) (fun b o len cap ex _ _ h _ => h b o len cap ex) (fun cs len cap ex _ _ _ _ g => g cs len cap ex) (fun d _ _ _ => d) (fun _ d _ _ _ => d) (fun d _ _ _ => d) (fun _ _ _ _ _ d _ _ _ => d) (fun d _ _ _ => d) (fun _ _ _ d _ _ _ => d) (fun _ _ d _ _ _ => d) (fun _ _ d _ _ _ => d) () (fun _ _ _ _ => ())
noncomputable def AV.qMap : AV → R → R → (Id → R) → R := AV.rec (motive_1 := fun _ => R → R → (Id → R) → R) (motive_2 := fun _ => Unit) (fun _ d _ _ => d) (fun _ _ d _ _ => d) (fun _ d _ _ => d) (fun d _ _ => d) (fun _ _ d _ _ => d) (fun _ _ d _ _ => d) (fun d _ _ => d) (fun _ _ _ _ _ d _ _ => d) (fun _ _ _ _ _ d _ _ => d) (fun _ e _ => e) (fun b _ _ h => h b) (fun d _ _ => d) (fun _ _ _ _ _ d _ _ => d) (fun d _ _ => d) (fun _ _ _ d _ _ => d) (fun _ _ d _ _ => d) (fun _ _ d _ _ => d) () (fun _ _ _ _ => ())
noncomputable def AV.qFn : AV → R → (Id → List AV → List AV → R) → R := AV.rec (motive_1 := fun _ => R → (Id → List AV → List AV → R) → R) (motive_2 := fun _ => Unit) (fun _ d _ => d) (fun _ _ d _ => d) (fun _ d _ => d) (fun d _ => d) (fun _ _ d _ => d) (fun _ _ d _ => d) (fun d _ => d) (fun _ _ _ _ _ d _ => d) (fun _ _ _ _ _ d _ => d) (fun d _ => d) (fun _ d _ => d) (fun d _ => d) (fun f first cap _ _ _ h => h f first cap) (fun d _ => d) (fun _ _ _ d _ => d) (fun _ _ d _ => d) (fun _ _ d _ => d) () (fun _ _ _ _ => ())
noncomputable def AV.qAgg : AV → R → (List AV → R) → R := AV.rec (motive_1 := fun _ => R → (List AV → R) → R) (motive_2 := fun _ => Unit) (fun _ d _ => d) (fun _ _ d _ => d) (fun _ d _ => d) (fun d _ => d) (fun _ _ d _ => d) (fun _ _ d _ => d) (fun d _ => d) (fun _ _ _ _ _ d _ => d) (fun _ _ _ _ _ d _ => d) (fun d _ => d) (fun _ d _ => d) (fun d _ => d) (fun _ _ _ _ _ d _ => d) (fun d _ => d) (fun _ _ _ d _ => d) (fun cs _ _ h => h cs) (fun _ _ d _ => d) () (fun _ _ _ _ => ())
noncomputable def AV.qTup : AV → R → (List AV → R) → R := AV.rec (motive_1 := fun _ => R → (List AV → R) → R) (motive_2 := fun _ => Unit) (fun _ d _ => d) (fun _ _ d _ => d) (fun _ d _ => d) (fun d _ => d) (fun _ _ d _ => d) (fun _ _ d _ => d) (fun d _ => d) (fun _ _ _ _ _ d _ => d) (fun _ _ _ _ _ d _ => d) (fun d _ => d) (fun _ d _ => d) (fun d _ => d) (fun _ _ _ _ _ d _ => d) (fun d _ => d) (fun _ _ _ d _ => d) (fun _ _ d _ => d) (fun vs _ _ h => h vs) () (fun _ _ _ _ => ())
noncomputable def AV.qCells : AV → R → (List AV → R) → (List AV → R) → R := AV.rec (motive_1 := fun _ => R → (List AV → R) → (List AV → R) → R) (motive_2 := fun _ => Unit) (fun _ d _ _ => d) (fun _ _ d _ _ => d) (fun _ d _ _ => d) (fun d _ _ => d) (fun _ _ d _ _ => d) (fun _ _ d _ _ => d) (fun d _ _ => d) (fun _ _ _ _ _ d _ _ => d) (fun _ _ _ _ _ d _ _ => d) (fun d _ _ => d) (fun _ d _ _ => d) (fun d _ _ => d) (fun _ _ _ _ _ d _ _ => d) (fun d _ _ => d) (fun _ _ _ d _ _ => d) (fun cs _ _ h _ => h cs) (fun vs _ _ _ g => g vs) () (fun _ _ _ _ => ())
noncomputable def AV.qNil3 : AV → R → R → R := AV.rec (motive_1 := fun _ => R → R → R) (motive_2 := fun _ => Unit) (fun _ d _ => d) (fun _ _ d _ => d) (fun _ d _ => d) (fun _ e => e) (fun _ _ d _ => d) (fun _ _ d _ => d) (fun d _ => d) (fun _ _ _ _ _ d _ => d) (fun _ _ _ _ _ d _ => d) (fun d _ => d) (fun _ d _ => d) (fun _ e => e) (fun _ _ _ _ _ d _ => d) (fun _ e => e) (fun _ _ _ d _ => d) (fun _ _ d _ => d) (fun _ _ d _ => d) () (fun _ _ _ _ => ())
noncomputable def AV.pBool : AV → Bool → (Bool → Bool) → Bool := AV.rec (motive_1 := fun _ => Bool → (Bool → Bool) → Bool) (motive_2 := fun _ => Unit) (fun b _ h => h b) (fun _ _ d _ => d) (fun _ d _ => d) (fun d _ => d) (fun _ _ d _ => d) (fun _ _ d _ => d) (fun d _ => d) (fun _ _ _ _ _ d _ => d) (fun _ _ _ _ _ d _ => d) (fun d _ => d) (fun _ d _ => d) (fun d _ => d) (fun _ _ _ _ _ d _ => d) (fun d _ => d) (fun _ _ _ d _ => d) (fun _ _ d _ => d) (fun _ _ d _ => d) () (fun _ _ _ _ => ())
noncomputable def AV.pNil : AV → Bool → Bool → Bool := AV.rec (motive_1 := fun _ => Bool → Bool → Bool) (motive_2 := fun _ => Unit) (fun _ d _ => d) (fun _ _ d _ => d) (fun _ d _ => d) (fun _ e => e) (fun _ _ d _ => d) (fun _ _ d _ => d) (fun _ e => e) (fun _ _ _ _ _ d _ => d) (fun _ _ _ _ _ d _ => d) (fun _ e => e) (fun _ d _ => d) (fun _ e => e) (fun _ _ _ _ _ d _ => d) (fun _ e => e) (fun _ _ _ d _ => d) (fun _ _ d _ => d) (fun _ _ d _ => d) () (fun _ _ _ _ => ())
noncomputable def AV.pIsSl : AV → Bool → Bool → Bool := AV.rec (motive_1 := fun _ => Bool → Bool → Bool) (motive_2 := fun _ => Unit) (fun _ d _ => d) (fun _ _ d _ => d) (fun _ d _ => d) (fun d _ => d) (fun _ _ d _ => d) (fun _ _ d _ => d) (fun _ e => e) (fun b o len cap ex _ e => e) (fun cs len cap ex _ _ e => e) (fun d _ => d) (fun _ d _ => d) (fun d _ => d) (fun _ _ _ _ _ d _ => d) (fun d _ => d) (fun _ _ _ d _ => d) (fun _ _ d _ => d) (fun _ _ d _ => d) () (fun _ _ _ _ => ())
noncomputable def AV.pIsPtr : AV → Bool → Bool → Bool := AV.rec (motive_1 := fun _ => Bool → Bool → Bool) (motive_2 := fun _ => Unit) (fun _ d _ => d) (fun _ _ d _ => d) (fun _ d _ => d) (fun _ e => e) (fun b o _ e => e) (fun cs _ _ e => e) (fun d _ => d) (fun _ _ _ _ _ d _ => d) (fun _ _ _ _ _ d _ => d) (fun d _ => d) (fun _ d _ => d) (fun d _ => d) (fun _ _ _ _ _ d _ => d) (fun d _ => d) (fun _ _ _ d _ => d) (fun _ _ d _ => d) (fun _ _ d _ => d) () (fun _ _ _ _ => ())
noncomputable def AV.pIsMap : AV → Bool → Bool → Bool := AV.rec (motive_1 := fun _ => Bool → Bool → Bool) (motive_2 := fun _ => Unit) (fun _ d _ => d) (fun _ _ d _ => d) (fun _ d _ => d) (fun d _ => d) (fun _ _ d _ => d) (fun _ _ d _ => d) (fun d _ => d) (fun _ _ _ _ _ d _ => d) (fun _ _ _ _ _ d _ => d) (fun _ e => e) (fun b _ e => e) (fun d _ => d) (fun _ _ _ _ _ d _ => d) (fun d _ => d) (fun _ _ _ d _ => d) (fun _ _ d _ => d) (fun _ _ d _ => d) () (fun _ _ _ _ => ())
noncomputable def AV.pIsFn : AV → Bool → Bool → Bool := AV.rec (motive_1 := fun _ => Bool → Bool → Bool) (motive_2 := fun _ => Unit) (fun _ d _ => d) (fun _ _ d _ => d) (fun _ d _ => d) (fun d _ => d) (fun _ _ d _ => d) (fun _ _ d _ => d) (fun d _ => d) (fun _ _ _ _ _ d _ => d) (fun _ _ _ _ _ d _ => d) (fun d _ => d) (fun _ d _ => d) (fun _ e => e) (fun f first cap _ _ _ e => e) (fun d _ => d) (fun _ _ _ d _ => d) (fun _ _ d _ => d) (fun _ _ d _ => d) () (fun _ _ _ _ => ())
noncomputable def AV.pIsIfc : AV → Bool → Bool → Bool := AV.rec (motive_1 := fun _ => Bool → Bool → Bool) (motive_2 := fun _ => Unit) (fun _ d _ => d) (fun _ _ d _ => d) (fun _ d _ => d) (fun d _ => d) (fun _ _ d _ => d) (fun _ _ d _ => d) (fun d _ => d) (fun _ _ _ _ _ d _ => d) (fun _ _ _ _ _ d _ => d) (fun d _ => d) (fun _ d _ => d) (fun d _ => d) (fun _ _ _ _ _ d _ => d) (fun _ e => e) (fun t v _ _ e => e) (fun _ _ d _ => d) (fun _ _ d _ => d) () (fun _ _ _ _ => ())
noncomputable def AV.rBool : AV → RC → (Bool → RC) → RC := AV.rec (motive_1 := fun _ => RC → (Bool → RC) → RC) (motive_2 := fun _ => Unit) (fun b _ h => h b) (fun _ _ d _ => d) (fun _ d _ => d) (fun d _ => d) (fun _ _ d _ => d) (fun _ _ d _ => d) (fun d _ => d) (fun _ _ _ _ _ d _ => d) (fun _ _ _ _ _ d _ => d) (fun d _ => d) (fun _ d _ => d) (fun d _ => d) (fun _ _ _ _ _ d _ => d) (fun d _ => d) (fun _ _ _ d _ => d) (fun _ _ d _ => d) (fun _ _ d _ => d) () (fun _ _ _ _ => ())
noncomputable def brR (b : Bool) (x y : R) : R := Bool.rec (motive := fun _ => R) y x b
noncomputable def brC (b : Bool) (x y : RC) : RC := Bool.rec (motive := fun _ => RC) y x b
noncomputable def brB (b : Bool) (x y : Bool) : Bool := Bool.rec (motive := fun _ => Bool) y x b
noncomputable def R.qon (r : R) (d : RC) (k : AV → St → RC) : RC := R.rec (motive := fun _ => RC) d k r
noncomputable def RC.qon (r : RC) (d : RC) (k : Fr AV → St → RC) (e : Nat → Fr AV → St → RC) (t : Fr AV → St → RC) : RC := RC.rec (motive := fun _ => RC) d k e t r
noncomputable def AO.qCells : AO → R → (List AV → R) → R := AO.rec (motive := fun _ => R → (List AV → R) → R) (fun cs _ k => k cs) (fun _ d _ => d) (fun d _ => d)
noncomputable def AO.qMap : AO → R → (List (AV × AV) → R) → R := AO.rec (motive := fun _ => R → (List (AV × AV) → R) → R) (fun _ d _ => d) (fun es _ k => k es) (fun d _ => d)
noncomputable def gA0 : F16 (AV) → AV := F16.rec (motive := fun _ => AV) (fun a0 a1 a2 a3 a4 a5 a6 a7 a8 a9 a10 a11 a12 a13 a14 a15 => a0)
noncomputable def gA1 : F16 (AV) → AV := F16.rec (motive := fun _ => AV) (fun a0 a1 a2 a3 a4 a5 a6 a7 a8 a9 a10 a11 a12 a13 a14 a15 => a1)
noncomputable def gA2 : F16 (AV) → AV := F16.rec (motive := fun _ => AV) (fun a0 a1 a2 a3 a4 a5 a6 a7 a8 a9 a10 a11 a12 a13 a14 a15 => a2)
noncomputable def gA3 : F16 (AV) → AV := F16.rec (motive := fun _ => AV) (fun a0 a1 a2 a3 a4 a5 a6 a7 a8 a9 a10 a11 a12 a13 a14 a15 => a3)
noncomputable def gA4 : F16 (AV) → AV := F16.rec (motive := fun _ => AV) (fun a0 a1 a2 a3 a4 a5 a6 a7 a8 a9 a10 a11 a12 a13 a14 a15 => a4)
noncomputable def gA5 : F16 (AV) → AV := F16.rec (motive := fun _ => AV) (fun a0 a1 a2 a3 a4 a5 a6 a7 a8 a9 a10 a11 a12 a13 a14 a15 => a5)
noncomputable def gA6 : F16 (AV) → AV := F16.rec (motive := fun _ => AV) (fun a0 a1 a2 a3 a4 a5 a6 a7 a8 a9 a10 a11 a12 a13 a14 a15 => a6)
noncomputable def gA7 : F16 (AV) → AV := F16.rec (motive := fun _ => AV) (fun a0 a1 a2 a3 a4 a5 a6 a7 a8 a9 a10 a11 a12 a13 a14 a15 => a7)
noncomputable def gA8 : F16 (AV) → AV := F16.rec (motive := fun _ => AV) (fun a0 a1 a2 a3 a4 a5 a6 a7 a8 a9 a10 a11 a12 a13 a14 a15 => a8)
noncomputable def gA9 : F16 (AV) → AV := F16.rec (motive := fun _ => AV) (fun a0 a1 a2 a3 a4 a5 a6 a7 a8 a9 a10 a11 a12 a13 a14 a15 => a9)
noncomputable def gA10 : F16 (AV) → AV := F16.rec (motive := fun _ => AV) (fun a0 a1 a2 a3 a4 a5 a6 a7 a8 a9 a10 a11 a12 a13 a14 a15 => a10)
noncomputable def gA11 : F16 (AV) → AV := F16.rec (motive := fun _ => AV) (fun a0 a1 a2 a3 a4 a5 a6 a7 a8 a9 a10 a11 a12 a13 a14 a15 => a11)
noncomputable def gA12 : F16 (AV) → AV := F16.rec (motive := fun _ => AV) (fun a0 a1 a2 a3 a4 a5 a6 a7 a8 a9 a10 a11 a12 a13 a14 a15 => a12)
noncomputable def gA13 : F16 (AV) → AV := F16.rec (motive := fun _ => AV) (fun a0 a1 a2 a3 a4 a5 a6 a7 a8 a9 a10 a11 a12 a13 a14 a15 => a13)
noncomputable def gA14 : F16 (AV) → AV := F16.rec (motive := fun _ => AV) (fun a0 a1 a2 a3 a4 a5 a6 a7 a8 a9 a10 a11 a12 a13 a14 a15 => a14)
noncomputable def gA15 : F16 (AV) → AV := F16.rec (motive := fun _ => AV) (fun a0 a1 a2 a3 a4 a5 a6 a7 a8 a9 a10 a11 a12 a13 a14 a15 => a15)
noncomputable def sA0 : F16 (AV) → (AV) → F16 (AV) := F16.rec (motive := fun _ => (AV) → F16 (AV)) (fun a0 a1 a2 a3 a4 a5 a6 a7 a8 a9 a10 a11 a12 a13 a14 a15 v => .mk v a1 a2 a3 a4 a5 a6 a7 a8 a9 a10 a11 a12 a13 a14 a15)
noncomputable def sA1 : F16 (AV) → (AV) → F16 (AV) := F16.rec (motive := fun _ => (AV) → F16 (AV)) (fun a0 a1 a2 a3 a4 a5 a6 a7 a8 a9 a10 a11 a12 a13 a14 a15 v => .mk a0 v a2 a3 a4 a5 a6 a7 a8 a9 a10 a11 a12 a13 a14 a15)
noncomputable def sA2 : F16 (AV) → (AV) → F16 (AV) := F16.rec (motive := fun _ => (AV) → F16 (AV)) (fun a0 a1 a2 a3 a4 a5 a6 a7 a8 a9 a10 a11 a12 a13 a14 a15 v => .mk a0 a1 v a3 a4 a5 a6 a7 a8 a9 a10 a11 a12 a13 a14 a15)
noncomputable def sA3 : F16 (AV) → (AV) → F16 (AV) := F16.rec (motive := fun _ => (AV) → F16 (AV)) (fun a0 a1 a2 a3 a4 a5 a6 a7 a8 a9 a10 a11 a12 a13 a14 a15 v => .mk a0 a1 a2 v a4 a5 a6 a7 a8 a9 a10 a11 a12 a13 a14 a15)
noncomputable def sA4 : F16 (AV) → (AV) → F16 (AV) := F16.rec (motive := fun _ => (AV) → F16 (AV)) (fun a0 a1 a2 a3 a4 a5 a6 a7 a8 a9 a10 a11 a12 a13 a14 a15 v => .mk a0 a1 a2 a3 v a5 a6 a7 a8 a9 a10 a11 a12 a13 a14 a15)
noncomputable def sA5 : F16 (AV) → (AV) → F16 (AV) := F16.rec (motive := fun _ => (AV) → F16 (AV)) (fun a0 a1 a2 a3 a4 a5 a6 a7 a8 a9 a10 a11 a12 a13 a14 a15 v => .mk a0 a1 a2 a3 a4 v a6 a7 a8 a9 a10 a11 a12 a13 a14 a15)
noncomputable def sA6 : F16 (AV) → (AV) → F16 (AV) := F16.rec (motive := fun _ => (AV) → F16 (AV)) (fun a0 a1 a2 a3 a4 a5 a6 a7 a8 a9 a10 a11 a12 a13 a14 a15 v => .mk a0 a1 a2 a3 a4 a5 v a7 a8 a9 a10 a11 a12 a13 a14 a15)
noncomputable def sA7 : F16 (AV) → (AV) → F16 (AV) := F16.rec (motive := fun _ => (AV) → F16 (AV)) (fun a0 a1 a2 a3 a4 a5 a6 a7 a8 a9 a10 a11 a12 a13 a14 a15 v => .mk a0 a1 a2 a3 a4 a5 a6 v a8 a9 a10 a11 a12 a13 a14 a15)
noncomputable def sA8 : F16 (AV) → (AV) → F16 (AV) := F16.rec (motive := fun _ => (AV) → F16 (AV)) (fun a0 a1 a2 a3 a4 a5 a6 a7 a8 a9 a10 a11 a12 a13 a14 a15 v => .mk a0 a1 a2 a3 a4 a5 a6 a7 v a9 a10 a11 a12 a13 a14 a15)
noncomputable def sA9 : F16 (AV) → (AV) → F16 (AV) := F16.rec (motive := fun _ => (AV) → F16 (AV)) (fun a0 a1 a2 a3 a4 a5 a6 a7 a8 a9 a10 a11 a12 a13 a14 a15 v => .mk a0 a1 a2 a3 a4 a5 a6 a7 a8 v a10 a11 a12 a13 a14 a15)
noncomputable def sA10 : F16 (AV) → (AV) → F16 (AV) := F16.rec (motive := fun _ => (AV) → F16 (AV)) (fun a0 a1 a2 a3 a4 a5 a6 a7 a8 a9 a10 a11 a12 a13 a14 a15 v => .mk a0 a1 a2 a3 a4 a5 a6 a7 a8 a9 v a11 a12 a13 a14 a15)
noncomputable def sA11 : F16 (AV) → (AV) → F16 (AV) := F16.rec (motive := fun _ => (AV) → F16 (AV)) (fun a0 a1 a2 a3 a4 a5 a6 a7 a8 a9 a10 a11 a12 a13 a14 a15 v => .mk a0 a1 a2 a3 a4 a5 a6 a7 a8 a9 a10 v a12 a13 a14 a15)
noncomputable def sA12 : F16 (AV) → (AV) → F16 (AV) := F16.rec (motive := fun _ => (AV) → F16 (AV)) (fun a0 a1 a2 a3 a4 a5 a6 a7 a8 a9 a10 a11 a12 a13 a14 a15 v => .mk a0 a1 a2 a3 a4 a5 a6 a7 a8 a9 a10 a11 v a13 a14 a15)
noncomputable def sA13 : F16 (AV) → (AV) → F16 (AV) := F16.rec (motive := fun _ => (AV) → F16 (AV)) (fun a0 a1 a2 a3 a4 a5 a6 a7 a8 a9 a10 a11 a12 a13 a14 a15 v => .mk a0 a1 a2 a3 a4 a5 a6 a7 a8 a9 a10 a11 a12 v a14 a15)
noncomputable def sA14 : F16 (AV) → (AV) → F16 (AV) := F16.rec (motive := fun _ => (AV) → F16 (AV)) (fun a0 a1 a2 a3 a4 a5 a6 a7 a8 a9 a10 a11 a12 a13 a14 a15 v => .mk a0 a1 a2 a3 a4 a5 a6 a7 a8 a9 a10 a11 a12 a13 v a15)
noncomputable def sA15 : F16 (AV) → (AV) → F16 (AV) := F16.rec (motive := fun _ => (AV) → F16 (AV)) (fun a0 a1 a2 a3 a4 a5 a6 a7 a8 a9 a10 a11 a12 a13 a14 a15 v => .mk a0 a1 a2 a3 a4 a5 a6 a7 a8 a9 a10 a11 a12 a13 a14 v)
noncomputable def getA : D16 → F16 (AV) → AV := D16.rec (motive := fun _ => F16 (AV) → AV) gA0 gA1 gA2 gA3 gA4 gA5 gA6 gA7 gA8 gA9 gA10 gA11 gA12 gA13 gA14 gA15
noncomputable def setA : D16 → F16 (AV) → (AV) → F16 (AV) := D16.rec (motive := fun _ => F16 (AV) → (AV) → F16 (AV)) sA0 sA1 sA2 sA3 sA4 sA5 sA6 sA7 sA8 sA9 sA10 sA11 sA12 sA13 sA14 sA15
theorem getA_eq (d : D16) (f : F16 (AV)) : getA d f = d.get f := by cases d <;> rfl
theorem setA_eq (d : D16) (f : F16 (AV)) (v : AV) : setA d f v = d.set v f := by cases f; cases d <;> rfl
noncomputable def gB0 : F16 (F16 AV) → F16 AV := F16.rec (motive := fun _ => F16 AV) (fun a0 a1 a2 a3 a4 a5 a6 a7 a8 a9 a10 a11 a12 a13 a14 a15 => a0)
noncomputable def gB1 : F16 (F16 AV) → F16 AV := F16.rec (motive := fun _ => F16 AV) (fun a0 a1 a2 a3 a4 a5 a6 a7 a8 a9 a10 a11 a12 a13 a14 a15 => a1)
noncomputable def gB2 : F16 (F16 AV) → F16 AV := F16.rec (motive := fun _ => F16 AV) (fun a0 a1 a2 a3 a4 a5 a6 a7 a8 a9 a10 a11 a12 a13 a14 a15 => a2)
noncomputable def gB3 : F16 (F16 AV) → F16 AV := F16.rec (motive := fun _ => F16 AV) (fun a0 a1 a2 a3 a4 a5 a6 a7 a8 a9 a10 a11 a12 a13 a14 a15 => a3)
noncomputable def gB4 : F16 (F16 AV) → F16 AV := F16.rec (motive := fun _ => F16 AV) (fun a0 a1 a2 a3 a4 a5 a6 a7 a8 a9 a10 a11 a12 a13 a14 a15 => a4)
noncomputable def gB5 : F16 (F16 AV) → F16 AV := F16.rec (motive := fun _ => F16 AV) (fun a0 a1 a2 a3 a4 a5 a6 a7 a8 a9 a10 a11 a12 a13 a14 a15 => a5)
noncomputable def gB6 : F16 (F16 AV) → F16 AV := F16.rec (motive := fun _ => F16 AV) (fun a0 a1 a2 a3 a4 a5 a6 a7 a8 a9 a10 a11 a12 a13 a14 a15 => a6)
noncomputable def gB7 : F16 (F16 AV) → F16 AV := F16.rec (motive := fun _ => F16 AV) (fun a0 a1 a2 a3 a4 a5 a6 a7 a8 a9 a10 a11 a12 a13 a14 a15 => a7)
noncomputable def gB8 : F16 (F16 AV) → F16 AV := F16.rec (motive := fun _ => F16 AV) (fun a0 a1 a2 a3 a4 a5 a6 a7 a8 a9 a10 a11 a12 a13 a14 a15 => a8)
noncomputable def gB9 : F16 (F16 AV) → F16 AV := F16.rec (motive := fun _ => F16 AV) (fun a0 a1 a2 a3 a4 a5 a6 a7 a8 a9 a10 a11 a12 a13 a14 a15 => a9)
noncomputable def gB10 : F16 (F16 AV) → F16 AV := F16.rec (motive := fun _ => F16 AV) (fun a0 a1 a2 a3 a4 a5 a6 a7 a8 a9 a10 a11 a12 a13 a14 a15 => a10)
noncomputable def gB11 : F16 (F16 AV) → F16 AV := F16.rec (motive := fun _ => F16 AV) (fun a0 a1 a2 a3 a4 a5 a6 a7 a8 a9 a10 a11 a12 a13 a14 a15 => a11)
noncomputable def gB12 : F16 (F16 AV) → F16 AV := F16.rec (motive := fun _ => F16 AV) (fun a0 a1 a2 a3 a4 a5 a6 a7 a8 a9 a10 a11 a12 a13 a14 a15 => a12)
noncomputable def gB13 : F16 (F16 AV) → F16 AV := F16.rec (motive := fun _ => F16 AV) (fun a0 a1 a2 a3 a4 a5 a6 a7 a8 a9 a10 a11 a12 a13 a14 a15 => a13)
noncomputable def gB14 : F16 (F16 AV) → F16 AV := F16.rec (motive := fun _ => F16 AV) (fun a0 a1 a2 a3 a4 a5 a6 a7 a8 a9 a10 a11 a12 a13 a14 a15 => a14)
noncomputable def gB15 : F16 (F16 AV) → F16 AV := F16.rec (motive := fun _ => F16 AV) (fun a0 a1 a2 a3 a4 a5 a6 a7 a8 a9 a10 a11 a12 a13 a14 a15 => a15)
noncomputable def sB0 : F16 (F16 AV) → (F16 AV) → F16 (F16 AV) := F16.rec (motive := fun _ => (F16 AV) → F16 (F16 AV)) (fun a0 a1 a2 a3 a4 a5 a6 a7 a8 a9 a10 a11 a12 a13 a14 a15 v => .mk v a1 a2 a3 a4 a5 a6 a7 a8 a9 a10 a11 a12 a13 a14 a15)
noncomputable def sB1 : F16 (F16 AV) → (F16 AV) → F16 (F16 AV) := F16.rec (motive := fun _ => (F16 AV) → F16 (F16 AV)) (fun a0 a1 a2 a3 a4 a5 a6 a7 a8 a9 a10 a11 a12 a13 a14 a15 v => .mk a0 v a2 a3 a4 a5 a6 a7 a8 a9 a10 a11 a12 a13 a14 a15)
noncomputable def sB2 : F16 (F16 AV) → (F16 AV) → F16 (F16 AV) := F16.rec (motive := fun _ => (F16 AV) → F16 (F16 AV)) (fun a0 a1 a2 a3 a4 a5 a6 a7 a8 a9 a10 a11 a12 a13 a14 a15 v => .mk a0 a1 v a3 a4 a5 a6 a7 a8 a9 a10 a11 a12 a13 a14 a15)
noncomputable def sB3 : F16 (F16 AV) → (F16 AV) → F16 (F16 AV) := F16.rec (motive := fun _ => (F16 AV) → F16 (F16 AV)) (fun a0 a1 a2 a3 a4 a5 a6 a7 a8 a9 a10 a11 a12 a13 a14 a15 v => .mk a0 a1 a2 v a4 a5 a6 a7 a8 a9 a10 a11 a12 a13 a14 a15)
noncomputable def sB4 : F16 (F16 AV) → (F16 AV) → F16 (F16 AV) := F16.rec (motive := fun _ => (F16 AV) → F16 (F16 AV)) (fun a0 a1 a2 a3 a4 a5 a6 a7 a8 a9 a10 a11 a12 a13 a14 a15 v => .mk a0 a1 a2 a3 v a5 a6 a7 a8 a9 a10 a11 a12 a13 a14 a15)
noncomputable def sB5 : F16 (F16 AV) → (F16 AV) → F16 (F16 AV) := F16.rec (motive := fun _ => (F16 AV) → F16 (F16 AV)) (fun a0 a1 a2 a3 a4 a5 a6 a7 a8 a9 a10 a11 a12 a13 a14 a15 v => .mk a0 a1 a2 a3 a4 v a6 a7 a8 a9 a10 a11 a12 a13 a14 a15)
noncomputable def sB6 : F16 (F16 AV) → (F16 AV) → F16 (F16 AV) := F16.rec (motive := fun _ => (F16 AV) → F16 (F16 AV)) (fun a0 a1 a2 a3 a4 a5 a6 a7 a8 a9 a10 a11 a12 a13 a14 a15 v => .mk a0 a1 a2 a3 a4 a5 v a7 a8 a9 a10 a11 a12 a13 a14 a15)
noncomputable def sB7 : F16 (F16 AV) → (F16 AV) → F16 (F16 AV) := F16.rec (motive := fun _ => (F16 AV) → F16 (F16 AV)) (fun a0 a1 a2 a3 a4 a5 a6 a7 a8 a9 a10 a11 a12 a13 a14 a15 v => .mk a0 a1 a2 a3 a4 a5 a6 v a8 a9 a10 a11 a12 a13 a14 a15)
noncomputable def sB8 : F16 (F16 AV) → (F16 AV) → F16 (F16 AV) := F16.rec (motive := fun _ => (F16 AV) → F16 (F16 AV)) (fun a0 a1 a2 a3 a4 a5 a6 a7 a8 a9 a10 a11 a12 a13 a14 a15 v => .mk a0 a1 a2 a3 a4 a5 a6 a7 v a9 a10 a11 a12 a13 a14 a15)
noncomputable def sB9 : F16 (F16 AV) → (F16 AV) → F16 (F16 AV) := F16.rec (motive := fun _ => (F16 AV) → F16 (F16 AV)) (fun a0 a1 a2 a3 a4 a5 a6 a7 a8 a9 a10 a11 a12 a13 a14 a15 v => .mk a0 a1 a2 a3 a4 a5 a6 a7 a8 v a10 a11 a12 a13 a14 a15)
noncomputable def sB10 : F16 (F16 AV) → (F16 AV) → F16 (F16 AV) := F16.rec (motive := fun _ => (F16 AV) → F16 (F16 AV)) (fun a0 a1 a2 a3 a4 a5 a6 a7 a8 a9 a10 a11 a12 a13 a14 a15 v => .mk a0 a1 a2 a3 a4 a5 a6 a7 a8 a9 v a11 a12 a13 a14 a15)
noncomputable def sB11 : F16 (F16 AV) → (F16 AV) → F16 (F16 AV) := F16.rec (motive := fun _ => (F16 AV) → F16 (F16 AV)) (fun a0 a1 a2 a3 a4 a5 a6 a7 a8 a9 a10 a11 a12 a13 a14 a15 v => .mk a0 a1 a2 a3 a4 a5 a6 a7 a8 a9 a10 v a12 a13 a14 a15)
noncomputable def sB12 : F16 (F16 AV) → (F16 AV) → F16 (F16 AV) := F16.rec (motive := fun _ => (F16 AV) → F16 (F16 AV)) (fun a0 a1 a2 a3 a4 a5 a6 a7 a8 a9 a10 a11 a12 a13 a14 a15 v => .mk a0 a1 a2 a3 a4 a5 a6 a7 a8 a9 a10 a11 v a13 a14 a15)
noncomputable def sB13 : F16 (F16 AV) → (F16 AV) → F16 (F16 AV) := F16.rec (motive := fun _ => (F16 AV) → F16 (F16 AV)) (fun a0 a1 a2 a3 a4 a5 a6 a7 a8 a9 a10 a11 a12 a13 a14 a15 v => .mk a0 a1 a2 a3 a4 a5 a6 a7 a8 a9 a10 a11 a12 v a14 a15)
noncomputable def sB14 : F16 (F16 AV) → (F16 AV) → F16 (F16 AV) := F16.rec (motive := fun _ => (F16 AV) → F16 (F16 AV)) (fun a0 a1 a2 a3 a4 a5 a6 a7 a8 a9 a10 a11 a12 a13 a14 a15 v => .mk a0 a1 a2 a3 a4 a5 a6 a7 a8 a9 a10 a11 a12 a13 v a15)
noncomputable def sB15 : F16 (F16 AV) → (F16 AV) → F16 (F16 AV) := F16.rec (motive := fun _ => (F16 AV) → F16 (F16 AV)) (fun a0 a1 a2 a3 a4 a5 a6 a7 a8 a9 a10 a11 a12 a13 a14 a15 v => .mk a0 a1 a2 a3 a4 a5 a6 a7 a8 a9 a10 a11 a12 a13 a14 v)
noncomputable def getB : D16 → F16 (F16 AV) → F16 AV := D16.rec (motive := fun _ => F16 (F16 AV) → F16 AV) gB0 gB1 gB2 gB3 gB4 gB5 gB6 gB7 gB8 gB9 gB10 gB11 gB12 gB13 gB14 gB15
noncomputable def setB : D16 → F16 (F16 AV) → (F16 AV) → F16 (F16 AV) := D16.rec (motive := fun _ => F16 (F16 AV) → (F16 AV) → F16 (F16 AV)) sB0 sB1 sB2 sB3 sB4 sB5 sB6 sB7 sB8 sB9 sB10 sB11 sB12 sB13 sB14 sB15
theorem getB_eq (d : D16) (f : F16 (F16 AV)) : getB d f = d.get f := by cases d <;> rfl
theorem setB_eq (d : D16) (f : F16 (F16 AV)) (v : F16 AV) : setB d f v = d.set v f := by cases f; cases d <;> rfl
noncomputable def gH0 : F16 (AO) → AO := F16.rec (motive := fun _ => AO) (fun a0 a1 a2 a3 a4 a5 a6 a7 a8 a9 a10 a11 a12 a13 a14 a15 => a0)
noncomputable def gH1 : F16 (AO) → AO := F16.rec (motive := fun _ => AO) (fun a0 a1 a2 a3 a4 a5 a6 a7 a8 a9 a10 a11 a12 a13 a14 a15 => a1)
noncomputable def gH2 : F16 (AO) → AO := F16.rec (motive := fun _ => AO) (fun a0 a1 a2 a3 a4 a5 a6 a7 a8 a9 a10 a11 a12 a13 a14 a15 => a2)
noncomputable def gH3 : F16 (AO) → AO := F16.rec (motive := fun _ => AO) (fun a0 a1 a2 a3 a4 a5 a6 a7 a8 a9 a10 a11 a12 a13 a14 a15 => a3)
noncomputable def gH4 : F16 (AO) → AO := F16.rec (motive := fun _ => AO) (fun a0 a1 a2 a3 a4 a5 a6 a7 a8 a9 a10 a11 a12 a13 a14 a15 => a4)
noncomputable def gH5 : F16 (AO) → AO := F16.rec (motive := fun _ => AO) (fun a0 a1 a2 a3 a4 a5 a6 a7 a8 a9 a10 a11 a12 a13 a14 a15 => a5)
noncomputable def gH6 : F16 (AO) → AO := F16.rec (motive := fun _ => AO) (fun a0 a1 a2 a3 a4 a5 a6 a7 a8 a9 a10 a11 a12 a13 a14 a15 => a6)
noncomputable def gH7 : F16 (AO) → AO := F16.rec (motive := fun _ => AO) (fun a0 a1 a2 a3 a4 a5 a6 a7 a8 a9 a10 a11 a12 a13 a14 a15 => a7)
noncomputable def gH8 : F16 (AO) → AO := F16.rec (motive := fun _ => AO) (fun a0 a1 a2 a3 a4 a5 a6 a7 a8 a9 a10 a11 a12 a13 a14 a15 => a8)
noncomputable def gH9 : F16 (AO) → AO := F16.rec (motive := fun _ => AO) (fun a0 a1 a2 a3 a4 a5 a6 a7 a8 a9 a10 a11 a12 a13 a14 a15 => a9)
noncomputable def gH10 : F16 (AO) → AO := F16.rec (motive := fun _ => AO) (fun a0 a1 a2 a3 a4 a5 a6 a7 a8 a9 a10 a11 a12 a13 a14 a15 => a10)
noncomputable def gH11 : F16 (AO) → AO := F16.rec (motive := fun _ => AO) (fun a0 a1 a2 a3 a4 a5 a6 a7 a8 a9 a10 a11 a12 a13 a14 a15 => a11)
noncomputable def gH12 : F16 (AO) → AO := F16.rec (motive := fun _ => AO) (fun a0 a1 a2 a3 a4 a5 a6 a7 a8 a9 a10 a11 a12 a13 a14 a15 => a12)
noncomputable def gH13 : F16 (AO) → AO := F16.rec (motive := fun _ => AO) (fun a0 a1 a2 a3 a4 a5 a6 a7 a8 a9 a10 a11 a12 a13 a14 a15 => a13)
noncomputable def gH14 : F16 (AO) → AO := F16.rec (motive := fun _ => AO) (fun a0 a1 a2 a3 a4 a5 a6 a7 a8 a9 a10 a11 a12 a13 a14 a15 => a14)
noncomputable def gH15 : F16 (AO) → AO := F16.rec (motive := fun _ => AO) (fun a0 a1 a2 a3 a4 a5 a6 a7 a8 a9 a10 a11 a12 a13 a14 a15 => a15)
noncomputable def sH0 : F16 (AO) → (AO) → F16 (AO) := F16.rec (motive := fun _ => (AO) → F16 (AO)) (fun a0 a1 a2 a3 a4 a5 a6 a7 a8 a9 a10 a11 a12 a13 a14 a15 v => .mk v a1 a2 a3 a4 a5 a6 a7 a8 a9 a10 a11 a12 a13 a14 a15)
noncomputable def sH1 : F16 (AO) → (AO) → F16 (AO) := F16.rec (motive := fun _ => (AO) → F16 (AO)) (fun a0 a1 a2 a3 a4 a5 a6 a7 a8 a9 a10 a11 a12 a13 a14 a15 v => .mk a0 v a2 a3 a4 a5 a6 a7 a8 a9 a10 a11 a12 a13 a14 a15)
noncomputable def sH2 : F16 (AO) → (AO) → F16 (AO) := F16.rec (motive := fun _ => (AO) → F16 (AO)) (fun a0 a1 a2 a3 a4 a5 a6 a7 a8 a9 a10 a11 a12 a13 a14 a15 v => .mk a0 a1 v a3 a4 a5 a6 a7 a8 a9 a10 a11 a12 a13 a14 a15)
noncomputable def sH3 : F16 (AO) → (AO) → F16 (AO) := F16.rec (motive := fun _ => (AO) → F16 (AO)) (fun a0 a1 a2 a3 a4 a5 a6 a7 a8 a9 a10 a11 a12 a13 a14 a15 v => .mk a0 a1 a2 v a4 a5 a6 a7 a8 a9 a10 a11 a12 a13 a14 a15)
noncomputable def sH4 : F16 (AO) → (AO) → F16 (AO) := F16.rec (motive := fun _ => (AO) → F16 (AO)) (fun a0 a1 a2 a3 a4 a5 a6 a7 a8 a9 a10 a11 a12 a13 a14 a15 v => .mk a0 a1 a2 a3 v a5 a6 a7 a8 a9 a10 a11 a12 a13 a14 a15)
noncomputable def sH5 : F16 (AO) → (AO) → F16 (AO) := F16.rec (motive := fun _ => (AO) → F16 (AO)) (fun a0 a1 a2 a3 a4 a5 a6 a7 a8 a9 a10 a11 a12 a13 a14 a15 v => .mk a0 a1 a2 a3 a4 v a6 a7 a8 a9 a10 a11 a12 a13 a14 a15)
noncomputable def sH6 : F16 (AO) → (AO) → F16 (AO) := F16.rec (motive := fun _ => (AO) → F16 (AO)) (fun a0 a1 a2 a3 a4 a5 a6 a7 a8 a9 a10 a11 a12 a13 a14 a15 v => .mk a0 a1 a2 a3 a4 a5 v a7 a8 a9 a10 a11 a12 a13 a14 a15)
noncomputable def sH7 : F16 (AO) → (AO) → F16 (AO) := F16.rec (motive := fun _ => (AO) → F16 (AO)) (fun a0 a1 a2 a3 a4 a5 a6 a7 a8 a9 a10 a11 a12 a13 a14 a15 v => .mk a0 a1 a2 a3 a4 a5 a6 v a8 a9 a10 a11 a12 a13 a14 a15)
noncomputable def sH8 : F16 (AO) → (AO) → F16 (AO) := F16.rec (motive := fun _ => (AO) → F16 (AO)) (fun a0 a1 a2 a3 a4 a5 a6 a7 a8 a9 a10 a11 a12 a13 a14 a15 v => .mk a0 a1 a2 a3 a4 a5 a6 a7 v a9 a10 a11 a12 a13 a14 a15)
noncomputable def sH9 : F16 (AO) → (AO) → F16 (AO) := F16.rec (motive := fun _ => (AO) → F16 (AO)) (fun a0 a1 a2 a3 a4 a5 a6 a7 a8 a9 a10 a11 a12 a13 a14 a15 v => .mk a0 a1 a2 a3 a4 a5 a6 a7 a8 v a10 a11 a12 a13 a14 a15)
noncomputable def sH10 : F16 (AO) → (AO) → F16 (AO) := F16.rec (motive := fun _ => (AO) → F16 (AO)) (fun a0 a1 a2 a3 a4 a5 a6 a7 a8 a9 a10 a11 a12 a13 a14 a15 v => .mk a0 a1 a2 a3 a4 a5 a6 a7 a8 a9 v a11 a12 a13 a14 a15)
noncomputable def sH11 : F16 (AO) → (AO) → F16 (AO) := F16.rec (motive := fun _ => (AO) → F16 (AO)) (fun a0 a1 a2 a3 a4 a5 a6 a7 a8 a9 a10 a11 a12 a13 a14 a15 v => .mk a0 a1 a2 a3 a4 a5 a6 a7 a8 a9 a10 v a12 a13 a14 a15)
noncomputable def sH12 : F16 (AO) → (AO) → F16 (AO) := F16.rec (motive := fun _ => (AO) → F16 (AO)) (fun a0 a1 a2 a3 a4 a5 a6 a7 a8 a9 a10 a11 a12 a13 a14 a15 v => .mk a0 a1 a2 a3 a4 a5 a6 a7 a8 a9 a10 a11 v a13 a14 a15)
noncomputable def sH13 : F16 (AO) → (AO) → F16 (AO) := F16.rec (motive := fun _ => (AO) → F16 (AO)) (fun a0 a1 a2 a3 a4 a5 a6 a7 a8 a9 a10 a11 a12 a13 a14 a15 v => .mk a0 a1 a2 a3 a4 a5 a6 a7 a8 a9 a10 a11 a12 v a14 a15)
noncomputable def sH14 : F16 (AO) → (AO) → F16 (AO) := F16.rec (motive := fun _ => (AO) → F16 (AO)) (fun a0 a1 a2 a3 a4 a5 a6 a7 a8 a9 a10 a11 a12 a13 a14 a15 v => .mk a0 a1 a2 a3 a4 a5 a6 a7 a8 a9 a10 a11 a12 a13 v a15)
noncomputable def sH15 : F16 (AO) → (AO) → F16 (AO) := F16.rec (motive := fun _ => (AO) → F16 (AO)) (fun a0 a1 a2 a3 a4 a5 a6 a7 a8 a9 a10 a11 a12 a13 a14 a15 v => .mk a0 a1 a2 a3 a4 a5 a6 a7 a8 a9 a10 a11 a12 a13 a14 v)
noncomputable def getH : D16 → F16 (AO) → AO := D16.rec (motive := fun _ => F16 (AO) → AO) gH0 gH1 gH2 gH3 gH4 gH5 gH6 gH7 gH8 gH9 gH10 gH11 gH12 gH13 gH14 gH15
noncomputable def setH : D16 → F16 (AO) → (AO) → F16 (AO) := D16.rec (motive := fun _ => F16 (AO) → (AO) → F16 (AO)) sH0 sH1 sH2 sH3 sH4 sH5 sH6 sH7 sH8 sH9 sH10 sH11 sH12 sH13 sH14 sH15
theorem getH_eq (d : D16) (f : F16 (AO)) : getH d f = d.get f := by cases d <;> rfl
theorem setH_eq (d : D16) (f : F16 (AO)) (v : AO) : setH d f v = d.set v f := by cases f; cases d <;> rfl
noncomputable def gI0 : F16 (F16 AO) → F16 AO := F16.rec (motive := fun _ => F16 AO) (fun a0 a1 a2 a3 a4 a5 a6 a7 a8 a9 a10 a11 a12 a13 a14 a15 => a0)
noncomputable def gI1 : F16 (F16 AO) → F16 AO := F16.rec (motive := fun _ => F16 AO) (fun a0 a1 a2 a3 a4 a5 a6 a7 a8 a9 a10 a11 a12 a13 a14 a15 => a1)
noncomputable def gI2 : F16 (F16 AO) → F16 AO := F16.rec (motive := fun _ => F16 AO) (fun a0 a1 a2 a3 a4 a5 a6 a7 a8 a9 a10 a11 a12 a13 a14 a15 => a2)
noncomputable def gI3 : F16 (F16 AO) → F16 AO := F16.rec (motive := fun _ => F16 AO) (fun a0 a1 a2 a3 a4 a5 a6 a7 a8 a9 a10 a11 a12 a13 a14 a15 => a3)
noncomputable def gI4 : F16 (F16 AO) → F16 AO := F16.rec (motive := fun _ => F16 AO) (fun a0 a1 a2 a3 a4 a5 a6 a7 a8 a9 a10 a11 a12 a13 a14 a15 => a4)
noncomputable def gI5 : F16 (F16 AO) → F16 AO := F16.rec (motive := fun _ => F16 AO) (fun a0 a1 a2 a3 a4 a5 a6 a7 a8 a9 a10 a11 a12 a13 a14 a15 => a5)
noncomputable def gI6 : F16 (F16 AO) → F16 AO := F16.rec (motive := fun _ => F16 AO) (fun a0 a1 a2 a3 a4 a5 a6 a7 a8 a9 a10 a11 a12 a13 a14 a15 => a6)
noncomputable def gI7 : F16 (F16 AO) → F16 AO := F16.rec (motive := fun _ => F16 AO) (fun a0 a1 a2 a3 a4 a5 a6 a7 a8 a9 a10 a11 a12 a13 a14 a15 => a7)
noncomputable def gI8 : F16 (F16 AO) → F16 AO := F16.rec (motive := fun _ => F16 AO) (fun a0 a1 a2 a3 a4 a5 a6 a7 a8 a9 a10 a11 a12 a13 a14 a15 => a8)
noncomputable def gI9 : F16 (F16 AO) → F16 AO := F16.rec (motive := fun _ => F16 AO) (fun a0 a1 a2 a3 a4 a5 a6 a7 a8 a9 a10 a11 a12 a13 a14 a15 => a9)
noncomputable def gI10 : F16 (F16 AO) → F16 AO := F16.rec (motive := fun _ => F16 AO) (fun a0 a1 a2 a3 a4 a5 a6 a7 a8 a9 a10 a11 a12 a13 a14 a15 => a10)
noncomputable def gI11 : F16 (F16 AO) → F16 AO := F16.rec (motive := fun _ => F16 AO) (fun a0 a1 a2 a3 a4 a5 a6 a7 a8 a9 a10 a11 a12 a13 a14 a15 => a11)
noncomputable def gI12 : F16 (F16 AO) → F16 AO := F16.rec (motive := fun _ => F16 AO) (fun a0 a1 a2 a3 a4 a5 a6 a7 a8 a9 a10 a11 a12 a13 a14 a15 => a12)
noncomputable def gI13 : F16 (F16 AO) → F16 AO := F16.rec (motive := fun _ => F16 AO) (fun a0 a1 a2 a3 a4 a5 a6 a7 a8 a9 a10 a11 a12 a13 a14 a15 => a13)
noncomputable def gI14 : F16 (F16 AO) → F16 AO := F16.rec (motive := fun _ => F16 AO) (fun a0 a1 a2 a3 a4 a5 a6 a7 a8 a9 a10 a11 a12 a13 a14 a15 => a14)
noncomputable def gI15 : F16 (F16 AO) → F16 AO := F16.rec (motive := fun _ => F16 AO) (fun a0 a1 a2 a3 a4 a5 a6 a7 a8 a9 a10 a11 a12 a13 a14 a15 => a15)
noncomputable def sI0 : F16 (F16 AO) → (F16 AO) → F16 (F16 AO) := F16.rec (motive := fun _ => (F16 AO) → F16 (F16 AO)) (fun a0 a1 a2 a3 a4 a5 a6 a7 a8 a9 a10 a11 a12 a13 a14 a15 v => .mk v a1 a2 a3 a4 a5 a6 a7 a8 a9 a10 a11 a12 a13 a14 a15)
noncomputable def sI1 : F16 (F16 AO) → (F16 AO) → F16 (F16 AO) := F16.rec (motive := fun _ => (F16 AO) → F16 (F16 AO)) (fun a0 a1 a2 a3 a4 a5 a6 a7 a8 a9 a10 a11 a12 a13 a14 a15 v => .mk a0 v a2 a3 a4 a5 a6 a7 a8 a9 a10 a11 a12 a13 a14 a15)
noncomputable def sI2 : F16 (F16 AO) → (F16 AO) → F16 (F16 AO) := F16.rec (motive := fun _ => (F16 AO) → F16 (F16 AO)) (fun a0 a1 a2 a3 a4 a5 a6 a7 a8 a9 a10 a11 a12 a13 a14 a15 v => .mk a0 a1 v a3 a4 a5 a6 a7 a8 a9 a10 a11 a12 a13 a14 a15)
noncomputable def sI3 : F16 (F16 AO) → (F16 AO) → F16 (F16 AO) := F16.rec (motive := fun _ => (F16 AO) → F16 (F16 AO)) (fun a0 a1 a2 a3 a4 a5 a6 a7 a8 a9 a10 a11 a12 a13 a14 a15 v => .mk a0 a1 a2 v a4 a5 a6 a7 a8 a9 a10 a11 a12 a13 a14 a15)
noncomputable def sI4 : F16 (F16 AO) → (F16 AO) → F16 (F16 AO) := F16.rec (motive := fun _ => (F16 AO) → F16 (F16 AO)) (fun a0 a1 a2 a3 a4 a5 a6 a7 a8 a9 a10 a11 a12 a13 a14 a15 v => .mk a0 a1 a2 a3 v a5 a6 a7 a8 a9 a10 a11 a12 a13 a14 a15)
noncomputable def sI5 : F16 (F16 AO) → (F16 AO) → F16 (F16 AO) := F16.rec (motive := fun _ => (F16 AO) → F16 (F16 AO)) (fun a0 a1 a2 a3 a4 a5 a6 a7 a8 a9 a10 a11 a12 a13 a14 a15 v => .mk a0 a1 a2 a3 a4 v a6 a7 a8 a9 a10 a11 a12 a13 a14 a15)
noncomputable def sI6 : F16 (F16 AO) → (F16 AO) → F16 (F16 AO) := F16.rec (motive := fun _ => (F16 AO) → F16 (F16 AO)) (fun a0 a1 a2 a3 a4 a5 a6 a7 a8 a9 a10 a11 a12 a13 a14 a15 v => .mk a0 a1 a2 a3 a4 a5 v a7 a8 a9 a10 a11 a12 a13 a14 a15)
noncomputable def sI7 : F16 (F16 AO) → (F16 AO) → F16 (F16 AO) := F16.rec (motive := fun _ => (F16 AO) → F16 (F16 AO)) (fun a0 a1 a2 a3 a4 a5 a6 a7 a8 a9 a10 a11 a12 a13 a14 a15 v => .mk a0 a1 a2 a3 a4 a5 a6 v a8 a9 a10 a11 a12 a13 a14 a15)
noncomputable def sI8 : F16 (F16 AO) → (F16 AO) → F16 (F16 AO) := F16.rec (motive := fun _ => (F16 AO) → F16 (F16 AO)) (fun a0 a1 a2 a3 a4 a5 a6 a7 a8 a9 a10 a11 a12 a13 a14 a15 v => .mk a0 a1 a2 a3 a4 a5 a6 a7 v a9 a10 a11 a12 a13 a14 a15)
noncomputable def sI9 : F16 (F16 AO) → (F16 AO) → F16 (F16 AO) := F16.rec (motive := fun _ => (F16 AO) → F16 (F16 AO)) (fun a0 a1 a2 a3 a4 a5 a6 a7 a8 a9 a10 a11 a12 a13 a14 a15 v => .mk a0 a1 a2 a3 a4 a5 a6 a7 a8 v a10 a11 a12 a13 a14 a15)
noncomputable def sI10 : F16 (F16 AO) → (F16 AO) → F16 (F16 AO) := F16.rec (motive := fun _ => (F16 AO) → F16 (F16 AO)) (fun a0 a1 a2 a3 a4 a5 a6 a7 a8 a9 a10 a11 a12 a13 a14 a15 v => .mk a0 a1 a2 a3 a4 a5 a6 a7 a8 a9 v a11 a12 a13 a14 a15)
noncomputable def sI11 : F16 (F16 AO) → (F16 AO) → F16 (F16 AO) := F16.rec (motive := fun _ => (F16 AO) → F16 (F16 AO)) (fun a0 a1 a2 a3 a4 a5 a6 a7 a8 a9 a10 a11 a12 a13 a14 a15 v => .mk a0 a1 a2 a3 a4 a5 a6 a7 a8 a9 a10 v a12 a13 a14 a15)
noncomputable def sI12 : F16 (F16 AO) → (F16 AO) → F16 (F16 AO) := F16.rec (motive := fun _ => (F16 AO) → F16 (F16 AO)) (fun a0 a1 a2 a3 a4 a5 a6 a7 a8 a9 a10 a11 a12 a13 a14 a15 v => .mk a0 a1 a2 a3 a4 a5 a6 a7 a8 a9 a10 a11 v a13 a14 a15)
noncomputable def sI13 : F16 (F16 AO) → (F16 AO) → F16 (F16 AO) := F16.rec (motive := fun _ => (F16 AO) → F16 (F16 AO)) (fun a0 a1 a2 a3 a4 a5 a6 a7 a8 a9 a10 a11 a12 a13 a14 a15 v => .mk a0 a1 a2 a3 a4 a5 a6 a7 a8 a9 a10 a11 a12 v a14 a15)
noncomputable def sI14 : F16 (F16 AO) → (F16 AO) → F16 (F16 AO) := F16.rec (motive := fun _ => (F16 AO) → F16 (F16 AO)) (fun a0 a1 a2 a3 a4 a5 a6 a7 a8 a9 a10 a11 a12 a13 a14 a15 v => .mk a0 a1 a2 a3 a4 a5 a6 a7 a8 a9 a10 a11 a12 a13 v a15)
noncomputable def sI15 : F16 (F16 AO) → (F16 AO) → F16 (F16 AO) := F16.rec (motive := fun _ => (F16 AO) → F16 (F16 AO)) (fun a0 a1 a2 a3 a4 a5 a6 a7 a8 a9 a10 a11 a12 a13 a14 a15 v => .mk a0 a1 a2 a3 a4 a5 a6 a7 a8 a9 a10 a11 a12 a13 a14 v)
noncomputable def getI : D16 → F16 (F16 AO) → F16 AO := D16.rec (motive := fun _ => F16 (F16 AO) → F16 AO) gI0 gI1 gI2 gI3 gI4 gI5 gI6 gI7 gI8 gI9 gI10 gI11 gI12 gI13 gI14 gI15
noncomputable def setI : D16 → F16 (F16 AO) → (F16 AO) → F16 (F16 AO) := D16.rec (motive := fun _ => F16 (F16 AO) → (F16 AO) → F16 (F16 AO)) sI0 sI1 sI2 sI3 sI4 sI5 sI6 sI7 sI8 sI9 sI10 sI11 sI12 sI13 sI14 sI15
theorem getI_eq (d : D16) (f : F16 (F16 AO)) : getI d f = d.get f := by cases d <;> rfl
theorem setI_eq (d : D16) (f : F16 (F16 AO)) (v : F16 AO) : setI d f v = d.set v f := by cases f; cases d <;> rfl
noncomputable def gJ0 : F16 (F16 (F16 AO)) → F16 (F16 AO) := F16.rec (motive := fun _ => F16 (F16 AO)) (fun a0 a1 a2 a3 a4 a5 a6 a7 a8 a9 a10 a11 a12 a13 a14 a15 => a0)
noncomputable def gJ1 : F16 (F16 (F16 AO)) → F16 (F16 AO) := F16.rec (motive := fun _ => F16 (F16 AO)) (fun a0 a1 a2 a3 a4 a5 a6 a7 a8 a9 a10 a11 a12 a13 a14 a15 => a1)
noncomputable def gJ2 : F16 (F16 (F16 AO)) → F16 (F16 AO) := F16.rec (motive := fun _ => F16 (F16 AO)) (fun a0 a1 a2 a3 a4 a5 a6 a7 a8 a9 a10 a11 a12 a13 a14 a15 => a2)
noncomputable def gJ3 : F16 (F16 (F16 AO)) → F16 (F16 AO) := F16.rec (motive := fun _ => F16 (F16 AO)) (fun a0 a1 a2 a3 a4 a5 a6 a7 a8 a9 a10 a11 a12 a13 a14 a15 => a3)
noncomputable def gJ4 : F16 (F16 (F16 AO)) → F16 (F16 AO) := F16.rec (motive := fun _ => F16 (F16 AO)) (fun a0 a1 a2 a3 a4 a5 a6 a7 a8 a9 a10 a11 a12 a13 a14 a15 => a4)
noncomputable def gJ5 : F16 (F16 (F16 AO)) → F16 (F16 AO) := F16.rec (motive := fun _ => F16 (F16 AO)) (fun a0 a1 a2 a3 a4 a5 a6 a7 a8 a9 a10 a11 a12 a13 a14 a15 => a5)
noncomputable def gJ6 : F16 (F16 (F16 AO)) → F16 (F16 AO) := F16.rec (motive := fun _ => F16 (F16 AO)) (fun a0 a1 a2 a3 a4 a5 a6 a7 a8 a9 a10 a11 a12 a13 a14 a15 => a6)
noncomputable def gJ7 : F16 (F16 (F16 AO)) → F16 (F16 AO) := F16.rec (motive := fun _ => F16 (F16 AO)) (fun a0 a1 a2 a3 a4 a5 a6 a7 a8 a9 a10 a11 a12 a13 a14 a15 => a7)
noncomputable def gJ8 : F16 (F16 (F16 AO)) → F16 (F16 AO) := F16.rec (motive := fun _ => F16 (F16 AO)) (fun a0 a1 a2 a3 a4 a5 a6 a7 a8 a9 a10 a11 a12 a13 a14 a15 => a8)
noncomputable def gJ9 : F16 (F16 (F16 AO)) → F16 (F16 AO) := F16.rec (motive := fun _ => F16 (F16 AO)) (fun a0 a1 a2 a3 a4 a5 a6 a7 a8 a9 a10 a11 a12 a13 a14 a15 => a9)
noncomputable def gJ10 : F16 (F16 (F16 AO)) → F16 (F16 AO) := F16.rec (motive := fun _ => F16 (F16 AO)) (fun a0 a1 a2 a3 a4 a5 a6 a7 a8 a9 a10 a11 a12 a13 a14 a15 => a10)
noncomputable def gJ11 : F16 (F16 (F16 AO)) → F16 (F16 AO) := F16.rec (motive := fun _ => F16 (F16 AO)) (fun a0 a1 a2 a3 a4 a5 a6 a7 a8 a9 a10 a11 a12 a13 a14 a15 => a11)
noncomputable def gJ12 : F16 (F16 (F16 AO)) → F16 (F16 AO) := F16.rec (motive := fun _ => F16 (F16 AO)) (fun a0 a1 a2 a3 a4 a5 a6 a7 a8 a9 a10 a11 a12 a13 a14 a15 => a12)
noncomputable def gJ13 : F16 (F16 (F16 AO)) → F16 (F16 AO) := F16.rec (motive := fun _ => F16 (F16 AO)) (fun a0 a1 a2 a3 a4 a5 a6 a7 a8 a9 a10 a11 a12 a13 a14 a15 => a13)
noncomputable def gJ14 : F16 (F16 (F16 AO)) → F16 (F16 AO) := F16.rec (motive := fun _ => F16 (F16 AO)) (fun a0 a1 a2 a3 a4 a5 a6 a7 a8 a9 a10 a11 a12 a13 a14 a15 => a14)
noncomputable def gJ15 : F16 (F16 (F16 AO)) → F16 (F16 AO) := F16.rec (motive := fun _ => F16 (F16 AO)) (fun a0 a1 a2 a3 a4 a5 a6 a7 a8 a9 a10 a11 a12 a13 a14 a15 => a15)
noncomputable def sJ0 : F16 (F16 (F16 AO)) → (F16 (F16 AO)) → F16 (F16 (F16 AO)) := F16.rec (motive := fun _ => (F16 (F16 AO)) → F16 (F16 (F16 AO))) (fun a0 a1 a2 a3 a4 a5 a6 a7 a8 a9 a10 a11 a12 a13 a14 a15 v => .mk v a1 a2 a3 a4 a5 a6 a7 a8 a9 a10 a11 a12 a13 a14 a15)
noncomputable def sJ1 : F16 (F16 (F16 AO)) → (F16 (F16 AO)) → F16 (F16 (F16 AO)) := F16.rec (motive := fun _ => (F16 (F16 AO)) → F16 (F16 (F16 AO))) (fun a0 a1 a2 a3 a4 a5 a6 a7 a8 a9 a10 a11 a12 a13 a14 a15 v => .mk a0 v a2 a3 a4 a5 a6 a7 a8 a9 a10 a11 a12 a13 a14 a15)
noncomputable def sJ2 : F16 (F16 (F16 AO)) → (F16 (F16 AO)) → F16 (F16 (F16 AO)) := F16.rec (motive := fun _ => (F16 (F16 AO)) → F16 (F16 (F16 AO))) (fun a0 a1 a2 a3 a4 a5 a6 a7 a8 a9 a10 a11 a12 a13 a14 a15 v => .mk a0 a1 v a3 a4 a5 a6 a7 a8 a9 a10 a11 a12 a13 a14 a15)
noncomputable def sJ3 : F16 (F16 (F16 AO)) → (F16 (F16 AO)) → F16 (F16 (F16 AO)) := F16.rec (motive := fun _ => (F16 (F16 AO)) → F16 (F16 (F16 AO))) (fun a0 a1 a2 a3 a4 a5 a6 a7 a8 a9 a10 a11 a12 a13 a14 a15 v => .mk a0 a1 a2 v a4 a5 a6 a7 a8 a9 a10 a11 a12 a13 a14 a15)
noncomputable def sJ4 : F16 (F16 (F16 AO)) → (F16 (F16 AO)) → F16 (F16 (F16 AO)) := F16.rec (motive := fun _ => (F16 (F16 AO)) → F16 (F16 (F16 AO))) (fun a0 a1 a2 a3 a4 a5 a6 a7 a8 a9 a10 a11 a12 a13 a14 a15 v => .mk a0 a1 a2 a3 v a5 a6 a7 a8 a9 a10 a11 a12 a13 a14 a15)
noncomputable def sJ5 : F16 (F16 (F16 AO)) → (F16 (F16 AO)) → F16 (F16 (F16 AO)) := F16.rec (motive := fun _ => (F16 (F16 AO)) → F16 (F16 (F16 AO))) (fun a0 a1 a2 a3 a4 a5 a6 a7 a8 a9 a10 a11 a12 a13 a14 a15 v => .mk a0 a1 a2 a3 a4 v a6 a7 a8 a9 a10 a11 a12 a13 a14 a15)
noncomputable def sJ6 : F16 (F16 (F16 AO)) → (F16 (F16 AO)) → F16 (F16 (F16 AO)) := F16.rec (motive := fun _ => (F16 (F16 AO)) → F16 (F16 (F16 AO))) (fun a0 a1 a2 a3 a4 a5 a6 a7 a8 a9 a10 a11 a12 a13 a14 a15 v => .mk a0 a1 a2 a3 a4 a5 v a7 a8 a9 a10 a11 a12 a13 a14 a15)
noncomputable def sJ7 : F16 (F16 (F16 AO)) → (F16 (F16 AO)) → F16 (F16 (F16 AO)) := F16.rec (motive := fun _ => (F16 (F16 AO)) → F16 (F16 (F16 AO))) (fun a0 a1 a2 a3 a4 a5 a6 a7 a8 a9 a10 a11 a12 a13 a14 a15 v => .mk a0 a1 a2 a3 a4 a5 a6 v a8 a9 a10 a11 a12 a13 a14 a15)
noncomputable def sJ8 : F16 (F16 (F16 AO)) → (F16 (F16 AO)) → F16 (F16 (F16 AO)) := F16.rec (motive := fun _ => (F16 (F16 AO)) → F16 (F16 (F16 AO))) (fun a0 a1 a2 a3 a4 a5 a6 a7 a8 a9 a10 a11 a12 a13 a14 a15 v => .mk a0 a1 a2 a3 a4 a5 a6 a7 v a9 a10 a11 a12 a13 a14 a15)
noncomputable def sJ9 : F16 (F16 (F16 AO)) → (F16 (F16 AO)) → F16 (F16 (F16 AO)) := F16.rec (motive := fun _ => (F16 (F16 AO)) → F16 (F16 (F16 AO))) (fun a0 a1 a2 a3 a4 a5 a6 a7 a8 a9 a10 a11 a12 a13 a14 a15 v => .mk a0 a1 a2 a3 a4 a5 a6 a7 a8 v a10 a11 a12 a13 a14 a15)
noncomputable def sJ10 : F16 (F16 (F16 AO)) → (F16 (F16 AO)) → F16 (F16 (F16 AO)) := F16.rec (motive := fun _ => (F16 (F16 AO)) → F16 (F16 (F16 AO))) (fun a0 a1 a2 a3 a4 a5 a6 a7 a8 a9 a10 a11 a12 a13 a14 a15 v => .mk a0 a1 a2 a3 a4 a5 a6 a7 a8 a9 v a11 a12 a13 a14 a15)
noncomputable def sJ11 : F16 (F16 (F16 AO)) → (F16 (F16 AO)) → F16 (F16 (F16 AO)) := F16.rec (motive := fun _ => (F16 (F16 AO)) → F16 (F16 (F16 AO))) (fun a0 a1 a2 a3 a4 a5 a6 a7 a8 a9 a10 a11 a12 a13 a14 a15 v => .mk a0 a1 a2 a3 a4 a5 a6 a7 a8 a9 a10 v a12 a13 a14 a15)
noncomputable def sJ12 : F16 (F16 (F16 AO)) → (F16 (F16 AO)) → F16 (F16 (F16 AO)) := F16.rec (motive := fun _ => (F16 (F16 AO)) → F16 (F16 (F16 AO))) (fun a0 a1 a2 a3 a4 a5 a6 a7 a8 a9 a10 a11 a12 a13 a14 a15 v => .mk a0 a1 a2 a3 a4 a5 a6 a7 a8 a9 a10 a11 v a13 a14 a15)
noncomputable def sJ13 : F16 (F16 (F16 AO)) → (F16 (F16 AO)) → F16 (F16 (F16 AO)) := F16.rec (motive := fun _ => (F16 (F16 AO)) → F16 (F16 (F16 AO))) (fun a0 a1 a2 a3 a4 a5 a6 a7 a8 a9 a10 a11 a12 a13 a14 a15 v => .mk a0 a1 a2 a3 a4 a5 a6 a7 a8 a9 a10 a11 a12 v a14 a15)
noncomputable def sJ14 : F16 (F16 (F16 AO)) → (F16 (F16 AO)) → F16 (F16 (F16 AO)) := F16.rec (motive := fun _ => (F16 (F16 AO)) → F16 (F16 (F16 AO))) (fun a0 a1 a2 a3 a4 a5 a6 a7 a8 a9 a10 a11 a12 a13 a14 a15 v => .mk a0 a1 a2 a3 a4 a5 a6 a7 a8 a9 a10 a11 a12 a13 v a15)
noncomputable def sJ15 : F16 (F16 (F16 AO)) → (F16 (F16 AO)) → F16 (F16 (F16 AO)) := F16.rec (motive := fun _ => (F16 (F16 AO)) → F16 (F16 (F16 AO))) (fun a0 a1 a2 a3 a4 a5 a6 a7 a8 a9 a10 a11 a12 a13 a14 a15 v => .mk a0 a1 a2 a3 a4 a5 a6 a7 a8 a9 a10 a11 a12 a13 a14 v)
noncomputable def getJ : D16 → F16 (F16 (F16 AO)) → F16 (F16 AO) := D16.rec (motive := fun _ => F16 (F16 (F16 AO)) → F16 (F16 AO)) gJ0 gJ1 gJ2 gJ3 gJ4 gJ5 gJ6 gJ7 gJ8 gJ9 gJ10 gJ11 gJ12 gJ13 gJ14 gJ15
noncomputable def setJ : D16 → F16 (F16 (F16 AO)) → (F16 (F16 AO)) → F16 (F16 (F16 AO)) := D16.rec (motive := fun _ => F16 (F16 (F16 AO)) → (F16 (F16 AO)) → F16 (F16 (F16 AO))) sJ0 sJ1 sJ2 sJ3 sJ4 sJ5 sJ6 sJ7 sJ8 sJ9 sJ10 sJ11 sJ12 sJ13 sJ14 sJ15
theorem getJ_eq (d : D16) (f : F16 (F16 (F16 AO))) : getJ d f = d.get f := by cases d <;> rfl
theorem setJ_eq (d : D16) (f : F16 (F16 (F16 AO))) (v : F16 (F16 AO)) : setJ d f v = d.set v f := by cases f; cases d <;> rfl
noncomputable def gK0 : F16 (F16 (F16 (F16 AO))) → F16 (F16 (F16 AO)) := F16.rec (motive := fun _ => F16 (F16 (F16 AO))) (fun a0 a1 a2 a3 a4 a5 a6 a7 a8 a9 a10 a11 a12 a13 a14 a15 => a0)
noncomputable def gK1 : F16 (F16 (F16 (F16 AO))) → F16 (F16 (F16 AO)) := F16.rec (motive := fun _ => F16 (F16 (F16 AO))) (fun a0 a1 a2 a3 a4 a5 a6 a7 a8 a9 a10 a11 a12 a13 a14 a15 => a1)
noncomputable def gK2 : F16 (F16 (F16 (F16 AO))) → F16 (F16 (F16 AO)) := F16.rec (motive := fun _ => F16 (F16 (F16 AO))) (fun a0 a1 a2 a3 a4 a5 a6 a7 a8 a9 a10 a11 a12 a13 a14 a15 => a2)
noncomputable def gK3 : F16 (F16 (F16 (F16 AO))) → F16 (F16 (F16 AO)) := F16.rec (motive := fun _ => F16 (F16 (F16 AO))) (fun a0 a1 a2 a3 a4 a5 a6 a7 a8 a9 a10 a11 a12 a13 a14 a15 => a3)
noncomputable def gK4 : F16 (F16 (F16 (F16 AO))) → F16 (F16 (F16 AO)) := F16.rec (motive := fun _ => F16 (F16 (F16 AO))) (fun a0 a1 a2 a3 a4 a5 a6 a7 a8 a9 a10 a11 a12 a13 a14 a15 => a4)
noncomputable def gK5 : F16 (F16 (F16 (F16 AO))) → F16 (F16 (F16 AO)) := F16.rec (motive := fun _ => F16 (F16 (F16 AO))) (fun a0 a1 a2 a3 a4 a5 a6 a7 a8 a9 a10 a11 a12 a13 a14 a15 => a5)
noncomputable def gK6 : F16 (F16 (F16 (F16 AO))) → F16 (F16 (F16 AO)) := F16.rec (motive := fun _ => F16 (F16 (F16 AO))) (fun a0 a1 a2 a3 a4 a5 a6 a7 a8 a9 a10 a11 a12 a13 a14 a15 => a6)
noncomputable def gK7 : F16 (F16 (F16 (F16 AO))) → F16 (F16 (F16 AO)) := F16.rec (motive := fun _ => F16 (F16 (F16 AO))) (fun a0 a1 a2 a3 a4 a5 a6 a7 a8 a9 a10 a11 a12 a13 a14 a15 => a7)
noncomputable def gK8 : F16 (F16 (F16 (F16 AO))) → F16 (F16 (F16 AO)) := F16.rec (motive := fun _ => F16 (F16 (F16 AO))) (fun a0 a1 a2 a3 a4 a5 a6 a7 a8 a9 a10 a11 a12 a13 a14 a15 => a8)
noncomputable def gK9 : F16 (F16 (F16 (F16 AO))) → F16 (F16 (F16 AO)) := F16.rec (motive := fun _ => F16 (F16 (F16 AO))) (fun a0 a1 a2 a3 a4 a5 a6 a7 a8 a9 a10 a11 a12 a13 a14 a15 => a9)
noncomputable def gK10 : F16 (F16 (F16 (F16 AO))) → F16 (F16 (F16 AO)) := F16.rec (motive := fun _ => F16 (F16 (F16 AO))) (fun a0 a1 a2 a3 a4 a5 a6 a7 a8 a9 a10 a11 a12 a13 a14 a15 => a10)
noncomputable def gK11 : F16 (F16 (F16 (F16 AO))) → F16 (F16 (F16 AO)) := F16.rec (motive := fun _ => F16 (F16 (F16 AO))) (fun a0 a1 a2 a3 a4 a5 a6 a7 a8 a9 a10 a11 a12 a13 a14 a15 => a11)
noncomputable def gK12 : F16 (F16 (F16 (F16 AO))) → F16 (F16 (F16 AO)) := F16.rec (motive := fun _ => F16 (F16 (F16 AO))) (fun a0 a1 a2 a3 a4 a5 a6 a7 a8 a9 a10 a11 a12 a13 a14 a15 => a12)
noncomputable def gK13 : F16 (F16 (F16 (F16 AO))) → F16 (F16 (F16 AO)) := F16.rec (motive := fun _ => F16 (F16 (F16 AO))) (fun a0 a1 a2 a3 a4 a5 a6 a7 a8 a9 a10 a11 a12 a13 a14 a15 => a13)
noncomputable def gK14 : F16 (F16 (F16 (F16 AO))) → F16 (F16 (F16 AO)) := F16.rec (motive := fun _ => F16 (F16 (F16 AO))) (fun a0 a1 a2 a3 a4 a5 a6 a7 a8 a9 a10 a11 a12 a13 a14 a15 => a14)
noncomputable def gK15 : F16 (F16 (F16 (F16 AO))) → F16 (F16 (F16 AO)) := F16.rec (motive := fun _ => F16 (F16 (F16 AO))) (fun a0 a1 a2 a3 a4 a5 a6 a7 a8 a9 a10 a11 a12 a13 a14 a15 => a15)
noncomputable def sK0 : F16 (F16 (F16 (F16 AO))) → (F16 (F16 (F16 AO))) → F16 (F16 (F16 (F16 AO))) := F16.rec (motive := fun _ => (F16 (F16 (F16 AO))) → F16 (F16 (F16 (F16 AO)))) (fun a0 a1 a2 a3 a4 a5 a6 a7 a8 a9 a10 a11 a12 a13 a14 a15 v => .mk v a1 a2 a3 a4 a5 a6 a7 a8 a9 a10 a11 a12 a13 a14 a15)
noncomputable def sK1 : F16 (F16 (F16 (F16 AO))) → (F16 (F16 (F16 AO))) → F16 (F16 (F16 (F16 AO))) := F16.rec (motive := fun _ => (F16 (F16 (F16 AO))) → F16 (F16 (F16 (F16 AO)))) (fun a0 a1 a2 a3 a4 a5 a6 a7 a8 a9 a10 a11 a12 a13 a14 a15 v => .mk a0 v a2 a3 a4 a5 a6 a7 a8 a9 a10 a11 a12 a13 a14 a15)
noncomputable def sK2 : F16 (F16 (F16 (F16 AO))) → (F16 (F16 (F16 AO))) → F16 (F16 (F16 (F16 AO))) := F16.rec (motive := fun _ => (F16 (F16 (F16 AO))) → F16 (F16 (F16 (F16 AO)))) (fun a0 a1 a2 a3 a4 a5 a6 a7 a8 a9 a10 a11 a12 a13 a14 a15 v => .mk a0 a1 v a3 a4 a5 a6 a7 a8 a9 a10 a11 a12 a13 a14 a15)
noncomputable def sK3 : F16 (F16 (F16 (F16 AO))) → (F16 (F16 (F16 AO))) → F16 (F16 (F16 (F16 AO))) := F16.rec (motive := fun _ => (F16 (F16 (F16 AO))) → F16 (F16 (F16 (F16 AO)))) (fun a0 a1 a2 a3 a4 a5 a6 a7 a8 a9 a10 a11 a12 a13 a14 a15 v => .mk a0 a1 a2 v a4 a5 a6 a7 a8 a9 a10 a11 a12 a13 a14 a15)
noncomputable def sK4 : F16 (F16 (F16 (F16 AO))) → (F16 (F16 (F16 AO))) → F16 (F16 (F16 (F16 AO))) := F16.rec (motive := fun _ => (F16 (F16 (F16 AO))) → F16 (F16 (F16 (F16 AO)))) (fun a0 a1 a2 a3 a4 a5 a6 a7 a8 a9 a10 a11 a12 a13 a14 a15 v => .mk a0 a1 a2 a3 v a5 a6 a7 a8 a9 a10 a11 a12 a13 a14 a15)
noncomputable def sK5 : F16 (F16 (F16 (F16 AO))) → (F16 (F16 (F16 AO))) → F16 (F16 (F16 (F16 AO))) := F16.rec (motive := fun _ => (F16 (F16 (F16 AO))) → F16 (F16 (F16 (F16 AO)))) (fun a0 a1 a2 a3 a4 a5 a6 a7 a8 a9 a10 a11 a12 a13 a14 a15 v => .mk a0 a1 a2 a3 a4 v a6 a7 a8 a9 a10 a11 a12 a13 a14 a15)
noncomputable def sK6 : F16 (F16 (F16 (F16 AO))) → (F16 (F16 (F16 AO))) → F16 (F16 (F16 (F16 AO))) := F16.rec (motive := fun _ => (F16 (F16 (F16 AO))) → F16 (F16 (F16 (F16 AO)))) (fun a0 a1 a2 a3 a4 a5 a6 a7 a8 a9 a10 a11 a12 a13 a14 a15 v => .mk a0 a1 a2 a3 a4 a5 v a7 a8 a9 a10 a11 a12 a13 a14 a15)
noncomputable def sK7 : F16 (F16 (F16 (F16 AO))) → (F16 (F16 (F16 AO))) → F16 (F16 (F16 (F16 AO))) := F16.rec (motive := fun _ => (F16 (F16 (F16 AO))) → F16 (F16 (F16 (F16 AO)))) (fun a0 a1 a2 a3 a4 a5 a6 a7 a8 a9 a10 a11 a12 a13 a14 a15 v => .mk a0 a1 a2 a3 a4 a5 a6 v a8 a9 a10 a11 a12 a13 a14 a15)
noncomputable def sK8 : F16 (F16 (F16 (F16 AO))) → (F16 (F16 (F16 AO))) → F16 (F16 (F16 (F16 AO))) := F16.rec (motive := fun _ => (F16 (F16 (F16 AO))) → F16 (F16 (F16 (F16 AO)))) (fun a0 a1 a2 a3 a4 a5 a6 a7 a8 a9 a10 a11 a12 a13 a14 a15 v => .mk a0 a1 a2 a3 a4 a5 a6 a7 v a9 a10 a11 a12 a13 a14 a15)
noncomputable def sK9 : F16 (F16 (F16 (F16 AO))) → (F16 (F16 (F16 AO))) → F16 (F16 (F16 (F16 AO))) := F16.rec (motive := fun _ => (F16 (F16 (F16 AO))) → F16 (F16 (F16 (F16 AO)))) (fun a0 a1 a2 a3 a4 a5 a6 a7 a8 a9 a10 a11 a12 a13 a14 a15 v => .mk a0 a1 a2 a3 a4 a5 a6 a7 a8 v a10 a11 a12 a13 a14 a15)
noncomputable def sK10 : F16 (F16 (F16 (F16 AO))) → (F16 (F16 (F16 AO))) → F16 (F16 (F16 (F16 AO))) := F16.rec (motive := fun _ => (F16 (F16 (F16 AO))) → F16 (F16 (F16 (F16 AO)))) (fun a0 a1 a2 a3 a4 a5 a6 a7 a8 a9 a10 a11 a12 a13 a14 a15 v => .mk a0 a1 a2 a3 a4 a5 a6 a7 a8 a9 v a11 a12 a13 a14 a15)
noncomputable def sK11 : F16 (F16 (F16 (F16 AO))) → (F16 (F16 (F16 AO))) → F16 (F16 (F16 (F16 AO))) := F16.rec (motive := fun _ => (F16 (F16 (F16 AO))) → F16 (F16 (F16 (F16 AO)))) (fun a0 a1 a2 a3 a4 a5 a6 a7 a8 a9 a10 a11 a12 a13 a14 a15 v => .mk a0 a1 a2 a3 a4 a5 a6 a7 a8 a9 a10 v a12 a13 a14 a15)
noncomputable def sK12 : F16 (F16 (F16 (F16 AO))) → (F16 (F16 (F16 AO))) → F16 (F16 (F16 (F16 AO))) := F16.rec (motive := fun _ => (F16 (F16 (F16 AO))) → F16 (F16 (F16 (F16 AO)))) (fun a0 a1 a2 a3 a4 a5 a6 a7 a8 a9 a10 a11 a12 a13 a14 a15 v => .mk a0 a1 a2 a3 a4 a5 a6 a7 a8 a9 a10 a11 v a13 a14 a15)
noncomputable def sK13 : F16 (F16 (F16 (F16 AO))) → (F16 (F16 (F16 AO))) → F16 (F16 (F16 (F16 AO))) := F16.rec (motive := fun _ => (F16 (F16 (F16 AO))) → F16 (F16 (F16 (F16 AO)))) (fun a0 a1 a2 a3 a4 a5 a6 a7 a8 a9 a10 a11 a12 a13 a14 a15 v => .mk a0 a1 a2 a3 a4 a5 a6 a7 a8 a9 a10 a11 a12 v a14 a15)
noncomputable def sK14 : F16 (F16 (F16 (F16 AO))) → (F16 (F16 (F16 AO))) → F16 (F16 (F16 (F16 AO))) := F16.rec (motive := fun _ => (F16 (F16 (F16 AO))) → F16 (F16 (F16 (F16 AO)))) (fun a0 a1 a2 a3 a4 a5 a6 a7 a8 a9 a10 a11 a12 a13 a14 a15 v => .mk a0 a1 a2 a3 a4 a5 a6 a7 a8 a9 a10 a11 a12 a13 v a15)
noncomputable def sK15 : F16 (F16 (F16 (F16 AO))) → (F16 (F16 (F16 AO))) → F16 (F16 (F16 (F16 AO))) := F16.rec (motive := fun _ => (F16 (F16 (F16 AO))) → F16 (F16 (F16 (F16 AO)))) (fun a0 a1 a2 a3 a4 a5 a6 a7 a8 a9 a10 a11 a12 a13 a14 a15 v => .mk a0 a1 a2 a3 a4 a5 a6 a7 a8 a9 a10 a11 a12 a13 a14 v)
noncomputable def getK : D16 → F16 (F16 (F16 (F16 AO))) → F16 (F16 (F16 AO)) := D16.rec (motive := fun _ => F16 (F16 (F16 (F16 AO))) → F16 (F16 (F16 AO))) gK0 gK1 gK2 gK3 gK4 gK5 gK6 gK7 gK8 gK9 gK10 gK11 gK12 gK13 gK14 gK15
noncomputable def setK : D16 → F16 (F16 (F16 (F16 AO))) → (F16 (F16 (F16 AO))) → F16 (F16 (F16 (F16 AO))) := D16.rec (motive := fun _ => F16 (F16 (F16 (F16 AO))) → (F16 (F16 (F16 AO))) → F16 (F16 (F16 (F16 AO)))) sK0 sK1 sK2 sK3 sK4 sK5 sK6 sK7 sK8 sK9 sK10 sK11 sK12 sK13 sK14 sK15
theorem getK_eq (d : D16) (f : F16 (F16 (F16 (F16 AO)))) : getK d f = d.get f := by cases d <;> rfl
theorem setK_eq (d : D16) (f : F16 (F16 (F16 (F16 AO)))) (v : F16 (F16 (F16 AO))) : setK d f v = d.set v f := by cases f; cases d <;> rfl
noncomputable def Sl.qget : Sl → Fr AV → AV := Sl.rec (motive := fun _ => Fr AV → AV) (fun i j f => getA j (getB i f))
noncomputable def Sl.qset : Sl → AV → Fr AV → Fr AV := Sl.rec (motive := fun _ => AV → Fr AV → Fr AV) (fun i j v f => setB i f (setA j (getB i f) v))
theorem Sl.qget_eq (s : Sl) (f : Fr AV) : s.qget f = s.get f := by
  cases s; show getA _ (getB _ f) = _; rw [getA_eq, getB_eq]; rfl
theorem Sl.qset_eq (s : Sl) (v : AV) (f : Fr AV) : s.qset v f = s.set v f := by
  cases s; show setB _ f (setA _ (getB _ f) v) = _; rw [setB_eq, setA_eq, getB_eq]; rfl
noncomputable def Id.qget : Id → Tab AO → AO := Id.rec (motive := fun _ => Tab AO → AO) (fun a b c d f => getH d (getI c (getJ b (getK a f))))
noncomputable def Id.qset : Id → AO → Tab AO → Tab AO := Id.rec (motive := fun _ => AO → Tab AO → Tab AO) (fun a b c d v f => setK a f (setJ b (getK a f) (setI c (getJ b (getK a f)) (setH d (getI c (getJ b (getK a f))) v))))
theorem Id.qget_eq (s : Id) (f : Tab AO) : s.qget f = s.get f := by
  cases s; show getH _ (getI _ (getJ _ (getK _ f))) = _; rw [getH_eq, getI_eq, getJ_eq, getK_eq]; rfl
theorem Id.qset_eq (s : Id) (v : AO) (f : Tab AO) : s.qset v f = s.set v f := by
  cases s; show setK _ f (setJ _ (getK _ f) (setI _ (getJ _ (getK _ f)) (setH _ (getI _ (getJ _ (getK _ f))) v))) = _
  rw [setK_eq, setJ_eq, setI_eq, setH_eq, getI_eq, getJ_eq, getK_eq]; rfl
noncomputable def St.qobj (s : St) (b : Id) : AO := b.qget s.h
noncomputable def St.qput (s : St) (b : Id) (o : AO) : St := St.rec (motive := fun _ => Id → AO → St) (fun h n b o => .mk (b.qset o h) n) s b o
noncomputable def St.qalloc (s : St) (o : AO) (k : Id → St → R) : R := St.rec (motive := fun _ => AO → (Id → St → R) → R) (fun h n o k => n.up .no fun m => k n (.mk (n.qset o h) m)) s o k
theorem St.qobj_eq (s : St) (b : Id) : s.qobj b = s.obj b := Id.qget_eq b s.h
theorem St.qput_eq (s : St) (b : Id) (o : AO) : s.qput b o = s.put b o := by cases s; show St.mk _ _ = _; rw [Id.qset_eq]; rfl
theorem St.qalloc_eq (s : St) (o : AO) (k : Id → St → R) : s.qalloc o k = s.alloc o k := by
  cases s with
  | mk h n =>
    show n.up R.no (fun m => k n (.mk (n.qset o h) m)) = n.up R.no (fun m => k n (.mk (n.set o h) m))
    rw [Id.qset_eq]
noncomputable def qev1 (f : Fr AV) (x : CO) : AV := CO.rec (motive := fun _ => Fr AV → AV) (fun s f => s.qget f) (fun v _ => v) x f
theorem qev1_eq (f : Fr AV) (x : CO) : qev1 f x = ev1 f x := by cases x with | t s => exact Sl.qget_eq s f | c v => rfl
noncomputable def qevs (f : Fr AV) (l : List CO) : List AV := List.rec [] (fun x _ ih => qev1 f x :: ih) l
theorem qevs_eq (f : Fr AV) (l : List CO) : qevs f l = evs f l := by induction l with | nil => rfl | cons x l ih => show qev1 f x :: qevs f l = _; rw [qev1_eq, ih]; rfl
noncomputable def qevo (f : Fr AV) (x : Option CO) : Option AV := Option.rec none (fun x => some (qev1 f x)) x
theorem qevo_eq (f : Fr AV) (x : Option CO) : qevo f x = evo f x := by cases x with | none => rfl | some x => show some _ = _; rw [qev1_eq]; rfl
noncomputable def AV.qlay (v : AV) (k : List AV → R) : R := v.qCells (k [v]) k fun _ => .no
noncomputable def AV.qidx (v : AV) (n : Nat) (k : Nat → R) : R := v.qInt .no fun _ i => Int.rec (fun m n k => br (Nat.ble (Nat.succ m) n) (k m) .no) (fun _ _ _ => .no) i n k
noncomputable def qbnd (x : Option AV) (y d : Nat) (k : Nat → R) : R := Option.rec (fun _ d k => k d) (fun v y _ k => v.qidx (Nat.succ y) k) x y d k
noncomputable def qwrap1 (agg : Bool) (sz : Nat) (l : List AV) (s : St) : R :=
  br agg (br (Nat.beq (ln (tk sz l)) sz) (.ok (.agg (tk sz l)) s) .no) (List.rec (fun _ => .no) (fun x _ _ s => .ok x s) l s)
noncomputable def AV.qisNil (v : AV) : Bool := v.pNil false true
noncomputable def qopMv (x : CO) : OpF := fun _ f s => .ok (qev1 f x) s
noncomputable def qopMvs (x : CO) : OpF := fun _ f s => (qev1 f x).qStr .no fun l => .ok (.str l) s
noncomputable def qopPick (c a b : CO) : OpF := fun _ f s => (qev1 f c).qBool .no fun t => .ok (br t (qev1 f a) (qev1 f b)) s
noncomputable def qopBox (x : CO) : OpF := fun _ f s => (qev1 f x).qlay fun l => s.qalloc (.cells l) fun b s => .ok (.ptr b 0) s
noncomputable def qopAlloc (z : List AV) : OpF := fun _ _ s => s.qalloc (.cells z) fun b s => .ok (.ptr b 0) s
noncomputable def qfill (f : Fr AV) (ps : List Part) : List AV → (List AV → R) → R :=
  List.rec (fun z k => k z) (fun p _ ih z k => Part.rec (fun o n x z k ih => (qev1 f x).qlay fun l => br (Nat.beq (ln l) n) (br (Nat.ble (Nat.add o n) (ln z)) (ih (splice o l z) k) .no) .no) p z k ih) ps
noncomputable def qopBuild (z : List AV) (ps : List Part) : OpF := fun _ f s => qfill f ps z fun cs => .ok (.agg cs) s
noncomputable def qopBlit (len : Nat) (z : List AV) (ps : List Part) : OpF := fun _ f s =>
  qfill f ps (reps len z) fun cs => s.qalloc (.cells cs) fun b s => .ok (.sl b 0 len len 0) s
noncomputable def qopLoad (agg : Bool) (sz : Nat) (x : CO) : OpF := fun _ f s =>
  (qev1 f x).qPtr .no (fun b o => (s.qobj b).qCells .no fun cs => qwrap1 agg sz (dr o cs) s) fun cs => qwrap1 agg sz cs s
noncomputable def qopStore (sz : Nat) (x y : CO) : OpF := fun _ f s =>
  (qev1 f x).qPtr .no (fun b o => (s.qobj b).qCells .no fun cs => (qev1 f y).qlay fun l => br (Nat.beq (ln l) sz) (br (Nat.ble (Nat.add o sz) (ln cs)) (.ok undef (s.qput b (.cells (splice o l cs)))) .no) .no) fun _ => .no
noncomputable def qopNilck (x : CO) : OpF := fun _ f s => (qev1 f x).qNil3 (.ok (qev1 f x) s) .no
noncomputable def qopBin (op : BinOp) (x y : CO) : OpF := fun _ f s =>
  (qev1 f x).qInt ((qev1 f x).qStr .no fun a => (qev1 f y).qStr .no fun b => strBin op a b s) fun j a => (qev1 f y).qInt .no fun k b => intBin op j a k b s
noncomputable def qopBeq (neg : Bool) (x y : CO) : OpF := fun _ f s => (qev1 f x).qBool .no fun a => (qev1 f y).qBool .no fun b => .ok (.bool (br neg (br a (br b false true) b) (br a b (br b false true)))) s
noncomputable def AV.qisA (v : AV) : NK → Bool :=
  NK.rec (v.pIsSl false true) (v.pIsPtr false true) (v.pIsMap false true) (v.pIsFn false true) (v.pIsIfc false true)
noncomputable def qopNeq (neg : Bool) (k : NK) (x y : CO) : OpF := fun _ f s =>
  br ((qev1 f x).qisA k) (br ((qev1 f y).qisA k) (br (qev1 f x).qisNil (.ok (.bool (br neg (br (qev1 f y).qisNil false true) (qev1 f y).qisNil)) s) (br (qev1 f y).qisNil (.ok (.bool neg) s) .no)) .no) .no
noncomputable def qopNeg (x : CO) : OpF := fun _ f s => (qev1 f x).qInt .no fun k n => .ok (.int k (wr k (ineg n))) s
noncomputable def qopNot (x : CO) : OpF := fun _ f s => (qev1 f x).qBool .no fun b => .ok (.bool (br b false true)) s
noncomputable def qopConv (k : IntKind) (x : CO) : OpF := fun _ f s => (qev1 f x).qInt .no fun _ n => .ok (.int k (wr k n)) s
noncomputable def qopToBytes (x : CO) : OpF := fun _ f s => (qev1 f x).qStr .no fun l => .ok (.ts (byteCells l) (ln l) (ln l) false) s
noncomputable def qcellBytes (l : List AV) (k : List UInt8 → R) : R :=
  List.rec (fun k => k []) (fun v _ ih k => v.qInt .no fun j n => br (keq j .u8) (ih fun r => k (UInt8.ofNat n.toNat :: r)) .no) l k
noncomputable def qopToStr (x : CO) : OpF := fun _ f s =>
  (qev1 f x).qSl .no (.ok (.str []) s) (fun b o l _ _ => (s.qobj b).qCells .no fun cs => br (Nat.ble (Nat.add o l) (ln cs)) (qcellBytes (tk l (dr o cs)) fun r => .ok (.str r) s) .no) fun cs l _ _ => br (Nat.beq l (ln cs)) (qcellBytes cs fun r => .ok (.str r) s) .no
noncomputable def qopMkif (t : TypeId) (x : CO) : OpF := fun _ f s => .ok (.ifc t (qev1 f x)) s
noncomputable def qopMkfn (g : Id) (a b : List CO) : OpF := fun _ f s => .ok (.fn g (qevs f a) (qevs f b)) s
noncomputable def qopMkmap : OpF := fun _ _ s => s.qalloc (.map []) fun b s => .ok (.map b) s
noncomputable def qopMksl (bytes : Nat) (z : List AV) (l c : CO) : OpF := fun _ f s =>
  (qev1 f l).qidx limit fun l => (qev1 f c).qidx limit fun c => br (Nat.ble l c) (br (Nat.ble (Nat.mul c bytes) limit) (s.qalloc (.cells (reps c z)) fun b s => .ok (.sl b 0 l c 0) s) .no) .no
noncomputable def qopSslice (x : CO) (lo hi : Option CO) : OpF := fun _ f s =>
  (qev1 f x).qStr .no fun l => qbnd (qevo f hi) (ln l) (ln l) fun h => qbnd (qevo f lo) h 0 fun lo => .ok (.str (dr lo (tk h l))) s
noncomputable def qopSlice (sz : Nat) (x : CO) (lo hi mx : Option CO) : OpF := fun _ f s =>
  (qev1 f x).qSl .no
    (qbnd (qevo f mx) 0 0 fun m => qbnd (qevo f hi) m 0 fun h => qbnd (qevo f lo) h 0 fun _ => .ok .nils s)
    (fun b o len cap ex => qbnd (qevo f mx) cap cap fun m => qbnd (qevo f hi) m len fun h => qbnd (qevo f lo) h 0 fun l =>
      br (br (Nat.beq ex 0) true (br mx.isSome true (Nat.ble (Nat.succ l) cap)))
        (br (br (Nat.beq ex 0) true (br mx.isSome true (Nat.beq ex sz))) (.ok (.sl b (br (Nat.beq m l) o (Nat.add o (Nat.mul l sz))) (Nat.sub h l) (Nat.sub m l) (br mx.isSome 0 ex)) s) .no)
        (.ok (.ts [] 0 0 false) s))
    fun cs len cap ex => qbnd (qevo f mx) cap cap fun m => qbnd (qevo f hi) (Nat.min m len) len fun h => qbnd (qevo f lo) h 0 fun l =>
      .ok (.ts (dr (Nat.mul l sz) (tk (Nat.mul h sz) cs)) (Nat.sub h l) (Nat.sub m l) (br ex true mx.isSome)) s
noncomputable def qopFaddr (off : Nat) (x : CO) : OpF := fun _ f s => (qev1 f x).qPtr .no (fun b o => .ok (.ptr b (Nat.add o off)) s) fun cs => .ok (.tp (dr off cs)) s
noncomputable def qopField (agg : Bool) (off sz : Nat) (x : CO) : OpF := fun _ f s => (qev1 f x).qAgg .no fun cs => qwrap1 agg sz (dr off cs) s
noncomputable def qopIaddr (sz : Nat) (x i : CO) : OpF := fun _ f s =>
  (qev1 f x).qSl .no .no (fun b o len _ _ => (qev1 f i).qidx len fun m => .ok (.ptr b (Nat.add o (Nat.mul m sz))) s) fun cs len _ _ => (qev1 f i).qidx len fun m => .ok (.tp (dr (Nat.mul m sz) cs)) s
noncomputable def qopSidx (x i : CO) : OpF := fun _ f s => (qev1 f x).qStr .no fun l => (qev1 f i).qidx (ln l) fun m => Option.rec .no (fun c => .ok (.int .u8 (.ofNat (UInt8.toNat c))) s) (nth m l)
noncomputable def qopAidx (agg : Bool) (len sz : Nat) (x i : CO) : OpF := fun _ f s => (qev1 f x).qAgg .no fun cs => (qev1 f i).qidx len fun m => qwrap1 agg sz (dr (Nat.mul m sz) cs) s
noncomputable def qkeyEq (a b : AV) (d y n : R) : R :=
  a.qInt (a.qStr d fun p => b.qStr d fun q => br (beqs p q) y n) fun j p => b.qInt d fun k q => br (keq j k) (br (ieq p q) y n) d
noncomputable def qmget (es : List (AV × AV)) (k : AV) (z : R) (yes : AV → R) : R := List.rec z (fun e _ ih => Prod.rec (fun a v ih => qkeyEq k a .no (yes v) ih) e ih) es
noncomputable def qmput (es : List (AV × AV)) (k v : AV) (c : List (AV × AV) → R) : R :=
  List.rec (fun c => c [(k, v)]) (fun e r ih c => Prod.rec (fun a v' ih c => qkeyEq k a .no (c ((k, v) :: r)) (ih fun r => c ((a, v') :: r))) e ih c) es c
noncomputable def qlooked (ok : Bool) (b : Bool) (v : AV) (s : St) : R := br ok (.ok (.tup [v, .bool b]) s) (.ok v s)
noncomputable def qisKey (str : Bool) (k : AV) (r : R) : R := br str (k.qStr .no fun _ => r) (k.qInt .no fun _ _ => r)
noncomputable def qopLookup (str : Bool) (z : AV) (x k : CO) (ok : Bool) : OpF := fun _ f s => qisKey str (qev1 f k)
  ((qev1 f x).qMap .no (qlooked ok false z s) fun b => (s.qobj b).qMap .no fun es => qmget es (qev1 f k) (qlooked ok false z s) fun v => qlooked ok true v s)
noncomputable def qopMupd (str : Bool) (x k v : CO) : OpF := fun _ f s => qisKey str (qev1 f k)
  ((qev1 f x).qMap .no .no fun b => (s.qobj b).qMap .no fun es => qmput es (qev1 f k) (qev1 f v) fun es => .ok undef (s.qput b (.map es)))
noncomputable def qopExt (x : CO) (i : Nat) : OpF := fun _ f s => (qev1 f x).qTup .no fun vs => Option.rec .no (fun v => .ok v s) (nth i vs)
noncomputable def qopCallf (g : Id) (as : List CO) : OpF := fun call f s => call g (qevs f as) s
noncomputable def qopCallv (g : CO) (as : List CO) : OpF := fun call f s => (qev1 f g).qFn .no fun g a b => call g (apd a (apd (qevs f as) b)) s
noncomputable def qopLens (x : CO) : OpF := fun _ f s => (qev1 f x).qStr .no fun l => .ok (.int .i64 (.ofNat (ln l))) s
noncomputable def qopLenm (x : CO) : OpF := fun _ f s => (qev1 f x).qMap .no (.ok (.int .i64 0) s) fun b => (s.qobj b).qMap .no fun es => .ok (.int .i64 (.ofNat (ln es))) s
noncomputable def qopLen (x : CO) : OpF := fun _ f s =>
  (qev1 f x).qSl .no (.ok (.int .i64 0) s) (fun _ _ l _ _ => .ok (.int .i64 (.ofNat l)) s) fun _ l _ _ => .ok (.int .i64 (.ofNat l)) s
noncomputable def qopCap (x : CO) : OpF := fun _ f s =>
  (qev1 f x).qSl .no (.ok (.int .i64 0) s) (fun _ _ _ c ex => br (Nat.beq ex 0) (.ok (.int .i64 (.ofNat c)) s) .no) fun _ _ c ex => br ex (.ok (.int .i64 (.ofNat c)) s) .no
noncomputable def qsrcOf (s : St) (sz : Nat) (y : AV) (k : Nat → List AV → R) : R :=
  y.qSl (y.qStr .no fun l => br (Nat.beq sz 1) (k (ln l) (byteCells l)) .no) (k 0 [])
    (fun b o l _ _ => (s.qobj b).qCells .no fun cs => br (Nat.ble (Nat.add o (Nat.mul l sz)) (ln cs)) (k l (tk (Nat.mul l sz) (dr o cs))) .no)
    fun cs l _ _ => br (Nat.beq (ln cs) (Nat.mul l sz)) (k l cs) .no
noncomputable def qgrown (s : St) (sz bytes m : Nat) (cs : List AV) : R :=
  br (Nat.ble (Nat.mul m bytes) limit) (br (Nat.ble m limit) (s.qalloc (.cells cs) fun b s => .ok (.sl b 0 m m sz) s) .no) .no
noncomputable def qopApp (sz bytes : Nat) (x y : CO) : OpF := fun _ f s =>
  qsrcOf s sz (qev1 f y) fun n new =>
  (qev1 f x).qSl .no
    (br (Nat.beq n 0) (.ok .nils s) (qgrown s sz bytes n new))
    (fun b o len cap ex => (s.qobj b).qCells .no fun cs => br (Nat.ble (Nat.add o (Nat.mul cap sz)) (ln cs))
      (br (Nat.ble (Nat.add len n) cap) (.ok (.sl b o (Nat.add len n) cap ex) (s.qput b (.cells (splice (Nat.add o (Nat.mul len sz)) new cs))))
        (br (Nat.beq ex 0) (qgrown s sz bytes (Nat.add len n) (apd (tk (Nat.mul len sz) (dr o cs)) new))
          (br (Nat.beq ex sz) (qgrown (s.qput b .dead) sz bytes (Nat.add len n) (apd (tk (Nat.mul len sz) (dr o cs)) new)) .no))) .no)
    fun cs len cap ex => br (Nat.beq n 0) (.ok (qev1 f x) s)
      (br ex (br (Nat.ble (Nat.succ cap) (Nat.add len n)) (br (Nat.beq (ln cs) (Nat.mul len sz)) (qgrown s sz bytes (Nat.add len n) (apd cs new)) .no) .no) .no)
noncomputable def qopMm (mx : Bool) (x : CO) (r : List CO) : OpF := fun _ f s =>
  List.rec (fun v => .ok v s) (fun y _ ih v => v.qInt .no fun j a => (qev1 f y).qInt .no fun k b => ih (.int j (best mx a b))) r (qev1 f x)
noncomputable def qexop : COp → OpF := COp.rec (motive := fun _ => OpF) qopMv qopMvs qopPick qopBox qopAlloc qopBuild qopBlit qopLoad qopStore qopNilck qopBin qopBeq qopNeq qopNeg qopNot qopConv qopToBytes qopToStr qopMkif qopMkfn qopMkmap qopMksl qopSlice qopSslice qopFaddr qopField qopIaddr qopSidx qopAidx qopLookup qopMupd qopExt qopCallf qopCallv qopLens qopLenm qopLen qopCap qopApp qopMm
theorem AV.qlay_eq : @AV.qlay = @AV.lay := rfl
theorem AV.qidx_eq : @AV.qidx = @AV.idx := rfl
theorem qbnd_eq : @qbnd = @bnd := rfl
theorem qwrap1_eq : @qwrap1 = @wrap1 := rfl
theorem AV.qisNil_eq : @AV.qisNil = @AV.isNil := rfl
theorem qopMv_eq : @qopMv = @opMv := rfl
theorem qopMvs_eq : @qopMvs = @opMvs := rfl
theorem qopPick_eq : @qopPick = @opPick := rfl
theorem qopBox_eq : @qopBox = @opBox := by
  unfold qopBox opBox
  simp only [St.qalloc_eq]
  all_goals rfl
theorem qopAlloc_eq : @qopAlloc = @opAlloc := by
  unfold qopAlloc opAlloc
  simp only [St.qalloc_eq]
  all_goals rfl
theorem qfill_eq : @qfill = @fill := rfl
theorem qopBuild_eq : @qopBuild = @opBuild := rfl
theorem qopBlit_eq : @qopBlit = @opBlit := by
  unfold qopBlit opBlit
  simp only [St.qalloc_eq]
  all_goals rfl
theorem qopLoad_eq : @qopLoad = @opLoad := rfl
theorem qopStore_eq : @qopStore = @opStore := by
  unfold qopStore opStore
  simp only [St.qput_eq]
  all_goals rfl
theorem qopNilck_eq : @qopNilck = @opNilck := rfl
theorem qopBin_eq : @qopBin = @opBin := rfl
theorem qopBeq_eq : @qopBeq = @opBeq := rfl
theorem AV.qisA_eq : @AV.qisA = @AV.isA := rfl
theorem qopNeq_eq : @qopNeq = @opNeq := rfl
theorem qopNeg_eq : @qopNeg = @opNeg := rfl
theorem qopNot_eq : @qopNot = @opNot := rfl
theorem qopConv_eq : @qopConv = @opConv := rfl
theorem qopToBytes_eq : @qopToBytes = @opToBytes := rfl
theorem qcellBytes_eq : @qcellBytes = @cellBytes := rfl
theorem qopToStr_eq : @qopToStr = @opToStr := rfl
theorem qopMkif_eq : @qopMkif = @opMkif := rfl
theorem qopMkfn_eq : @qopMkfn = @opMkfn := rfl
theorem qopMkmap_eq : @qopMkmap = @opMkmap := by
  unfold qopMkmap opMkmap
  simp only [St.qalloc_eq]
  all_goals rfl
theorem qopMksl_eq : @qopMksl = @opMksl := by
  unfold qopMksl opMksl
  simp only [St.qalloc_eq]
  all_goals rfl
theorem qopSslice_eq : @qopSslice = @opSslice := rfl
theorem qopSlice_eq : @qopSlice = @opSlice := rfl
theorem qopFaddr_eq : @qopFaddr = @opFaddr := rfl
theorem qopField_eq : @qopField = @opField := rfl
theorem qopIaddr_eq : @qopIaddr = @opIaddr := rfl
theorem qopSidx_eq : @qopSidx = @opSidx := rfl
theorem qopAidx_eq : @qopAidx = @opAidx := rfl
theorem qkeyEq_eq : @qkeyEq = @keyEq := rfl
theorem qmget_eq : @qmget = @mget := rfl
theorem qmput_eq : @qmput = @mput := rfl
theorem qlooked_eq : @qlooked = @looked := rfl
theorem qisKey_eq : @qisKey = @isKey := rfl
theorem qopLookup_eq : @qopLookup = @opLookup := rfl
theorem qopMupd_eq : @qopMupd = @opMupd := by
  unfold qopMupd opMupd
  simp only [St.qput_eq]
  all_goals rfl
theorem qopExt_eq : @qopExt = @opExt := rfl
theorem qopCallf_eq : @qopCallf = @opCallf := rfl
theorem qopCallv_eq : @qopCallv = @opCallv := rfl
theorem qopLens_eq : @qopLens = @opLens := rfl
theorem qopLenm_eq : @qopLenm = @opLenm := rfl
theorem qopLen_eq : @qopLen = @opLen := rfl
theorem qopCap_eq : @qopCap = @opCap := rfl
theorem qsrcOf_eq : @qsrcOf = @srcOf := rfl
theorem qgrown_eq : @qgrown = @grown := by
  unfold qgrown grown
  simp only [St.qalloc_eq]
  all_goals rfl
theorem qopApp_eq : @qopApp = @opApp := by
  unfold qopApp opApp
  simp only [qgrown_eq, St.qput_eq]
  all_goals rfl
theorem qopMm_eq : @qopMm = @opMm := rfl
theorem qexop_eq : qexop = exop := by
  funext o
  cases o <;> first | rfl | exact congrFun qopBox_eq _ | exact congrFun qopAlloc_eq _ | exact congrFun (congrFun (congrFun qopBlit_eq _) _) _ | exact congrFun (congrFun (congrFun qopStore_eq _) _) _ | exact qopMkmap_eq | exact congrFun (congrFun (congrFun (congrFun qopMksl_eq _) _) _) _ | exact congrFun (congrFun (congrFun (congrFun qopMupd_eq _) _) _) _ | exact congrFun (congrFun (congrFun (congrFun qopApp_eq _) _) _) _
end Go.Vm
