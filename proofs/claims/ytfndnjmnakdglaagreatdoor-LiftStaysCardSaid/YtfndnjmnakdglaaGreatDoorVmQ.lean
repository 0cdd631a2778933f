/- Calls that are told beforehand; the quick machine. No condition. -/
import Derived.Test.YtfndnjmnakdglaaGreatDoorVmX
import Derived.Below
import Derived.Test.YtfndnjmnakdglaaGreatDoorVmA
namespace Go.Vm
open Go.RowKit
set_option linter.unusedVariables false
variable {P : Program}
def E00 [Lay] : Env := ⟨fun _ => ⟨0, 0, none⟩, fun k => ∃ o, (k, o) ∈ Lay.tabs, fun _ => False⟩
theorem rel_empty [Lay] [Bare] {w : World} (hw : ∀ k p, (k, p) ∈ Lay.tabs → k < w.heap.size ∧ p w.heap[k]?) : Rel St.empty E00 w := by
  have hd : ∀ b, St.empty.obj b = .dead := empty_obj
  exact ⟨fun b _ h => h, ⟨(fun b cs h => by rw [hd] at h; cases h), (fun b es h => by rw [hd] at h; cases h), fun b h => absurd (hd b) h, fun b c h => absurd (hd b) h, fun b h => absurd (hd b) h, fun k ⟨o, h⟩ => (hw k o h).1⟩, .of fun k o h => ⟨⟨o, h⟩, (hw k o h).2⟩⟩
theorem below_of {n n' : Nat} {E E' : Env} {w w' : World} {o' : Id → AO} (h : ExtH n n' St.empty.obj E w o' E' w') : Below w.heap.size w w' :=
  ⟨h.os, h.tape, h.output, h.size, fun k hk => h.keep k hk (fun b hb => absurd (empty_obj b) hb)⟩
def AV.flat : AV → Bool
  | .bool _ | .int _ _ | .str _ => true
  | _ => false
noncomputable def told (T : Tab (List AV → Option AV)) (call : CallT) : CallT := fun g args s => Option.rec (call g args s) (fun r => .ok r s) (g.get T args)
end Go.Vm
namespace Go.Vm
set_option linter.unusedVariables false
variable {P : Program}
noncomputable def pick (es : List (List AV × AV)) (args : List AV) : Option AV := List.rec none (fun e _ ih => br (like.likes args e.1) (some e.2) ih) es
abbrev Told := List (Id × List (List AV × AV))
noncomputable def flats (l : List AV) : Bool := l.all AV.flat
noncomputable def check1 (base : CallT) (g : Id) (e : List AV × AV) : Bool := e.2.flat && (flats e.1 && (base g e.1 .empty).on false fun v _ => like v e.2)
noncomputable def checks (base : CallT) (L : Told) : Bool := L.all fun p => p.2.all fun e => check1 base p.1 e
end Go.Vm
namespace Go.Vm
set_option linter.unusedVariables false
noncomputable def says (b : Bool) (r : R) : Bool := r.on false fun v _ => v.onBool false fun c => br b c (br c false true)
end Go.Vm
namespace Go.Vm
set_option linter.unusedVariables false
noncomputable def AV.qBool : AV → R → (Bool → R) → R := AV.rec (motive_1 := fun _ => R → (Bool → R) → R) (motive_2 := fun _ => Unit) (fun b _ h => h b) (fun _ _ d _ => d) (fun _ d _ => d) (fun d _ => d) (fun _ _ d _ => d) (fun _ _ d _ => d) (fun d _ => d) (fun _ _ _ _ _ d _ => d) (fun _ _ _ _ _ d _ => d) (fun d _ => d) (fun _ d _ => d) (fun d _ => d) (fun _ _ _ _ _ d _ => d) (fun d _ => d) (fun _ _ _ d _ => d) (fun _ _ d _ => d) (fun _ _ d _ => d) () (fun _ _ _ _ => ())
noncomputable def AV.qInt : AV → R → (IntKind → Int → R) → R := AV.rec (motive_1 := fun _ => R → (IntKind → Int → R) → R) (motive_2 := fun _ => Unit) (fun _ d _ => d) (fun k n _ h => h k n) (fun _ d _ => d) (fun d _ => d) (fun _ _ d _ => d) (fun _ _ d _ => d) (fun d _ => d) (fun _ _ _ _ _ d _ => d) (fun _ _ _ _ _ d _ => d) (fun d _ => d) (fun _ d _ => d) (fun d _ => d) (fun _ _ _ _ _ d _ => d) (fun d _ => d) (fun _ _ _ d _ => d) (fun _ _ d _ => d) (fun _ _ d _ => d) () (fun _ _ _ _ => ())
noncomputable def AV.qStr : AV → R → (List UInt8 → R) → R := AV.rec (motive_1 := fun _ => R → (List UInt8 → R) → R) (motive_2 := fun _ => Unit) (fun _ d _ => d) (fun _ _ d _ => d) (fun s _ h => h s) (fun d _ => d) (fun _ _ d _ => d) (fun _ _ d _ => d) (fun d _ => d) (fun _ _ _ _ _ d _ => d) (fun _ _ _ _ _ d _ => d) (fun d _ => d) (fun _ d _ => d) (fun d _ => d) (fun _ _ _ _ _ d _ => d) (fun d _ => d) (fun _ _ _ d _ => d) (fun _ _ d _ => d) (fun _ _ d _ => d) () (fun _ _ _ _ => ())
noncomputable def AV.qPtr : AV → R → (Id → Nat → R) → (List AV → R) → R := AV.rec (motive_1 := fun _ => R → (Id → Nat → R) → (List AV → R) → R) (motive_2 := fun _ => Unit) (fun _ d _ _ => d) (fun _ _ d _ _ => d) (fun _ d _ _ => d) (fun d _ _ => d) (fun b o _ h _ => h b o) (fun cs _ _ _ g => g cs) (fun d _ _ => d) (fun _ _ _ _ _ d _ _ => d) (fun _ _ _ _ _ d _ _ => d) (fun d _ _ => d) (fun _ d _ _ => d) (fun d _ _ => d) (fun _ _ _ _ _ d _ _ => d) (fun d _ _ => d) (fun _ _ _ d _ _ => d) (fun _ _ d _ _ => d) (fun _ _ d _ _ => d) () (fun _ _ _ _ => ())
noncomputable def AV.qSl : AV → R → R → (Id → Nat → Nat → Nat → Nat → R) → (List AV → Nat → Nat → Bool → R) → R := AV.rec (motive_1 := fun _ => R → R → (Id → Nat → Nat → Nat → Nat → R) → (List AV → Nat → Nat → Bool → R) → R) (motive_2 := fun _ => Unit) (fun _ d _ _ _ => d) (fun _ _ d _ _ _ => d) (fun _ d _ _ _ => d) (fun d _ _ _ => d) (fun _ _ d _ _ _ => d) (fun _ _ d _ _ _ => d) (fun _ e _ _ => e) (fun b o len cap ex _ _ h _ => h b o len cap ex) (fun cs len cap ex _ _ _ _ g => g cs len cap ex) (fun d _ _ _ => d) (fun _ d _ _ _ => d) (fun d _ _ _ => d) (fun _ _ _ _ _ d _ _ _ => d) (fun d _ _ _ => d) (fun _ _ _ d _ _ _ => d) (fun _ _ d _ _ _ => d) (fun _ _ d _ _ _ => d) () (fun _ _ _ _ => ())
noncomputable def AV.qMap : AV → R → R → (Id → R) → R := AV.rec (motive_1 := fun _ => R → R → (Id → R) → R) (motive_2 := fun _ => Unit) (fun _ d _ _ => d) (fun _ _ d _ _ => d) (fun _ d _ _ => d) (fun d _ _ => d) (fun _ _ d _ _ => d) (fun _ _ d _ _ => d) (fun d _ _ => d) (fun _ _ _ _ _ d _ _ => d) (fun _ _ _ _ _ d _ _ => d) (fun _ e _ => e) (fun b _ _ h => h b) (fun d _ _ => d) (fun _ _ _ _ _ d _ _ => d) (fun d _ _ => d) (fun _ _ _ d _ _ => d) (fun _ _ d _ _ => d) (fun _ _ d _ _ => d) () (fun _ _ _ _ => ())
noncomputable def AV.qFn : AV → R → (Id → List AV → List AV → R) → R := AV.rec (motive_1 := fun _ => R → (Id → List AV → List AV → R) → R) (motive_2 := fun _ => Unit) (fun _ d _ => d) (fun _ _ d _ => d) (fun _ d _ => d) (fun d _ => d) (fun _ _ d _ => d) (fun _ _ d _ => d) (fun d _ => d) (fun _ _ _ _ _ d _ => d) (fun _ _ _ _ _ d _ => d) (fun d _ => d) (fun _ d _ => d) (fun d _ => d) (fun f first cap _ _ _ h => h f first cap) (fun d _ => d) (fun _ _ _ d _ => d) (fun _ _ d _ => d) (fun _ _ d _ => d) () (fun _ _ _ _ => ())
noncomputable def AV.qAgg : AV → R → (List AV → R) → R := AV.rec (motive_1 := fun _ => R → (List AV → R) → R) (motive_2 := fun _ => Unit) (fun _ d _ => d) (fun _ _ d _ => d) (fun _ d _ => d) (fun d _ => d) (fun _ _ d _ => d) (fun _ _ d _ => d) (fun d _ => d) (fun _ _ _ _ _ d _ => d) (fun _ _ _ _ _ d _ => d) (fun d _ => d) (fun _ d _ => d) (fun d _ => d) (fun _ _ _ _ _ d _ => d) (fun d _ => d) (fun _ _ _ d _ => d) (fun cs _ _ h => h cs) (fun _ _ d _ => d) () (fun _ _ _ _ => ())
noncomputable def AV.qTup : AV → R → (List AV → R) → R := AV.rec (motive_1 := fun _ => R → (List AV → R) → R) (motive_2 := fun _ => Unit) (fun _ d _ => d) (fun _ _ d _ => d) (fun _ d _ => d) (fun d _ => d) (fun _ _ d _ => d) (fun _ _ d _ => d) (fun d _ => d) (fun _ _ _ _ _ d _ => d) (fun _ _ _ _ _ d _ => d) (fun d _ => d) (fun _ d _ => d) (fun d _ => d) (fun _ _ _ _ _ d _ => d) (fun d _ => d) (fun _ _ _ d _ => d) (fun _ _ d _ => d) (fun vs _ _ h => h vs) () (fun _ _ _ _ => ())
noncomputable def AV.qCells : AV → R → (List AV → R) → (List AV → R) → R := AV.rec (motive_1 := fun _ => R → (List AV → R) → (List AV → R) → R) (motive_2 := fun _ => Unit) (fun _ d _ _ => d) (fun _ _ d _ _ => d) (fun _ d _ _ => d) (fun d _ _ => d) (fun _ _ d _ _ => d) (fun _ _ d _ _ => d) (fun d _ _ => d) (fun _ _ _ _ _ d _ _ => d) (fun _ _ _ _ _ d _ _ => d) (fun d _ _ => d) (fun _ d _ _ => d) (fun d _ _ => d) (fun _ _ _ _ _ d _ _ => d) (fun d _ _ => d) (fun _ _ _ d _ _ => d) (fun cs _ _ h _ => h cs) (fun vs _ _ _ g => g vs) () (fun _ _ _ _ => ())
noncomputable def AV.qNil3 : AV → R → R → R := AV.rec (motive_1 := fun _ => R → R → R) (motive_2 := fun _ => Unit) (fun _ d _ => d) (fun _ _ d _ => d) (fun _ d _ => d) (fun _ e => e) (fun _ _ d _ => d) (fun _ _ d _ => d) (fun d _ => d) (fun _ _ _ _ _ d _ => d) (fun _ _ _ _ _ d _ => d) (fun d _ => d) (fun _ d _ => d) (fun _ e => e) (fun _ _ _ _ _ d _ => d) (fun _ e => e) (fun _ _ _ d _ => d) (fun _ _ d _ => d) (fun _ _ d _ => d) () (fun _ _ _ _ => ())
noncomputable def AV.pBool : AV → Bool → (Bool → Bool) → Bool := AV.rec (motive_1 := fun _ => Bool → (Bool → Bool) → Bool) (motive_2 := fun _ => Unit) (fun b _ h => h b) (fun _ _ d _ => d) (fun _ d _ => d) (fun d _ => d) (fun _ _ d _ => d) (fun _ _ d _ => d) (fun d _ => d) (fun _ _ _ _ _ d _ => d) (fun _ _ _ _ _ d _ => d) (fun d _ => d) (fun _ d _ => d) (fun d _ => d) (fun _ _ _ _ _ d _ => d) (fun d _ => d) (fun _ _ _ d _ => d) (fun _ _ d _ => d) (fun _ _ d _ => d) () (fun _ _ _ _ => ())
noncomputable def AV.pNil : AV → Bool → Bool → Bool := AV.rec (motive_1 := fun _ => Bool → Bool → Bool) (motive_2 := fun _ => Unit) (fun _ d _ => d) (fun _ _ d _ => d) (fun _ d _ => d) (fun _ e => e) (fun _ _ d _ => d) (fun _ _ d _ => d) (fun _ e => e) (fun _ _ _ _ _ d _ => d) (fun _ _ _ _ _ d _ => d) (fun _ e => e) (fun _ d _ => d) (fun _ e => e) (fun _ _ _ _ _ d _ => d) (fun _ e => e) (fun _ _ _ d _ => d) (fun _ _ d _ => d) (fun _ _ d _ => d) () (fun _ _ _ _ => ())
noncomputable def AV.pIsSl : AV → Bool → Bool → Bool := AV.rec (motive_1 := fun _ => Bool → Bool → Bool) (motive_2 := fun _ => Unit) (fun _ d _ => d) (fun _ _ d _ => d) (fun _ d _ => d) (fun d _ => d) (fun _ _ d _ => d) (fun _ _ d _ => d) (fun _ e => e) (fun b o len cap ex _ e => e) (fun cs len cap ex _ _ e => e) (fun d _ => d) (fun _ d _ => d) (fun d _ => d) (fun _ _ _ _ _ d _ => d) (fun d _ => d) (fun _ _ _ d _ => d) (fun _ _ d _ => d) (fun _ _ d _ => d) () (fun _ _ _ _ => ())
noncomputable def AV.pIsPtr : AV → Bool → Bool → Bool := AV.rec (motive_1 := fun _ => Bool → Bool → Bool) (motive_2 := fun _ => Unit) (fun _ d _ => d) (fun _ _ d _ => d) (fun _ d _ => d) (fun _ e => e) (fun b o _ e => e) (fun cs _ _ e => e) (fun d _ => d) (fun _ _ _ _ _ d _ => d) (fun _ _ _ _ _ d _ => d) (fun d _ => d) (fun _ d _ => d) (fun d _ => d) (fun _ _ _ _ _ d _ => d) (fun d _ => d) (fun _ _ _ d _ => d) (fun _ _ d _ => d) (fun _ _ d _ => d) () (fun _ _ _ _ => ())
noncomputable def AV.pIsMap : AV → Bool → Bool → Bool := AV.rec (motive_1 := fun _ => Bool → Bool → Bool) (motive_2 := fun _ => Unit) (fun _ d _ => d) (fun _ _ d _ => d) (fun _ d _ => d) (fun d _ => d) (fun _ _ d _ => d) (fun _ _ d _ => d) (fun d _ => d) (fun _ _ _ _ _ d _ => d) (fun _ _ _ _ _ d _ => d) (fun _ e => e) (fun b _ e => e) (fun d _ => d) (fun _ _ _ _ _ d _ => d) (fun d _ => d) (fun _ _ _ d _ => d) (fun _ _ d _ => d) (fun _ _ d _ => d) () (fun _ _ _ _ => ())
noncomputable def AV.pIsFn : AV → Bool → Bool → Bool := AV.rec (motive_1 := fun _ => Bool → Bool → Bool) (motive_2 := fun _ => Unit) (fun _ d _ => d) (fun _ _ d _ => d) (fun _ d _ => d) (fun d _ => d) (fun _ _ d _ => d) (fun _ _ d _ => d) (fun d _ => d) (fun _ _ _ _ _ d _ => d) (fun _ _ _ _ _ d _ => d) (fun d _ => d) (fun _ d _ => d) (fun _ e => e) (fun f first cap _ _ _ e => e) (fun d _ => d) (fun _ _ _ d _ => d) (fun _ _ d _ => d) (fun _ _ d _ => d) () (fun _ _ _ _ => ())
noncomputable def AV.pIsIfc : AV → Bool → Bool → Bool := AV.rec (motive_1 := fun _ => Bool → Bool → Bool) (motive_2 := fun _ => Unit) (fun _ d _ => d) (fun _ _ d _ => d) (fun _ d _ => d) (fun d _ => d) (fun _ _ d _ => d) (fun _ _ d _ => d) (fun d _ => d) (fun _ _ _ _ _ d _ => d) (fun _ _ _ _ _ d _ => d) (fun d _ => d) (fun _ d _ => d) (fun d _ => d) (fun _ _ _ _ _ d _ => d) (fun _ e => e) (fun t v _ _ e => e) (fun _ _ d _ => d) (fun _ _ d _ => d) () (fun _ _ _ _ => ())
noncomputable def AV.rBool : AV → RC → (Bool → RC) → RC := AV.rec (motive_1 := fun _ => RC → (Bool → RC) → RC) (motive_2 := fun _ => Unit) (fun b _ h => h b) (fun _ _ d _ => d) (fun _ d _ => d) (fun d _ => d) (fun _ _ d _ => d) (fun _ _ d _ => d) (fun d _ => d) (fun _ _ _ _ _ d _ => d) (fun _ _ _ _ _ d _ => d) (fun d _ => d) (fun _ d _ => d) (fun d _ => d) (fun _ _ _ _ _ d _ => d) (fun d _ => d) (fun _ _ _ d _ => d) (fun _ _ d _ => d) (fun _ _ d _ => d) () (fun _ _ _ _ => ())
noncomputable def brR (b : Bool) (x y : R) : R := Bool.rec (motive := fun _ => R) y x b
noncomputable def brC (b : Bool) (x y : RC) : RC := Bool.rec (motive := fun _ => RC) y x b
noncomputable def brB (b : Bool) (x y : Bool) : Bool := Bool.rec (motive := fun _ => Bool) y x b
noncomputable def R.qon (r : R) (d : RC) (k : AV → St → RC) : RC := R.rec (motive := fun _ => RC) d k r
noncomputable def RC.qon (r : RC) (d : RC) (k : Fr AV → St → RC) (e : Nat → Fr AV → St → RC) (t : Fr AV → St → RC) : RC := RC.rec (motive := fun _ => RC) d k e t r
noncomputable def AO.qCells : AO → R → (List AV → R) → R := AO.rec (motive := fun _ => R → (List AV → R) → R) (fun cs _ k => k cs) (fun _ d _ => d) (fun d _ => d)
noncomputable def AO.qMap : AO → R → (List (AV × AV) → R) → R := AO.rec (motive := fun _ => R → (List (AV × AV) → R) → R) (fun _ d _ => d) (fun es _ k => k es) (fun d _ => d)
noncomputable def gA0 : F16 (AV) → AV := F16.rec (motive := fun _ => AV) (fun a0 a1 a2 a3 a4 a5 a6 a7 a8 a9 a10 a11 a12 a13 a14 a15 => a0)
noncomputable def gA1 : F16 (AV) → AV := F16.rec (motive := fun _ => AV) (fun a0 a1 a2 a3 a4 a5 a6 a7 a8 a9 a10 a11 a12 a13 a14 a15 => a1)
noncomputable def gA2 : F16 (AV) → AV := F16.rec (motive := fun _ => AV) (fun a0 a1 a2 a3 a4 a5 a6 a7 a8 a9 a10 a11 a12 a13 a14 a15 => a2)
noncomputable def gA3 : F16 (AV) → AV := F16.rec (motive := fun _ => AV) (fun a0 a1 a2 a3 a4 a5 a6 a7 a8 a9 a10 a11 a12 a13 a14 a15 => a3)
noncomputable def gA4 : F16 (AV) → AV := F16.rec (motive := fun _ => AV) (fun a0 a1 a2 a3 a4 a5 a6 a7 a8 a9 a10 a11 a12 a13 a14 a15 => a4)
noncomputable def gA5 : F16 (AV) → AV := F16.rec (motive := fun _ => AV) (fun a0 a1 a2 a3 a4 a5 a6 a7 a8 a9 a10 a11 a12 a13 a14 a15 => a5)
noncomputable def gA6 : F16 (AV) → AV := F16.rec (motive := fun _ => AV) (fun a0 a1 a2 a3 a4 a5 a6 a7 a8 a9 a10 a11 a12 a13 a14 a15 => a6)
noncomputable def gA7 : F16 (AV) → AV := F16.rec (motive := fun _ => AV) (fun a0 a1 a2 a3 a4 a5 a6 a7 a8 a9 a10 a11 a12 a13 a14 a15 => a7)
noncomputable def gA8 : F16 (AV) → AV := F16.rec (motive := fun _ => AV) (fun a0 a1 a2 a3 a4 a5 a6 a7 a8 a9 a10 a11 a12 a13 a14 a15 => a8)
noncomputable def gA9 : F16 (AV) → AV := F16.rec (motive := fun _ => AV) (fun a0 a1 a2 a3 a4 a5 a6 a7 a8 a9 a10 a11 a12 a13 a14 a15 => a9)
noncomputable def gA10 : F16 (AV) → AV := F16.rec (motive := fun _ => AV) (fun a0 a1 a2 a3 a4 a5 a6 a7 a8 a9 a10 a11 a12 a13 a14 a15 => a10)
noncomputable def gA11 : F16 (AV) → AV := F16.rec (motive := fun _ => AV) (fun a0 a1 a2 a3 a4 a5 a6 a7 a8 a9 a10 a11 a12 a13 a14 a15 => a11)
noncomputable def gA12 : F16 (AV) → AV := F16.rec (motive := fun _ => AV) (fun a0 a1 a2 a3 a4 a5 a6 a7 a8 a9 a10 a11 a12 a13 a14 a15 => a12)
noncomputable def gA13 : F16 (AV) → AV := F16.rec (motive := fun _ => AV) (fun a0 a1 a2 a3 a4 a5 a6 a7 a8 a9 a10 a11 a12 a13 a14 a15 => a13)
noncomputable def gA14 : F16 (AV) → AV := F16.rec (motive := fun _ => AV) (fun a0 a1 a2 a3 a4 a5 a6 a7 a8 a9 a10 a11 a12 a13 a14 a15 => a14)
noncomputable def gA15 : F16 (AV) → AV := F16.rec (motive := fun _ => AV) (fun a0 a1 a2 a3 a4 a5 a6 a7 a8 a9 a10 a11 a12 a13 a14 a15 => a15)
noncomputable def sA0 : F16 (AV) → (AV) → F16 (AV) := F16.rec (motive := fun _ => (AV) → F16 (AV)) (fun a0 a1 a2 a3 a4 a5 a6 a7 a8 a9 a10 a11 a12 a13 a14 a15 v => .mk v a1 a2 a3 a4 a5 a6 a7 a8 a9 a10 a11 a12 a13 a14 a15)
noncomputable def sA1 : F16 (AV) → (AV) → F16 (AV) := F16.rec (motive := fun _ => (AV) → F16 (AV)) (fun a0 a1 a2 a3 a4 a5 a6 a7 a8 a9 a10 a11 a12 a13 a14 a15 v => .mk a0 v a2 a3 a4 a5 a6 a7 a8 a9 a10 a11 a12 a13 a14 a15)
noncomputable def sA2 : F16 (AV) → (AV) → F16 (AV) := F16.rec (motive := fun _ => (AV) → F16 (AV)) (fun a0 a1 a2 a3 a4 a5 a6 a7 a8 a9 a10 a11 a12 a13 a14 a15 v => .mk a0 a1 v a3 a4 a5 a6 a7 a8 a9 a10 a11 a12 a13 a14 a15)
noncomputable def sA3 : F16 (AV) → (AV) → F16 (AV) := F16.rec (motive := fun _ => (AV) → F16 (AV)) (fun a0 a1 a2 a3 a4 a5 a6 a7 a8 a9 a10 a11 a12 a13 a14 a15 v => .mk a0 a1 a2 v a4 a5 a6 a7 a8 a9 a10 a11 a12 a13 a14 a15)
noncomputable def sA4 : F16 (AV) → (AV) → F16 (AV) := F16.rec (motive := fun _ => (AV) → F16 (AV)) (fun a0 a1 a2 a3 a4 a5 a6 a7 a8 a9 a10 a11 a12 a13 a14 a15 v => .mk a0 a1 a2 a3 v a5 a6 a7 a8 a9 a10 a11 a12 a13 a14 a15)
noncomputable def sA5 : F16 (AV) → (AV) → F16 (AV) := F16.rec (motive := fun _ => (AV) → F16 (AV)) (fun a0 a1 a2 a3 a4 a5 a6 a7 a8 a9 a10 a11 a12 a13 a14 a15 v => .mk a0 a1 a2 a3 a4 v a6 a7 a8 a9 a10 a11 a12 a13 a14 a15)
noncomputable def sA6 : F16 (AV) → (AV) → F16 (AV) := F16.rec (motive := fun _ => (AV) → F16 (AV)) (fun a0 a1 a2 a3 a4 a5 a6 a7 a8 a9 a10 a11 a12 a13 a14 a15 v => .mk a0 a1 a2 a3 a4 a5 v a7 a8 a9 a10 a11 a12 a13 a14 a15)
noncomputable def sA7 : F16 (AV) → (AV) → F16 (AV) := F16.rec (motive := fun _ => (AV) → F16 (AV)) (fun a0 a1 a2 a3 a4 a5 a6 a7 a8 a9 a10 a11 a12 a13 a14 a15 v => .mk a0 a1 a2 a3 a4 a5 a6 v a8 a9 a10 a11 a12 a13 a14 a15)
noncomputable def sA8 : F16 (AV) → (AV) → F16 (AV) := F16.rec (motive := fun _ => (AV) → F16 (AV)) (fun a0 a1 a2 a3 a4 a5 a6 a7 a8 a9 a10 a11 a12 a13 a14 a15 v => .mk a0 a1 a2 a3 a4 a5 a6 a7 v a9 a10 a11 a12 a13 a14 a15)
noncomputable def sA9 : F16 (AV) → (AV) → F16 (AV) := F16.rec (motive := fun _ => (AV) → F16 (AV)) (fun a0 a1 a2 a3 a4 a5 a6 a7 a8 a9 a10 a11 a12 a13 a14 a15 v => .mk a0 a1 a2 a3 a4 a5 a6 a7 a8 v a10 a11 a12 a13 a14 a15)
noncomputable def sA10 : F16 (AV) → (AV) → F16 (AV) := F16.rec (motive := fun _ => (AV) → F16 (AV)) (fun a0 a1 a2 a3 a4 a5 a6 a7 a8 a9 a10 a11 a12 a13 a14 a15 v => .mk a0 a1 a2 a3 a4 a5 a6 a7 a8 a9 v a11 a12 a13 a14 a15)
noncomputable def sA11 : F16 (AV) → (AV) → F16 (AV) := F16.rec (motive := fun _ => (AV) → F16 (AV)) (fun a0 a1 a2 a3 a4 a5 a6 a7 a8 a9 a10 a11 a12 a13 a14 a15 v => .mk a0 a1 a2 a3 a4 a5 a6 a7 a8 a9 a10 v a12 a13 a14 a15)
noncomputable def sA12 : F16 (AV) → (AV) → F16 (AV) := F16.rec (motive := fun _ => (AV) → F16 (AV)) (fun a0 a1 a2 a3 a4 a5 a6 a7 a8 a9 a10 a11 a12 a13 a14 a15 v => .mk a0 a1 a2 a3 a4 a5 a6 a7 a8 a9 a10 a11 v a13 a14 a15)
noncomputable def sA13 : F16 (AV) → (AV) → F16 (AV) := F16.rec (motive := fun _ => (AV) → F16 (AV)) (fun a0 a1 a2 a3 a4 a5 a6 a7 a8 a9 a10 a11 a12 a13 a14 a15 v => .mk a0 a1 a2 a3 a4 a5 a6 a7 a8 a9 a10 a11 a12 v a14 a15)
noncomputable def sA14 : F16 (AV) → (AV) → F16 (AV) := F16.rec (motive := fun _ => (AV) → F16 (AV)) (fun a0 a1 a2 a3 a4 a5 a6 a7 a8 a9 a10 a11 a12 a13 a14 a15 v => .mk a0 a1 a2 a3 a4 a5 a6 a7 a8 a9 a10 a11 a12 a13 v a15)
noncomputable def sA15 : F16 (AV) → (AV) → F16 (AV) := F16.rec (motive := fun _ => (AV) → F16 (AV)) (fun a0 a1 a2 a3 a4 a5 a6 a7 a8 a9 a10 a11 a12 a13 a14 a15 v => .mk a0 a1 a2 a3 a4 a5 a6 a7 a8 a9 a10 a11 a12 a13 a14 v)
noncomputable def getA : D16 → F16 (AV) → AV := D16.rec (motive := fun _ => F16 (AV) → AV) gA0 gA1 gA2 gA3 gA4 gA5 gA6 gA7 gA8 gA9 gA10 gA11 gA12 gA13 gA14 gA15
noncomputable def setA : D16 → F16 (AV) → (AV) → F16 (AV) := D16.rec (motive := fun _ => F16 (AV) → (AV) → F16 (AV)) sA0 sA1 sA2 sA3 sA4 sA5 sA6 sA7 sA8 sA9 sA10 sA11 sA12 sA13 sA14 sA15
theorem getA_eq (d : D16) (f : F16 (AV)) : getA d f = d.get f := by cases d <;> rfl
theorem setA_eq (d : D16) (f : F16 (AV)) (v : AV) : setA d f v = d.set v f := by cases f; cases d <;> rfl
noncomputable def gB0 : F16 (F16 AV) → F16 AV := F16.rec (motive := fun _ => F16 AV) (fun a0 a1 a2 a3 a4 a5 a6 a7 a8 a9 a10 a11 a12 a13 a14 a15 => a0)
noncomputable def gB1 : F16 (F16 AV) → F16 AV := F16.rec (motive := fun _ => F16 AV) (fun a0 a1 a2 a3 a4 a5 a6 a7 a8 a9 a10 a11 a12 a13 a14 a15 => a1)
noncomputable def gB2 : F16 (F16 AV) → F16 AV := F16.rec (motive := fun _ => F16 AV) (fun a0 a1 a2 a3 a4 a5 a6 a7 a8 a9 a10 a11 a12 a13 a14 a15 => a2)
noncomputable def gB3 : F16 (F16 AV) → F16 AV := F16.rec (motive := fun _ => F16 AV) (fun a0 a1 a2 a3 a4 a5 a6 a7 a8 a9 a10 a11 a12 a13 a14 a15 => a3)
noncomputable def gB4 : F16 (F16 AV) → F16 AV := F16.rec (motive := fun _ => F16 AV) (fun a0 a1 a2 a3 a4 a5 a6 a7 a8 a9 a10 a11 a12 a13 a14 a15 => a4)
noncomputable def gB5 : F16 (F16 AV) → F16 AV := F16.rec (motive := fun _ => F16 AV) (fun a0 a1 a2 a3 a4 a5 a6 a7 a8 a9 a10 a11 a12 a13 a14 a15 => a5)
noncomputable def gB6 : F16 (F16 AV) → F16 AV := F16.rec (motive := fun _ => F16 AV) (fun a0 a1 a2 a3 a4 a5 a6 a7 a8 a9 a10 a11 a12 a13 a14 a15 => a6)
noncomputable def gB7 : F16 (F16 AV) → F16 AV := F16.rec (motive := fun _ => F16 AV) (fun a0 a1 a2 a3 a4 a5 a6 a7 a8 a9 a10 a11 a12 a13 a14 a15 => a7)
noncomputable def gB8 : F16 (F16 AV) → F16 AV := F16.rec (motive := fun _ => F16 AV) (fun a0 a1 a2 a3 a4 a5 a6 a7 a8 a9 a10 a11 a12 a13 a14 a15 => a8)
noncomputable def gB9 : F16 (F16 AV) → F16 AV := F16.rec (motive := fun _ => F16 AV) (fun a0 a1 a2 a3 a4 a5 a6 a7 a8 a9 a10 a11 a12 a13 a14 a15 => a9)
noncomputable def gB10 : F16 (F16 AV) → F16 AV := F16.rec (motive := fun _ => F16 AV) (fun a0 a1 a2 a3 a4 a5 a6 a7 a8 a9 a10 a11 a12 a13 a14 a15 => a10)
noncomputable def gB11 : F16 (F16 AV) → F16 AV := F16.rec (motive := fun _ => F16 AV) (fun a0 a1 a2 a3 a4 a5 a6 a7 a8 a9 a10 a11 a12 a13 a14 a15 => a11)
noncomputable def gB12 : F16 (F16 AV) → F16 AV := F16.rec (motive := fun _ => F16 AV) (fun a0 a1 a2 a3 a4 a5 a6 a7 a8 a9 a10 a11 a12 a13 a14 a15 => a12)
noncomputable def gB13 : F16 (F16 AV) → F16 AV := F16.rec (motive := fun _ => F16 AV) (fun a0 a1 a2 a3 a4 a5 a6 a7 a8 a9 a10 a11 a12 a13 a14 a15 => a13)
noncomputable def gB14 : F16 (F16 AV) → F16 AV := F16.rec (motive := fun _ => F16 AV) (fun a0 a1 a2 a3 a4 a5 a6 a7 a8 a9 a10 a11 a12 a13 a14 a15 => a14)
noncomputable def gB15 : F16 (F16 AV) → F16 AV := F16.rec (motive := fun _ => F16 AV) (fun a0 a1 a2 a3 a4 a5 a6 a7 a8 a9 a10 a11 a12 a13 a14 a15 => a15)
noncomputable def sB0 : F16 (F16 AV) → (F16 AV) → F16 (F16 AV) := F16.rec (motive := fun _ => (F16 AV) → F16 (F16 AV)) (fun a0 a1 a2 a3 a4 a5 a6 a7 a8 a9 a10 a11 a12 a13 a14 a15 v => .mk v a1 a2 a3 a4 a5 a6 a7 a8 a9 a10 a11 a12 a13 a14 a15)
noncomputable def sB1 : F16 (F16 AV) → (F16 AV) → F16 (F16 AV) := F16.rec (motive := fun _ => (F16 AV) → F16 (F16 AV)) (fun a0 a1 a2 a3 a4 a5 a6 a7 a8 a9 a10 a11 a12 a13 a14 a15 v => .mk a0 v a2 a3 a4 a5 a6 a7 a8 a9 a10 a11 a12 a13 a14 a15)
noncomputable def sB2 : F16 (F16 AV) → (F16 AV) → F16 (F16 AV) := F16.rec (motive := fun _ => (F16 AV) → F16 (F16 AV)) (fun a0 a1 a2 a3 a4 a5 a6 a7 a8 a9 a10 a11 a12 a13 a14 a15 v => .mk a0 a1 v a3 a4 a5 a6 a7 a8 a9 a10 a11 a12 a13 a14 a15)
noncomputable def sB3 : F16 (F16 AV) → (F16 AV) → F16 (F16 AV) := F16.rec (motive := fun _ => (F16 AV) → F16 (F16 AV)) (fun a0 a1 a2 a3 a4 a5 a6 a7 a8 a9 a10 a11 a12 a13 a14 a15 v => .mk a0 a1 a2 v a4 a5 a6 a7 a8 a9 a10 a11 a12 a13 a14 a15)
noncomputable def sB4 : F16 (F16 AV) → (F16 AV) → F16 (F16 AV) := F16.rec (motive := fun _ => (F16 AV) → F16 (F16 AV)) (fun a0 a1 a2 a3 a4 a5 a6 a7 a8 a9 a10 a11 a12 a13 a14 a15 v => .mk a0 a1 a2 a3 v a5 a6 a7 a8 a9 a10 a11 a12 a13 a14 a15)
noncomputable def sB5 : F16 (F16 AV) → (F16 AV) → F16 (F16 AV) := F16.rec (motive := fun _ => (F16 AV) → F16 (F16 AV)) (fun a0 a1 a2 a3 a4 a5 a6 a7 a8 a9 a10 a11 a12 a13 a14 a15 v => .mk a0 a1 a2 a3 a4 v a6 a7 a8 a9 a10 a11 a12 a13 a14 a15)
noncomputable def sB6 : F16 (F16 AV) → (F16 AV) → F16 (F16 AV) := F16.rec (motive := fun _ => (F16 AV) → F16 (F16 AV)) (fun a0 a1 a2 a3 a4 a5 a6 a7 a8 a9 a10 a11 a12 a13 a14 a15 v => .mk a0 a1 a2 a3 a4 a5 v a7 a8 a9 a10 a11 a12 a13 a14 a15)
noncomputable def sB7 : F16 (F16 AV) → (F16 AV) → F16 (F16 AV) := F16.rec (motive := fun _ => (F16 AV) → F16 (F16 AV)) (fun a0 a1 a2 a3 a4 a5 a6 a7 a8 a9 a10 a11 a12 a13 a14 a15 v => .mk a0 a1 a2 a3 a4 a5 a6 v a8 a9 a10 a11 a12 a13 a14 a15)
noncomputable def sB8 : F16 (F16 AV) → (F16 AV) → F16 (F16 AV) := F16.rec (motive := fun _ => (F16 AV) → F16 (F16 AV)) (fun a0 a1 a2 a3 a4 a5 a6 a7 a8 a9 a10 a11 a12 a13 a14 a15 v => .mk a0 a1 a2 a3 a4 a5 a6 a7 v a9 a10 a11 a12 a13 a14 a15)
noncomputable def sB9 : F16 (F16 AV) → (F16 AV) → F16 (F16 AV) := F16.rec (motive := fun _ => (F16 AV) → F16 (F16 AV)) (fun a0 a1 a2 a3 a4 a5 a6 a7 a8 a9 a10 a11 a12 a13 a14 a15 v => .mk a0 a1 a2 a3 a4 a5 a6 a7 a8 v a10 a11 a12 a13 a14 a15)
noncomputable def sB10 : F16 (F16 AV) → (F16 AV) → F16 (F16 AV) := F16.rec (motive := fun _ => (F16 AV) → F16 (F16 AV)) (fun a0 a1 a2 a3 a4 a5 a6 a7 a8 a9 a10 a11 a12 a13 a14 a15 v => .mk a0 a1 a2 a3 a4 a5 a6 a7 a8 a9 v a11 a12 a13 a14 a15)
noncomputable def sB11 : F16 (F16 AV) → (F16 AV) → F16 (F16 AV) := F16.rec (motive := fun _ => (F16 AV) → F16 (F16 AV)) (fun a0 a1 a2 a3 a4 a5 a6 a7 a8 a9 a10 a11 a12 a13 a14 a15 v => .mk a0 a1 a2 a3 a4 a5 a6 a7 a8 a9 a10 v a12 a13 a14 a15)
noncomputable def sB12 : F16 (F16 AV) → (F16 AV) → F16 (F16 AV) := F16.rec (motive := fun _ => (F16 AV) → F16 (F16 AV)) (fun a0 a1 a2 a3 a4 a5 a6 a7 a8 a9 a10 a11 a12 a13 a14 a15 v => .mk a0 a1 a2 a3 a4 a5 a6 a7 a8 a9 a10 a11 v a13 a14 a15)
noncomputable def sB13 : F16 (F16 AV) → (F16 AV) → F16 (F16 AV) := F16.rec (motive := fun _ => (F16 AV) → F16 (F16 AV)) (fun a0 a1 a2 a3 a4 a5 a6 a7 a8 a9 a10 a11 a12 a13 a14 a15 v => .mk a0 a1 a2 a3 a4 a5 a6 a7 a8 a9 a10 a11 a12 v a14 a15)
noncomputable def sB14 : F16 (F16 AV) → (F16 AV) → F16 (F16 AV) := F16.rec (motive := fun _ => (F16 AV) → F16 (F16 AV)) (fun a0 a1 a2 a3 a4 a5 a6 a7 a8 a9 a10 a11 a12 a13 a14 a15 v => .mk a0 a1 a2 a3 a4 a5 a6 a7 a8 a9 a10 a11 a12 a13 v a15)
noncomputable def sB15 : F16 (F16 AV) → (F16 AV) → F16 (F16 AV) := F16.rec (motive := fun _ => (F16 AV) → F16 (F16 AV)) (fun a0 a1 a2 a3 a4 a5 a6 a7 a8 a9 a10 a11 a12 a13 a14 a15 v => .mk a0 a1 a2 a3 a4 a5 a6 a7 a8 a9 a10 a11 a12 a13 a14 v)
noncomputable def getB : D16 → F16 (F16 AV) → F16 AV := D16.rec (motive := fun _ => F16 (F16 AV) → F16 AV) gB0 gB1 gB2 gB3 gB4 gB5 gB6 gB7 gB8 gB9 gB10 gB11 gB12 gB13 gB14 gB15
noncomputable def setB : D16 → F16 (F16 AV) → (F16 AV) → F16 (F16 AV) := D16.rec (motive := fun _ => F16 (F16 AV) → (F16 AV) → F16 (F16 AV)) sB0 sB1 sB2 sB3 sB4 sB5 sB6 sB7 sB8 sB9 sB10 sB11 sB12 sB13 sB14 sB15
theorem getB_eq (d : D16) (f : F16 (F16 AV)) : getB d f = d.get f := by cases d <;> rfl
theorem setB_eq (d : D16) (f : F16 (F16 AV)) (v : F16 AV) : setB d f v = d.set v f := by cases f; cases d <;> rfl
noncomputable def gH0 : F16 (AO) → AO := F16.rec (motive := fun _ => AO) (fun a0 a1 a2 a3 a4 a5 a6 a7 a8 a9 a10 a11 a12 a13 a14 a15 => a0)
noncomputable def gH1 : F16 (AO) → AO := F16.rec (motive := fun _ => AO) (fun a0 a1 a2 a3 a4 a5 a6 a7 a8 a9 a10 a11 a12 a13 a14 a15 => a1)
noncomputable def gH2 : F16 (AO) → AO := F16.rec (motive := fun _ => AO) (fun a0 a1 a2 a3 a4 a5 a6 a7 a8 a9 a10 a11 a12 a13 a14 a15 => a2)
noncomputable def gH3 : F16 (AO) → AO := F16.rec (motive := fun _ => AO) (fun a0 a1 a2 a3 a4 a5 a6 a7 a8 a9 a10 a11 a12 a13 a14 a15 => a3)
noncomputable def gH4 : F16 (AO) → AO := F16.rec (motive := fun _ => AO) (fun a0 a1 a2 a3 a4 a5 a6 a7 a8 a9 a10 a11 a12 a13 a14 a15 => a4)
noncomputable def gH5 : F16 (AO) → AO := F16.rec (motive := fun _ => AO) (fun a0 a1 a2 a3 a4 a5 a6 a7 a8 a9 a10 a11 a12 a13 a14 a15 => a5)
noncomputable def gH6 : F16 (AO) → AO := F16.rec (motive := fun _ => AO) (fun a0 a1 a2 a3 a4 a5 a6 a7 a8 a9 a10 a11 a12 a13 a14 a15 => a6)
noncomputable def gH7 : F16 (AO) → AO := F16.rec (motive := fun _ => AO) (fun a0 a1 a2 a3 a4 a5 a6 a7 a8 a9 a10 a11 a12 a13 a14 a15 => a7)
noncomputable def gH8 : F16 (AO) → AO := F16.rec (motive := fun _ => AO) (fun a0 a1 a2 a3 a4 a5 a6 a7 a8 a9 a10 a11 a12 a13 a14 a15 => a8)
noncomputable def gH9 : F16 (AO) → AO := F16.rec (motive := fun _ => AO) (fun a0 a1 a2 a3 a4 a5 a6 a7 a8 a9 a10 a11 a12 a13 a14 a15 => a9)
noncomputable def gH10 : F16 (AO) → AO := F16.rec (motive := fun _ => AO) (fun a0 a1 a2 a3 a4 a5 a6 a7 a8 a9 a10 a11 a12 a13 a14 a15 => a10)
noncomputable def gH11 : F16 (AO) → AO := F16.rec (motive := fun _ => AO) (fun a0 a1 a2 a3 a4 a5 a6 a7 a8 a9 a10 a11 a12 a13 a14 a15 => a11)
noncomputable def gH12 : F16 (AO) → AO := F16.rec (motive := fun _ => AO) (fun a0 a1 a2 a3 a4 a5 a6 a7 a8 a9 a10 a11 a12 a13 a14 a15 => a12)
noncomputable def gH13 : F16 (AO) → AO := F16.rec (motive := fun _ => AO) (fun a0 a1 a2 a3 a4 a5 a6 a7 a8 a9 a10 a11 a12 a13 a14 a15 => a13)
noncomputable def gH14 : F16 (AO) → AO := F16.rec (motive := fun _ => AO) (fun a0 a1 a2 a3 a4 a5 a6 a7 a8 a9 a10 a11 a12 a13 a14 a15 => a14)
noncomputable def gH15 : F16 (AO) → AO := F16.rec (motive := fun _ => AO) (fun a0 a1 a2 a3 a4 a5 a6 a7 a8 a9 a10 a11 a12 a13 a14 a15 => a15)
noncomputable def sH0 : F16 (AO) → (AO) → F16 (AO) := F16.rec (motive := fun _ => (AO) → F16 (AO)) (fun a0 a1 a2 a3 a4 a5 a6 a7 a8 a9 a10 a11 a12 a13 a14 a15 v => .mk v a1 a2 a3 a4 a5 a6 a7 a8 a9 a10 a11 a12 a13 a14 a15)
noncomputable def sH1 : F16 (AO) → (AO) → F16 (AO) := F16.rec (motive := fun _ => (AO) → F16 (AO)) (fun a0 a1 a2 a3 a4 a5 a6 a7 a8 a9 a10 a11 a12 a13 a14 a15 v => .mk a0 v a2 a3 a4 a5 a6 a7 a8 a9 a10 a11 a12 a13 a14 a15)
noncomputable def sH2 : F16 (AO) → (AO) → F16 (AO) := F16.rec (motive := fun _ => (AO) → F16 (AO)) (fun a0 a1 a2 a3 a4 a5 a6 a7 a8 a9 a10 a11 a12 a13 a14 a15 v => .mk a0 a1 v a3 a4 a5 a6 a7 a8 a9 a10 a11 a12 a13 a14 a15)
noncomputable def sH3 : F16 (AO) → (AO) → F16 (AO) := F16.rec (motive := fun _ => (AO) → F16 (AO)) (fun a0 a1 a2 a3 a4 a5 a6 a7 a8 a9 a10 a11 a12 a13 a14 a15 v => .mk a0 a1 a2 v a4 a5 a6 a7 a8 a9 a10 a11 a12 a13 a14 a15)
noncomputable def sH4 : F16 (AO) → (AO) → F16 (AO) := F16.rec (motive := fun _ => (AO) → F16 (AO)) (fun a0 a1 a2 a3 a4 a5 a6 a7 a8 a9 a10 a11 a12 a13 a14 a15 v => .mk a0 a1 a2 a3 v a5 a6 a7 a8 a9 a10 a11 a12 a13 a14 a15)
noncomputable def sH5 : F16 (AO) → (AO) → F16 (AO) := F16.rec (motive := fun _ => (AO) → F16 (AO)) (fun a0 a1 a2 a3 a4 a5 a6 a7 a8 a9 a10 a11 a12 a13 a14 a15 v => .mk a0 a1 a2 a3 a4 v a6 a7 a8 a9 a10 a11 a12 a13 a14 a15)
noncomputable def sH6 : F16 (AO) → (AO) → F16 (AO) := F16.rec (motive := fun _ => (AO) → F16 (AO)) (fun a0 a1 a2 a3 a4 a5 a6 a7 a8 a9 a10 a11 a12 a13 a14 a15 v => .mk a0 a1 a2 a3 a4 a5 v a7 a8 a9 a10 a11 a12 a13 a14 a15)
noncomputable def sH7 : F16 (AO) → (AO) → F16 (AO) := F16.rec (motive := fun _ => (AO) → F16 (AO)) (fun a0 a1 a2 a3 a4 a5 a6 a7 a8 a9 a10 a11 a12 a13 a14 a15 v => .mk a0 a1 a2 a3 a4 a5 a6 v a8 a9 a10 a11 a12 a13 a14 a15)
noncomputable def sH8 : F16 (AO) → (AO) → F16 (AO) := F16.rec (motive := fun _ => (AO) → F16 (AO)) (fun a0 a1 a2 a3 a4 a5 a6 a7 a8 a9 a10 a11 a12 a13 a14 a15 v => .mk a0 a1 a2 a3 a4 a5 a6 a7 v a9 a10 a11 a12 a13 a14 a15)
noncomputable def sH9 : F16 (AO) → (AO) → F16 (AO) := F16.rec (motive := fun _ => (AO) → F16 (AO)) (fun a0 a1 a2 a3 a4 a5 a6 a7 a8 a9 a10 a11 a12 a13 a14 a15 v => .mk a0 a1 a2 a3 a4 a5 a6 a7 a8 v a10 a11 a12 a13 a14 a15)
noncomputable def sH10 : F16 (AO) → (AO) → F16 (AO) := F16.rec (motive := fun _ => (AO) → F16 (AO)) (fun a0 a1 a2 a3 a4 a5 a6 a7 a8 a9 a10 a11 a12 a13 a14 a15 v => .mk a0 a1 a2 a3 a4 a5 a6 a7 a8 a9 v a11 a12 a13 a14 a15)
noncomputable def sH11 : F16 (AO) → (AO) → F16 (AO) := F16.rec (motive := fun _ => (AO) → F16 (AO)) (fun a0 a1 a2 a3 a4 a5 a6 a7 a8 a9 a10 a11 a12 a13 a14 a15 v => .mk a0 a1 a2 a3 a4 a5 a6 a7 a8 a9 a10 v a12 a13 a14 a15)
noncomputable def sH12 : F16 (AO) → (AO) → F16 (AO) := F16.rec (motive := fun _ => (AO) → F16 (AO)) (fun a0 a1 a2 a3 a4 a5 a6 a7 a8 a9 a10 a11 a12 a13 a14 a15 v => .mk a0 a1 a2 a3 a4 a5 a6 a7 a8 a9 a10 a11 v a13 a14 a15)
noncomputable def sH13 : F16 (AO) → (AO) → F16 (AO) := F16.rec (motive := fun _ => (AO) → F16 (AO)) (fun a0 a1 a2 a3 a4 a5 a6 a7 a8 a9 a10 a11 a12 a13 a14 a15 v => .mk a0 a1 a2 a3 a4 a5 a6 a7 a8 a9 a10 a11 a12 v a14 a15)
noncomputable def sH14 : F16 (AO) → (AO) → F16 (AO) := F16.rec (motive := fun _ => (AO) → F16 (AO)) (fun a0 a1 a2 a3 a4 a5 a6 a7 a8 a9 a10 a11 a12 a13 a14 a15 v => .mk a0 a1 a2 a3 a4 a5 a6 a7 a8 a9 a10 a11 a12 a13 v a15)
noncomputable def sH15 : F16 (AO) → (AO) → F16 (AO) := F16.rec (motive := fun _ => (AO) → F16 (AO)) (fun a0 a1 a2 a3 a4 a5 a6 a7 a8 a9 a10 a11 a12 a13 a14 a15 v => .mk a0 a1 a2 a3 a4 a5 a6 a7 a8 a9 a10 a11 a12 a13 a14 v)
noncomputable def getH : D16 → F16 (AO) → AO := D16.rec (motive := fun _ => F16 (AO) → AO) gH0 gH1 gH2 gH3 gH4 gH5 gH6 gH7 gH8 gH9 gH10 gH11 gH12 gH13 gH14 gH15
noncomputable def setH : D16 → F16 (AO) → (AO) → F16 (AO) := D16.rec (motive := fun _ => F16 (AO) → (AO) → F16 (AO)) sH0 sH1 sH2 sH3 sH4 sH5 sH6 sH7 sH8 sH9 sH10 sH11 sH12 sH13 sH14 sH15
theorem getH_eq (d : D16) (f : F16 (AO)) : getH d f = d.get f := by cases d <;> rfl
theorem setH_eq (d : D16) (f : F16 (AO)) (v : AO) : setH d f v = d.set v f := by cases f; cases d <;> rfl
noncomputable def gI0 : F16 (F16 AO) → F16 AO := F16.rec (motive := fun _ => F16 AO) (fun a0 a1 a2 a3 a4 a5 a6 a7 a8 a9 a10 a11 a12 a13 a14 a15 => a0)
noncomputable def gI1 : F16 (F16 AO) → F16 AO := F16.rec (motive := fun _ => F16 AO) (fun a0 a1 a2 a3 a4 a5 a6 a7 a8 a9 a10 a11 a12 a13 a14 a15 => a1)
noncomputable def gI2 : F16 (F16 AO) → F16 AO := F16.rec (motive := fun _ => F16 AO) (fun a0 a1 a2 a3 a4 a5 a6 a7 a8 a9 a10 a11 a12 a13 a14 a15 => a2)
noncomputable def gI3 : F16 (F16 AO) → F16 AO := F16.rec (motive := fun _ => F16 AO) (fun a0 a1 a2 a3 a4 a5 a6 a7 a8 a9 a10 a11 a12 a13 a14 a15 => a3)
noncomputable def gI4 : F16 (F16 AO) → F16 AO := F16.rec (motive := fun _ => F16 AO) (fun a0 a1 a2 a3 a4 a5 a6 a7 a8 a9 a10 a11 a12 a13 a14 a15 => a4)
noncomputable def gI5 : F16 (F16 AO) → F16 AO := F16.rec (motive := fun _ => F16 AO) (fun a0 a1 a2 a3 a4 a5 a6 a7 a8 a9 a10 a11 a12 a13 a14 a15 => a5)
noncomputable def gI6 : F16 (F16 AO) → F16 AO := F16.rec (motive := fun _ => F16 AO) (fun a0 a1 a2 a3 a4 a5 a6 a7 a8 a9 a10 a11 a12 a13 a14 a15 => a6)
noncomputable def gI7 : F16 (F16 AO) → F16 AO := F16.rec (motive := fun _ => F16 AO) (fun a0 a1 a2 a3 a4 a5 a6 a7 a8 a9 a10 a11 a12 a13 a14 a15 => a7)
noncomputable def gI8 : F16 (F16 AO) → F16 AO := F16.rec (motive := fun _ => F16 AO) (fun a0 a1 a2 a3 a4 a5 a6 a7 a8 a9 a10 a11 a12 a13 a14 a15 => a8)
noncomputable def gI9 : F16 (F16 AO) → F16 AO := F16.rec (motive := fun _ => F16 AO) (fun a0 a1 a2 a3 a4 a5 a6 a7 a8 a9 a10 a11 a12 a13 a14 a15 => a9)
noncomputable def gI10 : F16 (F16 AO) → F16 AO := F16.rec (motive := fun _ => F16 AO) (fun a0 a1 a2 a3 a4 a5 a6 a7 a8 a9 a10 a11 a12 a13 a14 a15 => a10)
noncomputable def gI11 : F16 (F16 AO) → F16 AO := F16.rec (motive := fun _ => F16 AO) (fun a0 a1 a2 a3 a4 a5 a6 a7 a8 a9 a10 a11 a12 a13 a14 a15 => a11)
noncomputable def gI12 : F16 (F16 AO) → F16 AO := F16.rec (motive := fun _ => F16 AO) (fun a0 a1 a2 a3 a4 a5 a6 a7 a8 a9 a10 a11 a12 a13 a14 a15 => a12)
noncomputable def gI13 : F16 (F16 AO) → F16 AO := F16.rec (motive := fun _ => F16 AO) (fun a0 a1 a2 a3 a4 a5 a6 a7 a8 a9 a10 a11 a12 a13 a14 a15 => a13)
noncomputable def gI14 : F16 (F16 AO) → F16 AO := F16.rec (motive := fun _ => F16 AO) (fun a0 a1 a2 a3 a4 a5 a6 a7 a8 a9 a10 a11 a12 a13 a14 a15 => a14)
noncomputable def gI15 : F16 (F16 AO) → F16 AO := F16.rec (motive := fun _ => F16 AO) (fun a0 a1 a2 a3 a4 a5 a6 a7 a8 a9 a10 a11 a12 a13 a14 a15 => a15)
noncomputable def sI0 : F16 (F16 AO) → (F16 AO) → F16 (F16 AO) := F16.rec (motive := fun _ => (F16 AO) → F16 (F16 AO)) (fun a0 a1 a2 a3 a4 a5 a6 a7 a8 a9 a10 a11 a12 a13 a14 a15 v => .mk v a1 a2 a3 a4 a5 a6 a7 a8 a9 a10 a11 a12 a13 a14 a15)
noncomputable def sI1 : F16 (F16 AO) → (F16 AO) → F16 (F16 AO) := F16.rec (motive := fun _ => (F16 AO) → F16 (F16 AO)) (fun a0 a1 a2 a3 a4 a5 a6 a7 a8 a9 a10 a11 a12 a13 a14 a15 v => .mk a0 v a2 a3 a4 a5 a6 a7 a8 a9 a10 a11 a12 a13 a14 a15)
noncomputable def sI2 : F16 (F16 AO) → (F16 AO) → F16 (F16 AO) := F16.rec (motive := fun _ => (F16 AO) → F16 (F16 AO)) (fun a0 a1 a2 a3 a4 a5 a6 a7 a8 a9 a10 a11 a12 a13 a14 a15 v => .mk a0 a1 v a3 a4 a5 a6 a7 a8 a9 a10 a11 a12 a13 a14 a15)
noncomputable def sI3 : F16 (F16 AO) → (F16 AO) → F16 (F16 AO) := F16.rec (motive := fun _ => (F16 AO) → F16 (F16 AO)) (fun a0 a1 a2 a3 a4 a5 a6 a7 a8 a9 a10 a11 a12 a13 a14 a15 v => .mk a0 a1 a2 v a4 a5 a6 a7 a8 a9 a10 a11 a12 a13 a14 a15)
noncomputable def sI4 : F16 (F16 AO) → (F16 AO) → F16 (F16 AO) := F16.rec (motive := fun _ => (F16 AO) → F16 (F16 AO)) (fun a0 a1 a2 a3 a4 a5 a6 a7 a8 a9 a10 a11 a12 a13 a14 a15 v => .mk a0 a1 a2 a3 v a5 a6 a7 a8 a9 a10 a11 a12 a13 a14 a15)
noncomputable def sI5 : F16 (F16 AO) → (F16 AO) → F16 (F16 AO) := F16.rec (motive := fun _ => (F16 AO) → F16 (F16 AO)) (fun a0 a1 a2 a3 a4 a5 a6 a7 a8 a9 a10 a11 a12 a13 a14 a15 v => .mk a0 a1 a2 a3 a4 v a6 a7 a8 a9 a10 a11 a12 a13 a14 a15)
noncomputable def sI6 : F16 (F16 AO) → (F16 AO) → F16 (F16 AO) := F16.rec (motive := fun _ => (F16 AO) → F16 (F16 AO)) (fun a0 a1 a2 a3 a4 a5 a6 a7 a8 a9 a10 a11 a12 a13 a14 a15 v => .mk a0 a1 a2 a3 a4 a5 v a7 a8 a9 a10 a11 a12 a13 a14 a15)
noncomputable def sI7 : F16 (F16 AO) → (F16 AO) → F16 (F16 AO) := F16.rec (motive := fun _ => (F16 AO) → F16 (F16 AO)) (fun a0 a1 a2 a3 a4 a5 a6 a7 a8 a9 a10 a11 a12 a13 a14 a15 v => .mk a0 a1 a2 a3 a4 a5 a6 v a8 a9 a10 a11 a12 a13 a14 a15)
noncomputable def sI8 : F16 (F16 AO) → (F16 AO) → F16 (F16 AO) := F16.rec (motive := fun _ => (F16 AO) → F16 (F16 AO)) (fun a0 a1 a2 a3 a4 a5 a6 a7 a8 a9 a10 a11 a12 a13 a14 a15 v => .mk a0 a1 a2 a3 a4 a5 a6 a7 v a9 a10 a11 a12 a13 a14 a15)
noncomputable def sI9 : F16 (F16 AO) → (F16 AO) → F16 (F16 AO) := F16.rec (motive := fun _ => (F16 AO) → F16 (F16 AO)) (fun a0 a1 a2 a3 a4 a5 a6 a7 a8 a9 a10 a11 a12 a13 a14 a15 v => .mk a0 a1 a2 a3 a4 a5 a6 a7 a8 v a10 a11 a12 a13 a14 a15)
noncomputable def sI10 : F16 (F16 AO) → (F16 AO) → F16 (F16 AO) := F16.rec (motive := fun _ => (F16 AO) → F16 (F16 AO)) (fun a0 a1 a2 a3 a4 a5 a6 a7 a8 a9 a10 a11 a12 a13 a14 a15 v => .mk a0 a1 a2 a3 a4 a5 a6 a7 a8 a9 v a11 a12 a13 a14 a15)
noncomputable def sI11 : F16 (F16 AO) → (F16 AO) → F16 (F16 AO) := F16.rec (motive := fun _ => (F16 AO) → F16 (F16 AO)) (fun a0 a1 a2 a3 a4 a5 a6 a7 a8 a9 a10 a11 a12 a13 a14 a15 v => .mk a0 a1 a2 a3 a4 a5 a6 a7 a8 a9 a10 v a12 a13 a14 a15)
noncomputable def sI12 : F16 (F16 AO) → (F16 AO) → F16 (F16 AO) := F16.rec (motive := fun _ => (F16 AO) → F16 (F16 AO)) (fun a0 a1 a2 a3 a4 a5 a6 a7 a8 a9 a10 a11 a12 a13 a14 a15 v => .mk a0 a1 a2 a3 a4 a5 a6 a7 a8 a9 a10 a11 v a13 a14 a15)
noncomputable def sI13 : F16 (F16 AO) → (F16 AO) → F16 (F16 AO) := F16.rec (motive := fun _ => (F16 AO) → F16 (F16 AO)) (fun a0 a1 a2 a3 a4 a5 a6 a7 a8 a9 a10 a11 a12 a13 a14 a15 v => .mk a0 a1 a2 a3 a4 a5 a6 a7 a8 a9 a10 a11 a12 v a14 a15)
noncomputable def sI14 : F16 (F16 AO) → (F16 AO) → F16 (F16 AO) := F16.rec (motive := fun _ => (F16 AO) → F16 (F16 AO)) (fun a0 a1 a2 a3 a4 a5 a6 a7 a8 a9 a10 a11 a12 a13 a14 a15 v => .mk a0 a1 a2 a3 a4 a5 a6 a7 a8 a9 a10 a11 a12 a13 v a15)
noncomputable def sI15 : F16 (F16 AO) → (F16 AO) → F16 (F16 AO) := F16.rec (motive := fun _ => (F16 AO) → F16 (F16 AO)) (fun a0 a1 a2 a3 a4 a5 a6 a7 a8 a9 a10 a11 a12 a13 a14 a15 v => .mk a0 a1 a2 a3 a4 a5 a6 a7 a8 a9 a10 a11 a12 a13 a14 v)
noncomputable def getI : D16 → F16 (F16 AO) → F16 AO := D16.rec (motive := fun _ => F16 (F16 AO) → F16 AO) gI0 gI1 gI2 gI3 gI4 gI5 gI6 gI7 gI8 gI9 gI10 gI11 gI12 gI13 gI14 gI15
noncomputable def setI : D16 → F16 (F16 AO) → (F16 AO) → F16 (F16 AO) := D16.rec (motive := fun _ => F16 (F16 AO) → (F16 AO) → F16 (F16 AO)) sI0 sI1 sI2 sI3 sI4 sI5 sI6 sI7 sI8 sI9 sI10 sI11 sI12 sI13 sI14 sI15
theorem getI_eq (d : D16) (f : F16 (F16 AO)) : getI d f = d.get f := by cases d <;> rfl
theorem setI_eq (d : D16) (f : F16 (F16 AO)) (v : F16 AO) : setI d f v = d.set v f := by cases f; cases d <;> rfl
noncomputable def gJ0 : F16 (F16 (F16 AO)) → F16 (F16 AO) := F16.rec (motive := fun _ => F16 (F16 AO)) (fun a0 a1 a2 a3 a4 a5 a6 a7 a8 a9 a10 a11 a12 a13 a14 a15 => a0)
noncomputable def gJ1 : F16 (F16 (F16 AO)) → F16 (F16 AO) := F16.rec (motive := fun _ => F16 (F16 AO)) (fun a0 a1 a2 a3 a4 a5 a6 a7 a8 a9 a10 a11 a12 a13 a14 a15 => a1)
noncomputable def gJ2 : F16 (F16 (F16 AO)) → F16 (F16 AO) := F16.rec (motive := fun _ => F16 (F16 AO)) (fun a0 a1 a2 a3 a4 a5 a6 a7 a8 a9 a10 a11 a12 a13 a14 a15 => a2)
noncomputable def gJ3 : F16 (F16 (F16 AO)) → F16 (F16 AO) := F16.rec (motive := fun _ => F16 (F16 AO)) (fun a0 a1 a2 a3 a4 a5 a6 a7 a8 a9 a10 a11 a12 a13 a14 a15 => a3)
noncomputable def gJ4 : F16 (F16 (F16 AO)) → F16 (F16 AO) := F16.rec (motive := fun _ => F16 (F16 AO)) (fun a0 a1 a2 a3 a4 a5 a6 a7 a8 a9 a10 a11 a12 a13 a14 a15 => a4)
noncomputable def gJ5 : F16 (F16 (F16 AO)) → F16 (F16 AO) := F16.rec (motive := fun _ => F16 (F16 AO)) (fun a0 a1 a2 a3 a4 a5 a6 a7 a8 a9 a10 a11 a12 a13 a14 a15 => a5)
noncomputable def gJ6 : F16 (F16 (F16 AO)) → F16 (F16 AO) := F16.rec (motive := fun _ => F16 (F16 AO)) (fun a0 a1 a2 a3 a4 a5 a6 a7 a8 a9 a10 a11 a12 a13 a14 a15 => a6)
noncomputable def gJ7 : F16 (F16 (F16 AO)) → F16 (F16 AO) := F16.rec (motive := fun _ => F16 (F16 AO)) (fun a0 a1 a2 a3 a4 a5 a6 a7 a8 a9 a10 a11 a12 a13 a14 a15 => a7)
noncomputable def gJ8 : F16 (F16 (F16 AO)) → F16 (F16 AO) := F16.rec (motive := fun _ => F16 (F16 AO)) (fun a0 a1 a2 a3 a4 a5 a6 a7 a8 a9 a10 a11 a12 a13 a14 a15 => a8)
noncomputable def gJ9 : F16 (F16 (F16 AO)) → F16 (F16 AO) := F16.rec (motive := fun _ => F16 (F16 AO)) (fun a0 a1 a2 a3 a4 a5 a6 a7 a8 a9 a10 a11 a12 a13 a14 a15 => a9)
noncomputable def gJ10 : F16 (F16 (F16 AO)) → F16 (F16 AO) := F16.rec (motive := fun _ => F16 (F16 AO)) (fun a0 a1 a2 a3 a4 a5 a6 a7 a8 a9 a10 a11 a12 a13 a14 a15 => a10)
noncomputable def gJ11 : F16 (F16 (F16 AO)) → F16 (F16 AO) := F16.rec (motive := fun _ => F16 (F16 AO)) (fun a0 a1 a2 a3 a4 a5 a6 a7 a8 a9 a10 a11 a12 a13 a14 a15 => a11)
noncomputable def gJ12 : F16 (F16 (F16 AO)) → F16 (F16 AO) := F16.rec (motive := fun _ => F16 (F16 AO)) (fun a0 a1 a2 a3 a4 a5 a6 a7 a8 a9 a10 a11 a12 a13 a14 a15 => a12)
noncomputable def gJ13 : F16 (F16 (F16 AO)) → F16 (F16 AO) := F16.rec (motive := fun _ => F16 (F16 AO)) (fun a0 a1 a2 a3 a4 a5 a6 a7 a8 a9 a10 a11 a12 a13 a14 a15 => a13)
noncomputable def gJ14 : F16 (F16 (F16 AO)) → F16 (F16 AO) := F16.rec (motive := fun _ => F16 (F16 AO)) (fun a0 a1 a2 a3 a4 a5 a6 a7 a8 a9 a10 a11 a12 a13 a14 a15 => a14)
noncomputable def gJ15 : F16 (F16 (F16 AO)) → F16 (F16 AO) := F16.rec (motive := fun _ => F16 (F16 AO)) (fun a0 a1 a2 a3 a4 a5 a6 a7 a8 a9 a10 a11 a12 a13 a14 a15 => a15)
noncomputable def sJ0 : F16 (F16 (F16 AO)) → (F16 (F16 AO)) → F16 (F16 (F16 AO)) := F16.rec (motive := fun _ => (F16 (F16 AO)) → F16 (F16 (F16 AO))) (fun a0 a1 a2 a3 a4 a5 a6 a7 a8 a9 a10 a11 a12 a13 a14 a15 v => .mk v a1 a2 a3 a4 a5 a6 a7 a8 a9 a10 a11 a12 a13 a14 a15)
noncomputable def sJ1 : F16 (F16 (F16 AO)) → (F16 (F16 AO)) → F16 (F16 (F16 AO)) := F16.rec (motive := fun _ => (F16 (F16 AO)) → F16 (F16 (F16 AO))) (fun a0 a1 a2 a3 a4 a5 a6 a7 a8 a9 a10 a11 a12 a13 a14 a15 v => .mk a0 v a2 a3 a4 a5 a6 a7 a8 a9 a10 a11 a12 a13 a14 a15)
noncomputable def sJ2 : F16 (F16 (F16 AO)) → (F16 (F16 AO)) → F16 (F16 (F16 AO)) := F16.rec (motive := fun _ => (F16 (F16 AO)) → F16 (F16 (F16 AO))) (fun a0 a1 a2 a3 a4 a5 a6 a7 a8 a9 a10 a11 a12 a13 a14 a15 v => .mk a0 a1 v a3 a4 a5 a6 a7 a8 a9 a10 a11 a12 a13 a14 a15)
noncomputable def sJ3 : F16 (F16 (F16 AO)) → (F16 (F16 AO)) → F16 (F16 (F16 AO)) := F16.rec (motive := fun _ => (F16 (F16 AO)) → F16 (F16 (F16 AO))) (fun a0 a1 a2 a3 a4 a5 a6 a7 a8 a9 a10 a11 a12 a13 a14 a15 v => .mk a0 a1 a2 v a4 a5 a6 a7 a8 a9 a10 a11 a12 a13 a14 a15)
noncomputable def sJ4 : F16 (F16 (F16 AO)) → (F16 (F16 AO)) → F16 (F16 (F16 AO)) := F16.rec (motive := fun _ => (F16 (F16 AO)) → F16 (F16 (F16 AO))) (fun a0 a1 a2 a3 a4 a5 a6 a7 a8 a9 a10 a11 a12 a13 a14 a15 v => .mk a0 a1 a2 a3 v a5 a6 a7 a8 a9 a10 a11 a12 a13 a14 a15)
noncomputable def sJ5 : F16 (F16 (F16 AO)) → (F16 (F16 AO)) → F16 (F16 (F16 AO)) := F16.rec (motive := fun _ => (F16 (F16 AO)) → F16 (F16 (F16 AO))) (fun a0 a1 a2 a3 a4 a5 a6 a7 a8 a9 a10 a11 a12 a13 a14 a15 v => .mk a0 a1 a2 a3 a4 v a6 a7 a8 a9 a10 a11 a12 a13 a14 a15)
noncomputable def sJ6 : F16 (F16 (F16 AO)) → (F16 (F16 AO)) → F16 (F16 (F16 AO)) := F16.rec (motive := fun _ => (F16 (F16 AO)) → F16 (F16 (F16 AO))) (fun a0 a1 a2 a3 a4 a5 a6 a7 a8 a9 a10 a11 a12 a13 a14 a15 v => .mk a0 a1 a2 a3 a4 a5 v a7 a8 a9 a10 a11 a12 a13 a14 a15)
noncomputable def sJ7 : F16 (F16 (F16 AO)) → (F16 (F16 AO)) → F16 (F16 (F16 AO)) := F16.rec (motive := fun _ => (F16 (F16 AO)) → F16 (F16 (F16 AO))) (fun a0 a1 a2 a3 a4 a5 a6 a7 a8 a9 a10 a11 a12 a13 a14 a15 v => .mk a0 a1 a2 a3 a4 a5 a6 v a8 a9 a10 a11 a12 a13 a14 a15)
noncomputable def sJ8 : F16 (F16 (F16 AO)) → (F16 (F16 AO)) → F16 (F16 (F16 AO)) := F16.rec (motive := fun _ => (F16 (F16 AO)) → F16 (F16 (F16 AO))) (fun a0 a1 a2 a3 a4 a5 a6 a7 a8 a9 a10 a11 a12 a13 a14 a15 v => .mk a0 a1 a2 a3 a4 a5 a6 a7 v a9 a10 a11 a12 a13 a14 a15)
noncomputable def sJ9 : F16 (F16 (F16 AO)) → (F16 (F16 AO)) → F16 (F16 (F16 AO)) := F16.rec (motive := fun _ => (F16 (F16 AO)) → F16 (F16 (F16 AO))) (fun a0 a1 a2 a3 a4 a5 a6 a7 a8 a9 a10 a11 a12 a13 a14 a15 v => .mk a0 a1 a2 a3 a4 a5 a6 a7 a8 v a10 a11 a12 a13 a14 a15)
noncomputable def sJ10 : F16 (F16 (F16 AO)) → (F16 (F16 AO)) → F16 (F16 (F16 AO)) := F16.rec (motive := fun _ => (F16 (F16 AO)) → F16 (F16 (F16 AO))) (fun a0 a1 a2 a3 a4 a5 a6 a7 a8 a9 a10 a11 a12 a13 a14 a15 v => .mk a0 a1 a2 a3 a4 a5 a6 a7 a8 a9 v a11 a12 a13 a14 a15)
noncomputable def sJ11 : F16 (F16 (F16 AO)) → (F16 (F16 AO)) → F16 (F16 (F16 AO)) := F16.rec (motive := fun _ => (F16 (F16 AO)) → F16 (F16 (F16 AO))) (fun a0 a1 a2 a3 a4 a5 a6 a7 a8 a9 a10 a11 a12 a13 a14 a15 v => .mk a0 a1 a2 a3 a4 a5 a6 a7 a8 a9 a10 v a12 a13 a14 a15)
noncomputable def sJ12 : F16 (F16 (F16 AO)) → (F16 (F16 AO)) → F16 (F16 (F16 AO)) := F16.rec (motive := fun _ => (F16 (F16 AO)) → F16 (F16 (F16 AO))) (fun a0 a1 a2 a3 a4 a5 a6 a7 a8 a9 a10 a11 a12 a13 a14 a15 v => .mk a0 a1 a2 a3 a4 a5 a6 a7 a8 a9 a10 a11 v a13 a14 a15)
noncomputable def sJ13 : F16 (F16 (F16 AO)) → (F16 (F16 AO)) → F16 (F16 (F16 AO)) := F16.rec (motive := fun _ => (F16 (F16 AO)) → F16 (F16 (F16 AO))) (fun a0 a1 a2 a3 a4 a5 a6 a7 a8 a9 a10 a11 a12 a13 a14 a15 v => .mk a0 a1 a2 a3 a4 a5 a6 a7 a8 a9 a10 a11 a12 v a14 a15)
noncomputable def sJ14 : F16 (F16 (F16 AO)) → (F16 (F16 AO)) → F16 (F16 (F16 AO)) := F16.rec (motive := fun _ => (F16 (F16 AO)) → F16 (F16 (F16 AO))) (fun a0 a1 a2 a3 a4 a5 a6 a7 a8 a9 a10 a11 a12 a13 a14 a15 v => .mk a0 a1 a2 a3 a4 a5 a6 a7 a8 a9 a10 a11 a12 a13 v a15)
noncomputable def sJ15 : F16 (F16 (F16 AO)) → (F16 (F16 AO)) → F16 (F16 (F16 AO)) := F16.rec (motive := fun _ => (F16 (F16 AO)) → F16 (F16 (F16 AO))) (fun a0 a1 a2 a3 a4 a5 a6 a7 a8 a9 a10 a11 a12 a13 a14 a15 v => .mk a0 a1 a2 a3 a4 a5 a6 a7 a8 a9 a10 a11 a12 a13 a14 v)
noncomputable def getJ : D16 → F16 (F16 (F16 AO)) → F16 (F16 AO) := D16.rec (motive := fun _ => F16 (F16 (F16 AO)) → F16 (F16 AO)) gJ0 gJ1 gJ2 gJ3 gJ4 gJ5 gJ6 gJ7 gJ8 gJ9 gJ10 gJ11 gJ12 gJ13 gJ14 gJ15
noncomputable def setJ : D16 → F16 (F16 (F16 AO)) → (F16 (F16 AO)) → F16 (F16 (F16 AO)) := D16.rec (motive := fun _ => F16 (F16 (F16 AO)) → (F16 (F16 AO)) → F16 (F16 (F16 AO))) sJ0 sJ1 sJ2 sJ3 sJ4 sJ5 sJ6 sJ7 sJ8 sJ9 sJ10 sJ11 sJ12 sJ13 sJ14 sJ15
theorem getJ_eq (d : D16) (f : F16 (F16 (F16 AO))) : getJ d f = d.get f := by cases d <;> rfl
theorem setJ_eq (d : D16) (f : F16 (F16 (F16 AO))) (v : F16 (F16 AO)) : setJ d f v = d.set v f := by cases f; cases d <;> rfl
noncomputable def gK0 : F16 (F16 (F16 (F16 AO))) → F16 (F16 (F16 AO)) := F16.rec (motive := fun _ => F16 (F16 (F16 AO))) (fun a0 a1 a2 a3 a4 a5 a6 a7 a8 a9 a10 a11 a12 a13 a14 a15 => a0)
noncomputable def gK1 : F16 (F16 (F16 (F16 AO))) → F16 (F16 (F16 AO)) := F16.rec (motive := fun _ => F16 (F16 (F16 AO))) (fun a0 a1 a2 a3 a4 a5 a6 a7 a8 a9 a10 a11 a12 a13 a14 a15 => a1)
noncomputable def gK2 : F16 (F16 (F16 (F16 AO))) → F16 (F16 (F16 AO)) := F16.rec (motive := fun _ => F16 (F16 (F16 AO))) (fun a0 a1 a2 a3 a4 a5 a6 a7 a8 a9 a10 a11 a12 a13 a14 a15 => a2)
noncomputable def gK3 : F16 (F16 (F16 (F16 AO))) → F16 (F16 (F16 AO)) := F16.rec (motive := fun _ => F16 (F16 (F16 AO))) (fun a0 a1 a2 a3 a4 a5 a6 a7 a8 a9 a10 a11 a12 a13 a14 a15 => a3)
noncomputable def gK4 : F16 (F16 (F16 (F16 AO))) → F16 (F16 (F16 AO)) := F16.rec (motive := fun _ => F16 (F16 (F16 AO))) (fun a0 a1 a2 a3 a4 a5 a6 a7 a8 a9 a10 a11 a12 a13 a14 a15 => a4)
noncomputable def gK5 : F16 (F16 (F16 (F16 AO))) → F16 (F16 (F16 AO)) := F16.rec (motive := fun _ => F16 (F16 (F16 AO))) (fun a0 a1 a2 a3 a4 a5 a6 a7 a8 a9 a10 a11 a12 a13 a14 a15 => a5)
noncomputable def gK6 : F16 (F16 (F16 (F16 AO))) → F16 (F16 (F16 AO)) := F16.rec (motive := fun _ => F16 (F16 (F16 AO))) (fun a0 a1 a2 a3 a4 a5 a6 a7 a8 a9 a10 a11 a12 a13 a14 a15 => a6)
noncomputable def gK7 : F16 (F16 (F16 (F16 AO))) → F16 (F16 (F16 AO)) := F16.rec (motive := fun _ => F16 (F16 (F16 AO))) (fun a0 a1 a2 a3 a4 a5 a6 a7 a8 a9 a10 a11 a12 a13 a14 a15 => a7)
noncomputable def gK8 : F16 (F16 (F16 (F16 AO))) → F16 (F16 (F16 AO)) := F16.rec (motive := fun _ => F16 (F16 (F16 AO))) (fun a0 a1 a2 a3 a4 a5 a6 a7 a8 a9 a10 a11 a12 a13 a14 a15 => a8)
noncomputable def gK9 : F16 (F16 (F16 (F16 AO))) → F16 (F16 (F16 AO)) := F16.rec (motive := fun _ => F16 (F16 (F16 AO))) (fun a0 a1 a2 a3 a4 a5 a6 a7 a8 a9 a10 a11 a12 a13 a14 a15 => a9)
noncomputable def gK10 : F16 (F16 (F16 (F16 AO))) → F16 (F16 (F16 AO)) := F16.rec (motive := fun _ => F16 (F16 (F16 AO))) (fun a0 a1 a2 a3 a4 a5 a6 a7 a8 a9 a10 a11 a12 a13 a14 a15 => a10)
noncomputable def gK11 : F16 (F16 (F16 (F16 AO))) → F16 (F16 (F16 AO)) := F16.rec (motive := fun _ => F16 (F16 (F16 AO))) (fun a0 a1 a2 a3 a4 a5 a6 a7 a8 a9 a10 a11 a12 a13 a14 a15 => a11)
noncomputable def gK12 : F16 (F16 (F16 (F16 AO))) → F16 (F16 (F16 AO)) := F16.rec (motive := fun _ => F16 (F16 (F16 AO))) (fun a0 a1 a2 a3 a4 a5 a6 a7 a8 a9 a10 a11 a12 a13 a14 a15 => a12)
noncomputable def gK13 : F16 (F16 (F16 (F16 AO))) → F16 (F16 (F16 AO)) := F16.rec (motive := fun _ => F16 (F16 (F16 AO))) (fun a0 a1 a2 a3 a4 a5 a6 a7 a8 a9 a10 a11 a12 a13 a14 a15 => a13)
noncomputable def gK14 : F16 (F16 (F16 (F16 AO))) → F16 (F16 (F16 AO)) := F16.rec (motive := fun _ => F16 (F16 (F16 AO))) (fun a0 a1 a2 a3 a4 a5 a6 a7 a8 a9 a10 a11 a12 a13 a14 a15 => a14)
noncomputable def gK15 : F16 (F16 (F16 (F16 AO))) → F16 (F16 (F16 AO)) := F16.rec (motive := fun _ => F16 (F16 (F16 AO))) (fun a0 a1 a2 a3 a4 a5 a6 a7 a8 a9 a10 a11 a12 a13 a14 a15 => a15)
noncomputable def sK0 : F16 (F16 (F16 (F16 AO))) → (F16 (F16 (F16 AO))) → F16 (F16 (F16 (F16 AO))) := F16.rec (motive := fun _ => (F16 (F16 (F16 AO))) → F16 (F16 (F16 (F16 AO)))) (fun a0 a1 a2 a3 a4 a5 a6 a7 a8 a9 a10 a11 a12 a13 a14 a15 v => .mk v a1 a2 a3 a4 a5 a6 a7 a8 a9 a10 a11 a12 a13 a14 a15)
noncomputable def sK1 : F16 (F16 (F16 (F16 AO))) → (F16 (F16 (F16 AO))) → F16 (F16 (F16 (F16 AO))) := F16.rec (motive := fun _ => (F16 (F16 (F16 AO))) → F16 (F16 (F16 (F16 AO)))) (fun a0 a1 a2 a3 a4 a5 a6 a7 a8 a9 a10 a11 a12 a13 a14 a15 v => .mk a0 v a2 a3 a4 a5 a6 a7 a8 a9 a10 a11 a12 a13 a14 a15)
noncomputable def sK2 : F16 (F16 (F16 (F16 AO))) → (F16 (F16 (F16 AO))) → F16 (F16 (F16 (F16 AO))) := F16.rec (motive := fun _ => (F16 (F16 (F16 AO))) → F16 (F16 (F16 (F16 AO)))) (fun a0 a1 a2 a3 a4 a5 a6 a7 a8 a9 a10 a11 a12 a13 a14 a15 v => .mk a0 a1 v a3 a4 a5 a6 a7 a8 a9 a10 a11 a12 a13 a14 a15)
noncomputable def sK3 : F16 (F16 (F16 (F16 AO))) → (F16 (F16 (F16 AO))) → F16 (F16 (F16 (F16 AO))) := F16.rec (motive := fun _ => (F16 (F16 (F16 AO))) → F16 (F16 (F16 (F16 AO)))) (fun a0 a1 a2 a3 a4 a5 a6 a7 a8 a9 a10 a11 a12 a13 a14 a15 v => .mk a0 a1 a2 v a4 a5 a6 a7 a8 a9 a10 a11 a12 a13 a14 a15)
noncomputable def sK4 : F16 (F16 (F16 (F16 AO))) → (F16 (F16 (F16 AO))) → F16 (F16 (F16 (F16 AO))) := F16.rec (motive := fun _ => (F16 (F16 (F16 AO))) → F16 (F16 (F16 (F16 AO)))) (fun a0 a1 a2 a3 a4 a5 a6 a7 a8 a9 a10 a11 a12 a13 a14 a15 v => .mk a0 a1 a2 a3 v a5 a6 a7 a8 a9 a10 a11 a12 a13 a14 a15)
noncomputable def sK5 : F16 (F16 (F16 (F16 AO))) → (F16 (F16 (F16 AO))) → F16 (F16 (F16 (F16 AO))) := F16.rec (motive := fun _ => (F16 (F16 (F16 AO))) → F16 (F16 (F16 (F16 AO)))) (fun a0 a1 a2 a3 a4 a5 a6 a7 a8 a9 a10 a11 a12 a13 a14 a15 v => .mk a0 a1 a2 a3 a4 v a6 a7 a8 a9 a10 a11 a12 a13 a14 a15)
noncomputable def sK6 : F16 (F16 (F16 (F16 AO))) → (F16 (F16 (F16 AO))) → F16 (F16 (F16 (F16 AO))) := F16.rec (motive := fun _ => (F16 (F16 (F16 AO))) → F16 (F16 (F16 (F16 AO)))) (fun a0 a1 a2 a3 a4 a5 a6 a7 a8 a9 a10 a11 a12 a13 a14 a15 v => .mk a0 a1 a2 a3 a4 a5 v a7 a8 a9 a10 a11 a12 a13 a14 a15)
noncomputable def sK7 : F16 (F16 (F16 (F16 AO))) → (F16 (F16 (F16 AO))) → F16 (F16 (F16 (F16 AO))) := F16.rec (motive := fun _ => (F16 (F16 (F16 AO))) → F16 (F16 (F16 (F16 AO)))) (fun a0 a1 a2 a3 a4 a5 a6 a7 a8 a9 a10 a11 a12 a13 a14 a15 v => .mk a0 a1 a2 a3 a4 a5 a6 v a8 a9 a10 a11 a12 a13 a14 a15)
noncomputable def sK8 : F16 (F16 (F16 (F16 AO))) → (F16 (F16 (F16 AO))) → F16 (F16 (F16 (F16 AO))) := F16.rec (motive := fun _ => (F16 (F16 (F16 AO))) → F16 (F16 (F16 (F16 AO)))) (fun a0 a1 a2 a3 a4 a5 a6 a7 a8 a9 a10 a11 a12 a13 a14 a15 v => .mk a0 a1 a2 a3 a4 a5 a6 a7 v a9 a10 a11 a12 a13 a14 a15)
noncomputable def sK9 : F16 (F16 (F16 (F16 AO))) → (F16 (F16 (F16 AO))) → F16 (F16 (F16 (F16 AO))) := F16.rec (motive := fun _ => (F16 (F16 (F16 AO))) → F16 (F16 (F16 (F16 AO)))) (fun a0 a1 a2 a3 a4 a5 a6 a7 a8 a9 a10 a11 a12 a13 a14 a15 v => .mk a0 a1 a2 a3 a4 a5 a6 a7 a8 v a10 a11 a12 a13 a14 a15)
noncomputable def sK10 : F16 (F16 (F16 (F16 AO))) → (F16 (F16 (F16 AO))) → F16 (F16 (F16 (F16 AO))) := F16.rec (motive := fun _ => (F16 (F16 (F16 AO))) → F16 (F16 (F16 (F16 AO)))) (fun a0 a1 a2 a3 a4 a5 a6 a7 a8 a9 a10 a11 a12 a13 a14 a15 v => .mk a0 a1 a2 a3 a4 a5 a6 a7 a8 a9 v a11 a12 a13 a14 a15)
noncomputable def sK11 : F16 (F16 (F16 (F16 AO))) → (F16 (F16 (F16 AO))) → F16 (F16 (F16 (F16 AO))) := F16.rec (motive := fun _ => (F16 (F16 (F16 AO))) → F16 (F16 (F16 (F16 AO)))) (fun a0 a1 a2 a3 a4 a5 a6 a7 a8 a9 a10 a11 a12 a13 a14 a15 v => .mk a0 a1 a2 a3 a4 a5 a6 a7 a8 a9 a10 v a12 a13 a14 a15)
noncomputable def sK12 : F16 (F16 (F16 (F16 AO))) → (F16 (F16 (F16 AO))) → F16 (F16 (F16 (F16 AO))) := F16.rec (motive := fun _ => (F16 (F16 (F16 AO))) → F16 (F16 (F16 (F16 AO)))) (fun a0 a1 a2 a3 a4 a5 a6 a7 a8 a9 a10 a11 a12 a13 a14 a15 v => .mk a0 a1 a2 a3 a4 a5 a6 a7 a8 a9 a10 a11 v a13 a14 a15)
noncomputable def sK13 : F16 (F16 (F16 (F16 AO))) → (F16 (F16 (F16 AO))) → F16 (F16 (F16 (F16 AO))) := F16.rec (motive := fun _ => (F16 (F16 (F16 AO))) → F16 (F16 (F16 (F16 AO)))) (fun a0 a1 a2 a3 a4 a5 a6 a7 a8 a9 a10 a11 a12 a13 a14 a15 v => .mk a0 a1 a2 a3 a4 a5 a6 a7 a8 a9 a10 a11 a12 v a14 a15)
noncomputable def sK14 : F16 (F16 (F16 (F16 AO))) → (F16 (F16 (F16 AO))) → F16 (F16 (F16 (F16 AO))) := F16.rec (motive := fun _ => (F16 (F16 (F16 AO))) → F16 (F16 (F16 (F16 AO)))) (fun a0 a1 a2 a3 a4 a5 a6 a7 a8 a9 a10 a11 a12 a13 a14 a15 v => .mk a0 a1 a2 a3 a4 a5 a6 a7 a8 a9 a10 a11 a12 a13 v a15)
noncomputable def sK15 : F16 (F16 (F16 (F16 AO))) → (F16 (F16 (F16 AO))) → F16 (F16 (F16 (F16 AO))) := F16.rec (motive := fun _ => (F16 (F16 (F16 AO))) → F16 (F16 (F16 (F16 AO)))) (fun a0 a1 a2 a3 a4 a5 a6 a7 a8 a9 a10 a11 a12 a13 a14 a15 v => .mk a0 a1 a2 a3 a4 a5 a6 a7 a8 a9 a10 a11 a12 a13 a14 v)
noncomputable def getK : D16 → F16 (F16 (F16 (F16 AO))) → F16 (F16 (F16 AO)) := D16.rec (motive := fun _ => F16 (F16 (F16 (F16 AO))) → F16 (F16 (F16 AO))) gK0 gK1 gK2 gK3 gK4 gK5 gK6 gK7 gK8 gK9 gK10 gK11 gK12 gK13 gK14 gK15
noncomputable def setK : D16 → F16 (F16 (F16 (F16 AO))) → (F16 (F16 (F16 AO))) → F16 (F16 (F16 (F16 AO))) := D16.rec (motive := fun _ => F16 (F16 (F16 (F16 AO))) → (F16 (F16 (F16 AO))) → F16 (F16 (F16 (F16 AO)))) sK0 sK1 sK2 sK3 sK4 sK5 sK6 sK7 sK8 sK9 sK10 sK11 sK12 sK13 sK14 sK15
theorem getK_eq (d : D16) (f : F16 (F16 (F16 (F16 AO)))) : getK d f = d.get f := by cases d <;> rfl
theorem setK_eq (d : D16) (f : F16 (F16 (F16 (F16 AO)))) (v : F16 (F16 (F16 AO))) : setK d f v = d.set v f := by cases f; cases d <;> rfl
noncomputable def Sl.qget : Sl → Fr AV → AV := Sl.rec (motive := fun _ => Fr AV → AV) (fun i j f => getA j (getB i f))
noncomputable def Sl.qset : Sl → AV → Fr AV → Fr AV := Sl.rec (motive := fun _ => AV → Fr AV → Fr AV) (fun i j v f => setB i f (setA j (getB i f) v))
theorem Sl.qget_eq (s : Sl) (f : Fr AV) : s.qget f = s.get f := by
  cases s; show getA _ (getB _ f) = _; rw [getA_eq, getB_eq]; rfl
theorem Sl.qset_eq (s : Sl) (v : AV) (f : Fr AV) : s.qset v f = s.set v f := by
  cases s; show setB _ f (setA _ (getB _ f) v) = _; rw [setB_eq, setA_eq, getB_eq]; rfl
noncomputable def nearG (far : Id → AO) (near : Fr (Fr AO)) (a b c d : D16) : Nat → AO := Nat.rec (motive := fun _ => AO) (getH d (getI c (getJ b (getK a near)))) (fun e _ => far (.mk a b c d e))
noncomputable def nearS (far : Id → AO) (near : Fr (Fr AO)) (v : AO) (a b c d : D16) : Nat → Tab AO :=
  Nat.rec (motive := fun _ => Tab AO) (.mk (setK a near (setJ b (getK a near) (setI c (getJ b (getK a near)) (setH d (getI c (getJ b (getK a near))) v)))) far) (fun e _ => .mk near fun y => if y = .mk a b c d e then v else far y)
noncomputable def Id.qget : Id → Tab AO → AO := Id.rec (motive := fun _ => Tab AO → AO) (fun a b c d e f => Tab.rec (motive := fun _ => AO) (fun near far => nearG far near a b c d e) f)
noncomputable def Id.qset : Id → AO → Tab AO → Tab AO := Id.rec (motive := fun _ => AO → Tab AO → Tab AO) (fun a b c d e v f => Tab.rec (motive := fun _ => Tab AO) (fun near far => nearS far near v a b c d e) f)
theorem Id.qget_eq (s : Id) (f : Tab AO) : s.qget f = s.get f := by
  cases s with | mk a b c d e => cases f with | mk f g => cases e with
  | zero => show getH _ (getI _ (getJ _ (getK _ f))) = _; rw [getH_eq, getI_eq, getJ_eq, getK_eq]; rfl
  | succ e => rfl
theorem Id.qset_eq (s : Id) (v : AO) (f : Tab AO) : s.qset v f = s.set v f := by
  cases s with | mk a b c d e => cases f with | mk f g => cases e with
  | zero =>
    show Tab.mk (setK _ f (setJ _ (getK _ f) (setI _ (getJ _ (getK _ f)) (setH _ (getI _ (getJ _ (getK _ f))) v)))) g = _
    rw [setK_eq, setJ_eq, setI_eq, setH_eq, getI_eq, getJ_eq, getK_eq]; rfl
  | succ e => rfl
noncomputable def St.qobj (s : St) (b : Id) : AO := b.qget s.h
noncomputable def St.qput (s : St) (b : Id) (o : AO) : St := St.rec (motive := fun _ => Id → AO → St) (fun h n b o => .mk (b.qset o h) n) s b o
noncomputable def St.qalloc (s : St) (o : AO) (k : Id → St → R) : R := St.rec (motive := fun _ => AO → (Id → St → R) → R) (fun h n o k => n.up .no fun m => k n (.mk (n.qset o h) m)) s o k
theorem St.qobj_eq (s : St) (b : Id) : s.qobj b = s.obj b := Id.qget_eq b s.h
theorem St.qput_eq (s : St) (b : Id) (o : AO) : s.qput b o = s.put b o := by cases s; show St.mk _ _ = _; rw [Id.qset_eq]; rfl
theorem St.qalloc_eq (s : St) (o : AO) (k : Id → St → R) : s.qalloc o k = s.alloc o k := by
  cases s with
  | mk h n =>
    show n.up R.no (fun m => k n (.mk (n.qset o h) m)) = n.up R.no (fun m => k n (.mk (n.set o h) m))
    rw [Id.qset_eq]
noncomputable def qev1 (f : Fr AV) (x : CO) : AV := CO.rec (motive := fun _ => Fr AV → AV) (fun s f => s.qget f) (fun v _ => v) x f
theorem qev1_eq (f : Fr AV) (x : CO) : qev1 f x = ev1 f x := by cases x with | t s => exact Sl.qget_eq s f | c v => rfl
noncomputable def qevs (f : Fr AV) (l : List CO) : List AV := List.rec [] (fun x _ ih => qev1 f x :: ih) l
noncomputable def qevo (f : Fr AV) (x : Option CO) : Option AV := Option.rec none (fun x => some (qev1 f x)) x
noncomputable def AV.qlay (v : AV) (k : List AV → R) : R := v.qCells (k [v]) k fun _ => .no
noncomputable def AV.qidx (v : AV) (n : Nat) (k : Nat → R) : R := v.qInt .no fun _ i => Int.rec (fun m n k => br (Nat.ble (Nat.succ m) n) (k m) .no) (fun _ _ _ => .no) i n k
noncomputable def qbnd (x : Option AV) (y d : Nat) (k : Nat → R) : R := Option.rec (fun _ d k => k d) (fun v y _ k => v.qidx (Nat.succ y) k) x y d k
noncomputable def qwrap1 (agg : Bool) (sz : Nat) (l : List AV) (s : St) : R :=
  br agg (br (Nat.beq (ln (tk sz l)) sz) (.ok (.agg (tk sz l)) s) .no) (List.rec (fun _ => .no) (fun x _ _ s => .ok x s) l s)
noncomputable def AV.qisNil (v : AV) : Bool := v.pNil false true
noncomputable def qopMv (x : CO) : OpF := fun _ f s => .ok (qev1 f x) s
noncomputable def qopMvs (x : CO) : OpF := fun _ f s => (qev1 f x).qStr .no fun l => .ok (.str l) s
noncomputable def qopPick (c a b : CO) : OpF := fun _ f s => (qev1 f c).qBool .no fun t => .ok (br t (qev1 f a) (qev1 f b)) s
noncomputable def qopBox (x : CO) : OpF := fun _ f s => (qev1 f x).qlay fun l => s.qalloc (.cells l) fun b s => .ok (.ptr b 0) s
noncomputable def qopAlloc (z : List AV) : OpF := fun _ _ s => s.qalloc (.cells z) fun b s => .ok (.ptr b 0) s
noncomputable def qfill (f : Fr AV) (ps : List Part) : List AV → (List AV → R) → R :=
  List.rec (fun z k => k z) (fun p _ ih z k => Part.rec (fun o n x z k ih => (qev1 f x).qlay fun l => br (Nat.beq (ln l) n) (br (Nat.ble (Nat.add o n) (ln z)) (ih (splice o l z) k) .no) .no) p z k ih) ps
noncomputable def qopBuild (z : List AV) (ps : List Part) : OpF := fun _ f s => qfill f ps z fun cs => .ok (.agg cs) s
noncomputable def qopBlit (len : Nat) (z : List AV) (ps : List Part) : OpF := fun _ f s =>
  qfill f ps (reps len z) fun cs => s.qalloc (.cells cs) fun b s => .ok (.sl b 0 len len 0) s
noncomputable def qopLoad (agg : Bool) (sz : Nat) (x : CO) : OpF := fun _ f s =>
  (qev1 f x).qPtr .no (fun b o => (s.qobj b).qCells .no fun cs => qwrap1 agg sz (dr o cs) s) fun cs => qwrap1 agg sz cs s
noncomputable def qopStore (sz : Nat) (x y : CO) : OpF := fun _ f s =>
  (qev1 f x).qPtr .no (fun b o => (s.qobj b).qCells .no fun cs => (qev1 f y).qlay fun l => br (Nat.beq (ln l) sz) (br (Nat.ble (Nat.add o sz) (ln cs)) (.ok undef (s.qput b (.cells (splice o l cs)))) .no) .no) fun _ => .no
noncomputable def qopNilck (x : CO) : OpF := fun _ f s => (qev1 f x).qNil3 (.ok (qev1 f x) s) .no
noncomputable def qopBin (op : BinOp) (x y : CO) : OpF := fun _ f s =>
  (qev1 f x).qInt ((qev1 f x).qStr .no fun a => (qev1 f y).qStr .no fun b => strBin op a b s) fun j a => (qev1 f y).qInt .no fun k b => intBin op j a k b s
noncomputable def qopBeq (neg : Bool) (x y : CO) : OpF := fun _ f s => (qev1 f x).qBool .no fun a => (qev1 f y).qBool .no fun b => .ok (.bool (br neg (br a (br b false true) b) (br a b (br b false true)))) s
noncomputable def AV.qisA (v : AV) : NK → Bool :=
  NK.rec (v.pIsSl false true) (v.pIsPtr false true) (v.pIsMap false true) (v.pIsFn false true) (v.pIsIfc false true) (fun _ => false)
noncomputable def qnilNeq (neg : Bool) (k : NK) (x y : AV) (s : St) : R :=
  br (x.qisA k) (br (y.qisA k) (br x.qisNil (.ok (.bool (br neg (br y.qisNil false true) y.qisNil)) s) (br y.qisNil (.ok (.bool neg) s) .no)) .no) .no
noncomputable def qcellEq (c : FK) (x y : AV) (k : Bool → R) : R :=
  FK.rec (motive := fun _ => R) (x.qInt .no fun j p => y.qInt .no fun i q => br (keq j i) (k (ieq p q)) .no) (x.qStr .no fun p => y.qStr .no fun q => k (beqs p q)) (x.qBool .no fun p => y.qBool .no fun q => k (br p q (br q false true))) c
noncomputable def qcellsEq (c : List FK) : List AV → List AV → (Bool → R) → R :=
  List.rec (motive := fun _ => List AV → List AV → (Bool → R) → R) (fun _ _ k => k true) (fun c _ ih l m k => List.rec (motive := fun _ => R) .no (fun x l _ => List.rec (motive := fun _ => R) .no (fun y m _ => qcellEq c x y fun t => ih l m fun u => k (br t u false)) m) l) c
noncomputable def qaggNeq (neg : Bool) (c : List FK) (x y : AV) (s : St) : R := x.qAgg .no fun l => y.qAgg .no fun m => qcellsEq c l m fun t => .ok (.bool (br neg (br t false true) t)) s
noncomputable def qopNeq (neg : Bool) (k : NK) (x y : CO) : OpF := fun _ f s =>
  NK.rec (motive := fun _ => R) (qnilNeq neg .sl (qev1 f x) (qev1 f y) s) (qnilNeq neg .ptr (qev1 f x) (qev1 f y) s) (qnilNeq neg .map (qev1 f x) (qev1 f y) s) (qnilNeq neg .fn (qev1 f x) (qev1 f y) s) (qnilNeq neg .ifc (qev1 f x) (qev1 f y) s) (fun c => qaggNeq neg c (qev1 f x) (qev1 f y) s) k
noncomputable def qopNeg (x : CO) : OpF := fun _ f s => (qev1 f x).qInt .no fun k n => .ok (.int k (wr k (ineg n))) s
noncomputable def qopNot (x : CO) : OpF := fun _ f s => (qev1 f x).qBool .no fun b => .ok (.bool (br b false true)) s
noncomputable def qopConv (k : IntKind) (x : CO) : OpF := fun _ f s => (qev1 f x).qInt .no fun _ n => .ok (.int k (wr k n)) s
noncomputable def qopToBytes (x : CO) : OpF := fun _ f s => (qev1 f x).qStr .no fun l => .ok (.ts (byteCells l) (ln l) (ln l) false) s
noncomputable def qcellBytes (l : List AV) (k : List UInt8 → R) : R :=
  List.rec (fun k => k []) (fun v _ ih k => v.qInt .no fun j n => br (keq j .u8) (ih fun r => k (UInt8.ofNat n.toNat :: r)) .no) l k
noncomputable def qopToStr (x : CO) : OpF := fun _ f s =>
  (qev1 f x).qSl .no (.ok (.str []) s) (fun b o l _ _ => (s.qobj b).qCells .no fun cs => br (Nat.ble (Nat.add o l) (ln cs)) (qcellBytes (tk l (dr o cs)) fun r => .ok (.str r) s) .no) fun cs l _ _ => br (Nat.beq l (ln cs)) (qcellBytes cs fun r => .ok (.str r) s) .no
noncomputable def qopMkif (t : TypeId) (x : CO) : OpF := fun _ f s => .ok (.ifc t (qev1 f x)) s
noncomputable def qopMkfn (g : Id) (a b : List CO) : OpF := fun _ f s => .ok (.fn g (qevs f a) (qevs f b)) s
noncomputable def qopMkmap : OpF := fun _ _ s => s.qalloc (.map []) fun b s => .ok (.map b) s
noncomputable def qopMksl (bytes : Nat) (z : List AV) (l c : CO) : OpF := fun _ f s =>
  (qev1 f l).qidx limit fun l => (qev1 f c).qidx limit fun c => br (Nat.ble l c) (br (Nat.ble (Nat.mul c bytes) limit) (s.qalloc (.cells (reps c z)) fun b s => .ok (.sl b 0 l c 0) s) .no) .no
noncomputable def qopSslice (x : CO) (lo hi : Option CO) : OpF := fun _ f s =>
  (qev1 f x).qStr .no fun l => qbnd (qevo f hi) (ln l) (ln l) fun h => qbnd (qevo f lo) h 0 fun lo => .ok (.str (dr lo (tk h l))) s
noncomputable def qopSlice (sz : Nat) (x : CO) (lo hi mx : Option CO) : OpF := fun _ f s =>
  (qev1 f x).qSl .no
    (qbnd (qevo f mx) 0 0 fun m => qbnd (qevo f hi) m 0 fun h => qbnd (qevo f lo) h 0 fun _ => .ok .nils s)
    (fun b o len cap ex => qbnd (qevo f mx) cap cap fun m => qbnd (qevo f hi) m len fun h => qbnd (qevo f lo) h 0 fun l =>
      br (br (Nat.beq ex 0) true (br mx.isSome true (Nat.ble (Nat.succ l) cap)))
        (br (br (Nat.beq ex 0) true (br mx.isSome true (Nat.beq ex sz))) (.ok (.sl b (br (Nat.beq m l) o (Nat.add o (Nat.mul l sz))) (Nat.sub h l) (Nat.sub m l) (br mx.isSome 0 ex)) s) .no)
        (.ok (.ts [] 0 0 false) s))
    fun cs len cap ex => qbnd (qevo f mx) cap cap fun m => qbnd (qevo f hi) (Nat.min m len) len fun h => qbnd (qevo f lo) h 0 fun l =>
      .ok (.ts (dr (Nat.mul l sz) (tk (Nat.mul h sz) cs)) (Nat.sub h l) (Nat.sub m l) (br ex true mx.isSome)) s
noncomputable def qopFaddr (off : Nat) (x : CO) : OpF := fun _ f s => (qev1 f x).qPtr .no (fun b o => .ok (.ptr b (Nat.add o off)) s) fun cs => .ok (.tp (dr off cs)) s
noncomputable def qopField (agg : Bool) (off sz : Nat) (x : CO) : OpF := fun _ f s => (qev1 f x).qAgg .no fun cs => qwrap1 agg sz (dr off cs) s
noncomputable def qopIaddr (sz : Nat) (x i : CO) : OpF := fun _ f s =>
  (qev1 f x).qSl .no .no (fun b o len _ _ => (qev1 f i).qidx len fun m => .ok (.ptr b (Nat.add o (Nat.mul m sz))) s) fun cs len _ _ => (qev1 f i).qidx len fun m => .ok (.tp (dr (Nat.mul m sz) cs)) s
noncomputable def qopSidx (x i : CO) : OpF := fun _ f s => (qev1 f x).qStr .no fun l => (qev1 f i).qidx (ln l) fun m => Option.rec .no (fun c => .ok (.int .u8 (.ofNat (UInt8.toNat c))) s) (nth m l)
noncomputable def qopAidx (agg : Bool) (len sz : Nat) (x i : CO) : OpF := fun _ f s => (qev1 f x).qAgg .no fun cs => (qev1 f i).qidx len fun m => qwrap1 agg sz (dr (Nat.mul m sz) cs) s
noncomputable def qkeyEq (a b : AV) (d y n : R) : R :=
  a.qInt (a.qStr d fun p => b.qStr d fun q => br (beqs p q) y n) fun j p => b.qInt d fun k q => br (keq j k) (br (ieq p q) y n) d
noncomputable def qmget (es : List (AV × AV)) (k : AV) (z : R) (yes : AV → R) : R := List.rec z (fun e _ ih => Prod.rec (fun a v ih => qkeyEq k a .no (yes v) ih) e ih) es
noncomputable def qmput (es : List (AV × AV)) (k v : AV) (c : List (AV × AV) → R) : R :=
  List.rec (fun c => c [(k, v)]) (fun e r ih c => Prod.rec (fun a v' ih c => qkeyEq k a .no (c ((k, v) :: r)) (ih fun r => c ((a, v') :: r))) e ih c) es c
noncomputable def qlooked (ok : Bool) (b : Bool) (v : AV) (s : St) : R := br ok (.ok (.tup [v, .bool b]) s) (.ok v s)
noncomputable def qisKey (str : Bool) (k : AV) (r : R) : R := br str (k.qStr .no fun _ => r) (k.qInt .no fun _ _ => r)
noncomputable def qopLookup (str : Bool) (z : AV) (x k : CO) (ok : Bool) : OpF := fun _ f s => qisKey str (qev1 f k)
  ((qev1 f x).qMap .no (qlooked ok false z s) fun b => (s.qobj b).qMap .no fun es => qmget es (qev1 f k) (qlooked ok false z s) fun v => qlooked ok true v s)
noncomputable def qopMupd (str : Bool) (x k v : CO) : OpF := fun _ f s => qisKey str (qev1 f k)
  ((qev1 f x).qMap .no .no fun b => (s.qobj b).qMap .no fun es => qmput es (qev1 f k) (qev1 f v) fun es => .ok undef (s.qput b (.map es)))
noncomputable def qopExt (x : CO) (i : Nat) : OpF := fun _ f s => (qev1 f x).qTup .no fun vs => Option.rec .no (fun v => .ok v s) (nth i vs)
noncomputable def qopCallf (g : Id) (as : List CO) : OpF := fun call f s => call g (qevs f as) s
noncomputable def qopCallv (g : CO) (as : List CO) : OpF := fun call f s => (qev1 f g).qFn .no fun g a b => call g (apd a (apd (qevs f as) b)) s
noncomputable def qopLens (x : CO) : OpF := fun _ f s => (qev1 f x).qStr .no fun l => .ok (.int .i64 (.ofNat (ln l))) s
noncomputable def qopLenm (x : CO) : OpF := fun _ f s => (qev1 f x).qMap .no (.ok (.int .i64 0) s) fun b => (s.qobj b).qMap .no fun es => .ok (.int .i64 (.ofNat (ln es))) s
noncomputable def qopLen (x : CO) : OpF := fun _ f s =>
  (qev1 f x).qSl .no (.ok (.int .i64 0) s) (fun _ _ l _ _ => .ok (.int .i64 (.ofNat l)) s) fun _ l _ _ => .ok (.int .i64 (.ofNat l)) s
noncomputable def qopCap (x : CO) : OpF := fun _ f s =>
  (qev1 f x).qSl .no (.ok (.int .i64 0) s) (fun _ _ _ c ex => br (Nat.beq ex 0) (.ok (.int .i64 (.ofNat c)) s) .no) fun _ _ c ex => br ex (.ok (.int .i64 (.ofNat c)) s) .no
noncomputable def qsrcOf (s : St) (sz : Nat) (y : AV) (k : Nat → List AV → R) : R :=
  y.qSl (y.qStr .no fun l => br (Nat.beq sz 1) (k (ln l) (byteCells l)) .no) (k 0 [])
    (fun b o l _ _ => (s.qobj b).qCells .no fun cs => br (Nat.ble (Nat.add o (Nat.mul l sz)) (ln cs)) (k l (tk (Nat.mul l sz) (dr o cs))) .no)
    fun cs l _ _ => br (Nat.ble (Nat.mul l sz) (ln cs)) (k l (tk (Nat.mul l sz) cs)) .no
noncomputable def qgrown (s : St) (sz bytes m : Nat) (cs : List AV) : R :=
  br (Nat.ble (Nat.mul m bytes) limit) (br (Nat.ble m limit) (s.qalloc (.cells cs) fun b s => .ok (.sl b 0 m m sz) s) .no) .no
noncomputable def qopApp (sz bytes : Nat) (x y : CO) : OpF := fun _ f s =>
  qsrcOf s sz (qev1 f y) fun n new =>
  (qev1 f x).qSl .no
    (br (Nat.beq n 0) (.ok .nils s) (qgrown s sz bytes n new))
    (fun b o len cap ex => (s.qobj b).qCells .no fun cs => br (Nat.ble (Nat.add o (Nat.mul cap sz)) (ln cs))
      (br (Nat.ble (Nat.add len n) cap) (.ok (.sl b o (Nat.add len n) cap ex) (s.qput b (.cells (splice (Nat.add o (Nat.mul len sz)) new cs))))
        (br (Nat.beq ex 0) (qgrown s sz bytes (Nat.add len n) (apd (tk (Nat.mul len sz) (dr o cs)) new))
          (br (Nat.beq ex sz) (qgrown (s.qput b .dead) sz bytes (Nat.add len n) (apd (tk (Nat.mul len sz) (dr o cs)) new)) .no))) .no)
    fun cs len cap ex => br (Nat.beq n 0) (.ok (qev1 f x) s)
      (br ex (br (Nat.ble (Nat.succ cap) (Nat.add len n)) (br (Nat.beq (ln cs) (Nat.mul len sz)) (qgrown s sz bytes (Nat.add len n) (apd cs new)) .no) .no) .no)
noncomputable def qopMm (mx : Bool) (x : CO) (r : List CO) : OpF := fun _ f s =>
  List.rec (fun v => .ok v s) (fun y _ ih v => v.qInt .no fun j a => (qev1 f y).qInt .no fun k b => ih (.int j (best mx a b))) r (qev1 f x)
noncomputable def qexop : COp → OpF := COp.rec (motive := fun _ => OpF) qopMv qopMvs qopPick qopBox qopAlloc qopBuild qopBlit qopLoad qopStore qopNilck qopBin qopBeq qopNeq qopNeg qopNot qopConv qopToBytes qopToStr qopMkif qopMkfn qopMkmap qopMksl qopSlice qopSslice qopFaddr qopField qopIaddr qopSidx qopAidx qopLookup qopMupd qopExt qopCallf qopCallv qopLens qopLenm qopLen qopCap qopApp qopMm opPaddr
theorem qopBox_eq : @qopBox = @opBox := by
  unfold qopBox opBox
  simp only [St.qalloc_eq]
  all_goals rfl
theorem qopAlloc_eq : @qopAlloc = @opAlloc := by
  unfold qopAlloc opAlloc
  simp only [St.qalloc_eq]
  all_goals rfl
theorem qopBlit_eq : @qopBlit = @opBlit := by
  unfold qopBlit opBlit
  simp only [St.qalloc_eq]
  all_goals rfl
theorem qopStore_eq : @qopStore = @opStore := by
  unfold qopStore opStore
  simp only [St.qput_eq]
  all_goals rfl
theorem qopMkmap_eq : @qopMkmap = @opMkmap := by
  unfold qopMkmap opMkmap
  simp only [St.qalloc_eq]
  all_goals rfl
theorem qopMksl_eq : @qopMksl = @opMksl := by
  unfold qopMksl opMksl
  simp only [St.qalloc_eq]
  all_goals rfl
theorem qopMupd_eq : @qopMupd = @opMupd := by
  unfold qopMupd opMupd
  simp only [St.qput_eq]
  all_goals rfl
theorem qgrown_eq : @qgrown = @grown := by
  unfold qgrown grown
  simp only [St.qalloc_eq]
  all_goals rfl
theorem qopApp_eq : @qopApp = @opApp := by
  unfold qopApp opApp
  simp only [qgrown_eq, St.qput_eq]
  all_goals rfl
theorem qexop_eq : qexop = exop := by
  funext o
  cases o <;> first | rfl | exact congrFun qopBox_eq _ | exact congrFun qopAlloc_eq _ | exact congrFun (congrFun (congrFun qopBlit_eq _) _) _ | exact congrFun (congrFun (congrFun qopStore_eq _) _) _ | exact qopMkmap_eq | exact congrFun (congrFun (congrFun (congrFun qopMksl_eq _) _) _) _ | exact congrFun (congrFun (congrFun (congrFun qopMupd_eq _) _) _) _ | exact congrFun (congrFun (congrFun (congrFun qopApp_eq _) _) _) _
end Go.Vm
namespace Go.Vm
set_option linter.unusedVariables false
noncomputable def qputD (d : CD) (v : AV) (f : Fr AV) : Fr AV := CD.rec (motive := fun _ => AV → Fr AV → Fr AV) (fun _ f => f) (fun s v f => s.qset v f) d v f
theorem qputD_eq (d : CD) (v : AV) (f : Fr AV) : qputD d v f = putD d v f := by
  cases d with
  | none => rfl
  | d s => exact Sl.qset_eq s v f
noncomputable def qwanted (g : CG) (f : Fr AV) : Bool := CG.rec (motive := fun _ => Fr AV → Bool) (fun _ => true) (fun s w f => (s.qget f).pBool false fun b => brB w b (brB b false true)) g f
theorem qwanted_eq (g : CG) (f : Fr AV) : qwanted g f = wanted g f := by
  cases g with
  | none => rfl
  | g s w => show AV.pBool (s.qget f) _ _ = _; rw [Sl.qget_eq]; rfl
noncomputable def qexOne (call : CallT) (o : CR) (ih : Fr AV → St → RC) (f : Fr AV) (s : St) : RC :=
  CR.rec (motive := fun _ => CallT → (Fr AV → St → RC) → Fr AV → St → RC) (fun d op g call ih f s => brC (qwanted g f) ((qexop op call f s).qon .no fun v s => ih (qputD d v f) s) (ih (qputD d undef f) s)) o call ih f s
theorem qexOne_eq (call : CallT) (o : CR) (ih : Fr AV → St → RC) (f : Fr AV) (s : St) : qexOne call o ih f s = exOne call o ih f s := by
  cases o with
  | mk d op g =>
    show brC (qwanted g f) ((qexop op call f s).qon .no fun v s => ih (qputD d v f) s) (ih (qputD d undef f) s) = _
    simp only [qwanted_eq, qexop_eq, qputD_eq]
    rfl
noncomputable def qexops (l : List CR) (call : CallT) : Fr AV → St → RC := List.rec (motive := fun _ => CallT → Fr AV → St → RC) (fun _ f s => .nor f s) (fun o _ ih call => qexOne call o (ih call)) l call
theorem qexops_eq (l : List CR) (call : CallT) : qexops l call = exops call l := by
  induction l with
  | nil => rfl
  | cons o l ih =>
    funext f s
    show qexOne call o (qexops l call) f s = exOne call o (exops call l) f s
    rw [qexOne_eq, ih]
noncomputable def qbit (m i : Nat) : Bool := Nat.beq (Nat.land 1 (Nat.shiftRight m i)) 1
theorem qbit_eq (m i : Nat) : qbit m i = bit m i := by
  show Nat.beq (1 &&& (m >>> i)) 1 = Nat.testBit m i
  unfold Nat.testBit
  rw [Nat.one_and_eq_mod_two]
  rcases Nat.mod_two_eq_zero_or_one (m >>> i) with h | h <;> rw [h] <;> rfl
noncomputable def qflush (l : List Pd) (h : Tab AO) : Tab AO := List.rec (motive := fun _ => Tab AO → Tab AO) (fun h => h) (fun p _ ih h => ih (Id.qset (Pd.rec (motive := fun _ => Id) (fun _ b _ => b) p) (Pd.rec (motive := fun _ => AO) (fun _ _ o => o) p) h)) l h
theorem qflush_eq (l : List Pd) (h : Tab AO) : qflush l h = flush l h := by
  induction l generalizing h with
  | nil => rfl
  | cons p l ih =>
    show qflush l (Id.qset p.b p.o h) = flush l (p.b.set p.o h)
    rw [Id.qset_eq, ih]
noncomputable def qagain (h : Tab AO) (n : Id) (f : Fr AV) (op : COp) (v : AV) : Bool := R.rec (motive := fun _ => Bool) false (fun u _ => like u v) (qexop op noCall f (.mk h n))
theorem qagain_eq (h : Tab AO) (n : Id) (f : Fr AV) (op : COp) (v : AV) : qagain h n f op v = again h n f op v := by unfold qagain; rw [qexop_eq]; rfl
noncomputable def qreadsOk (l : List Rd) (pre : Nat) (h : Tab AO) (n : Id) : Bool :=
  List.rec (motive := fun _ => Nat → Tab AO → Id → Bool) (fun _ _ _ => true) (fun r _ ih pre h n => Rd.rec (motive := fun _ => Nat → Tab AO → Id → Bool → Bool) (fun i f op v pre h n t => brB (brB (qbit pre i) true (qagain h n f op v)) t false) r pre h n (ih pre h n)) l pre h n
theorem brB_and (a b : Bool) : brB a b false = (a && b) := by cases a <;> rfl
theorem brB_or (a b : Bool) : brB a true b = (a || b) := by cases a <;> rfl
theorem qreadsOk_eq (l : List Rd) (pre : Nat) (h : Tab AO) (n : Id) : qreadsOk l pre h n = readsOk pre h n l := by
  induction l with
  | nil => rfl
  | cons r l ih =>
    cases r with
    | mk i f op v =>
      show brB (brB (qbit pre i) true (qagain h n f op v)) (qreadsOk l pre h n) false = _
      rw [brB_and, brB_or, qbit_eq, qagain_eq, ih]; rfl
noncomputable def qwritesOk (l : List Wr) (pre : Nat) (n : Id) (f : Fr AV) (op : COp) (v : AV) : Bool :=
  List.rec (motive := fun _ => Nat → Id → Fr AV → COp → AV → Bool) (fun _ _ _ _ _ => true) (fun w _ ih pre n f op v => Wr.rec (motive := fun _ => Nat → Id → Fr AV → COp → AV → Bool → Bool) (fun i h pre n f op v t => brB (brB (qbit pre i) true (qagain h n f op v)) t false) w pre n f op v (ih pre n f op v)) l pre n f op v
theorem qwritesOk_eq (l : List Wr) (pre : Nat) (n : Id) (f : Fr AV) (op : COp) (v : AV) : qwritesOk l pre n f op v = writesOk pre n f op v l := by
  induction l with
  | nil => rfl
  | cons w l ih =>
    cases w with
    | mk i h =>
      show brB (brB (qbit pre i) true (qagain h n f op v)) (qwritesOk l pre n f op v) false = _
      rw [brB_and, brB_or, qbit_eq, qagain_eq, ih]; rfl
noncomputable def qallPre (ws : List Wr) (pre : Nat) : Bool :=
  List.rec (motive := fun _ => Nat → Bool) (fun _ => true) (fun w _ ih pre => brB (qbit pre (Wr.rec (motive := fun _ => Nat) (fun i _ => i) w)) (ih pre) false) ws pre
theorem qallPre_eq (ws : List Wr) (pre : Nat) : qallPre ws pre = allPre pre (ws.map (·.i)) := by
  induction ws with
  | nil => rfl
  | cons w l ih =>
    show brB (qbit pre w.i) (qallPre l pre) false = _
    rw [brB_and, qbit_eq, ih]; rfl
noncomputable def qkeep (t : Bool) (ps : List Pd) (pre : Nat) : List Pd :=
  List.rec (motive := fun _ => Nat → List Pd) (fun _ => []) (fun p _ ih pre => Bool.rec (motive := fun _ => List Pd → Pd → List Pd) (fun r _ => r) (fun r p => p :: r) (brB t (qbit pre (Pd.rec (motive := fun _ => Nat) (fun i _ _ => i) p)) (brB (qbit pre (Pd.rec (motive := fun _ => Nat) (fun i _ _ => i) p)) false true)) (ih pre) p) ps pre
theorem qkeep_true (ps : List Pd) (pre : Nat) : qkeep true ps pre = ps.filter fun p => bit pre p.i := by
  induction ps with
  | nil => rfl
  | cons p l ih =>
    have e : qkeep true (p :: l) pre = Bool.rec (motive := fun _ => List Pd → Pd → List Pd) (fun r _ => r) (fun r p => p :: r) (qbit pre p.i) (qkeep true l pre) p := rfl
    rw [e, qbit_eq, ih, List.filter_cons]
    cases bit pre p.i <;> rfl
theorem qkeep_false (ps : List Pd) (pre : Nat) : qkeep false ps pre = ps.filter fun p => !bit pre p.i := by
  induction ps with
  | nil => rfl
  | cons p l ih =>
    have e : qkeep false (p :: l) pre = Bool.rec (motive := fun _ => List Pd → Pd → List Pd) (fun r _ => r) (fun r p => p :: r) (brB (qbit pre p.i) false true) (qkeep false l pre) p := rfl
    rw [e, qbit_eq, ih, List.filter_cons]
    cases bit pre p.i <;> rfl
abbrev Rest := Fr AV → Tab AO → Id → List Pd → List Rd → List Wr → RC
abbrev KindT := CallT → Rest → Nat → Nat → CD → COp → Id → Fr AV → Tab AO → Id → List Pd → List Rd → List Wr → RC
noncomputable def qQuiet : KindT := fun call rest i pre d op b f h n ps rs ws => (qexop op noCall f .empty).qon .no fun v _ => rest (qputD d v f) h n ps rs ws
noncomputable def qAllocK : KindT := fun call rest i pre d op b f h n ps rs ws => (qexop op noCall f (.mk (.rep .dead) b)).qon .no fun v s => rest (qputD d v f) h n (⟨i, b, b.qget s.h⟩ :: ps) rs ws
noncomputable def qReadK : KindT := fun call rest i pre d op b f h n ps rs ws => (qexop op noCall f (.mk h n)).qon ((qexop op noCall f (.mk (qflush (qkeep true ps pre) (.rep .dead)) n)).qon .no fun v _ => rest (qputD d v f) h n ps (⟨i, f, op, v⟩ :: rs) ws) fun v _ => brC (qwritesOk ws pre n f op v) (rest (qputD d v f) h n ps (⟨i, f, op, v⟩ :: rs) ws) .no
noncomputable def qMutK : KindT := fun call rest i pre d op b f h n ps rs ws => brC (qallPre ws pre)
  ((qexop op call f (.mk (qflush (qkeep true ps pre) h) n)).qon .no fun v s => brC (qreadsOk rs pre s.h s.n) (rest (qputD d v f) s.h s.n (qkeep false ps pre) rs (⟨i, h⟩ :: ws)) .no) .no
noncomputable def qexkind : Kind → KindT := Kind.rec (motive := fun _ => KindT) qQuiet qAllocK qReadK qMutK
theorem qexkind_eq (k : Kind) (call : CallT) (rest : Rest) (i pre : Nat) (d : CD) (op : COp) (b : Id) (f : Fr AV) (h : Tab AO) (n : Id) (ps : List Pd) (rs : List Rd) (ws : List Wr) :
    qexkind k call rest i pre d op b f h n ps rs ws = exkind call rest i pre d op b f h n ps rs ws k := by
  cases k with
  | quiet =>
    show R.qon (qexop op noCall f .empty) .no (fun v _ => rest (qputD d v f) h n ps rs ws) = _
    simp only [qexop_eq, qputD_eq]; rfl
  | alloc =>
    show R.qon (qexop op noCall f (.mk (.rep .dead) b)) .no (fun v s => rest (qputD d v f) h n (⟨i, b, b.qget s.h⟩ :: ps) rs ws) = _
    simp only [qexop_eq, qputD_eq, Id.qget_eq]; rfl
  | read =>
    show R.qon (qexop op noCall f (.mk h n)) (R.qon (qexop op noCall f (.mk (qflush (qkeep true ps pre) (.rep .dead)) n)) .no fun v _ => rest (qputD d v f) h n ps (⟨i, f, op, v⟩ :: rs) ws) (fun v _ => brC (qwritesOk ws pre n f op v) (rest (qputD d v f) h n ps (⟨i, f, op, v⟩ :: rs) ws) .no) = _
    simp only [qexop_eq, qputD_eq, qwritesOk_eq, qflush_eq, qkeep_true]; rfl
  | «mut» =>
    show brC (qallPre ws pre) ((qexop op call f (.mk (qflush (qkeep true ps pre) h) n)).qon .no fun v s => brC (qreadsOk rs pre s.h s.n) (rest (qputD d v f) s.h s.n (qkeep false ps pre) rs (⟨i, h⟩ :: ws)) .no) .no = _
    simp only [qexop_eq, qputD_eq, qreadsOk_eq, qallPre_eq, qflush_eq, qkeep_true, qkeep_false]; rfl
abbrev DrawT := CallT → Id → Rest
noncomputable def qexdraw : List DR → DrawT := List.rec (motive := fun _ => DrawT) (fun call b f h n ps rs ws => .nor f (.mk (qflush ps h) n))
  (fun x _ ih call b f h n ps rs ws => DR.rec (motive := fun _ => DrawT → DrawT) (fun i pre k o ih call b f h n ps rs ws => CR.rec (motive := fun _ => Nat → Nat → Kind → DrawT → DrawT)
    (fun d op g i pre k ih call b f h n ps rs ws => b.up .no fun b' => brC (qwanted g f) (qexkind k call (ih call b') i pre d op b f h n ps rs ws) (ih call b' (qputD d undef f) h n ps rs ws)) o i pre k ih call b f h n ps rs ws) x ih call b f h n ps rs ws)
theorem qexdraw_eq (l : List DR) (call : CallT) (b : Id) (f : Fr AV) (h : Tab AO) (n : Id) (ps : List Pd) (rs : List Rd) (ws : List Wr) : qexdraw l call b f h n ps rs ws = exdraw call l b f h n ps rs ws := by
  induction l generalizing b f h n ps rs ws with
  | nil => show RC.nor f (.mk (qflush ps h) n) = _; rw [qflush_eq]; rfl
  | cons x l ih =>
    cases x with
    | mk i pre k o =>
      cases o with
      | mk d op g =>
        show b.up RC.no (fun b' => brC (qwanted g f) (qexkind k call (qexdraw l call b') i pre d op b f h n ps rs ws) (qexdraw l call b' (qputD d undef f) h n ps rs ws)) =
          b.up RC.no (fun b' => br (wanted g f) (exkind call (exdraw call l b') i pre d op b f h n ps rs ws k) (exdraw call l b' (putD d undef f) h n ps rs ws))
        have e : ∀ b', qexdraw l call b' = exdraw call l b' := fun b' => by funext f h n ps rs ws; exact ih b' f h n ps rs ws
        simp only [qwanted_eq, qexkind_eq, qputD_eq, e]; rfl
noncomputable def qups : Nat → Id → (Id → RC) → RC := Nat.rec (motive := fun _ => Id → (Id → RC) → RC) (fun n k => k n) (fun _ ih n k => n.up .no fun n => ih n k)
theorem qups_eq (m : Nat) (n : Id) (k : Id → RC) : qups m n k = ups m n k := by
  induction m generalizing n with
  | zero => rfl
  | succ m ih =>
    show n.up RC.no (fun n => qups m n k) = n.up RC.no fun n => ups m n k
    simp only [ih]
noncomputable def qexdrawn (l : List DR) (call : CallT) (f : Fr AV) (s : St) : RC := qups (ln l) s.n fun n => qexdraw l call s.n f s.h n [] [] []
theorem qexdrawn_eq (l : List DR) (call : CallT) : qexdrawn l call = exdrawn call l := by
  funext f s
  unfold qexdrawn exdrawn
  rw [qups_eq, ln_eq]
  simp only [qexdraw_eq]
noncomputable def qseqK (k : Fr AV → St → RC) (r : RC) : RC := r.qon .no k .exit .ret
noncomputable def qblockK (id : Nat) (r : RC) : RC := r.qon .no .nor (fun i f s => brC (Nat.beq i id) (.nor f s) (.exit i f s)) .ret
noncomputable def qiter (n : Nat) (body : Fr AV → St → RC) : Fr AV → St → RC := Nat.rec (motive := fun _ => (Fr AV → St → RC) → Fr AV → St → RC) (fun _ _ _ => .no) (fun _ ih body f s => qseqK (ih body) (body f s)) n body
theorem qiter_eq (n : Nat) (body : Fr AV → St → RC) : qiter n body = iter body n := by
  induction n with
  | zero => rfl
  | succ n ih => funext f s; show qseqK (qiter n body) (body f s) = _; rw [ih]; rfl
abbrev CodeT := CallT → Nat → Fr AV → St → RC
noncomputable def qSkip : CodeT := fun _ _ f s => .nor f s
noncomputable def qSeq (a b : CodeT) : CodeT := fun call n f s => qseqK (b call n) (a call n f s)
noncomputable def qCond (c : CO) (a b : CodeT) : CodeT := fun call n f s => (qev1 f c).rBool .no fun t => brC t (a call n f s) (b call n f s)
noncomputable def qBlock (id : Nat) (a : CodeT) : CodeT := fun call n f s => qblockK id (a call n f s)
noncomputable def qLoop (a : CodeT) : CodeT := fun call n f s => qiter n (a call n) f s
noncomputable def qexcode : CC → CodeT :=
  CC.rec (motive := fun _ => CodeT) qSkip (fun ops call _ => qexops ops call) (fun ops call _ => qexdrawn ops call) (fun _ _ iha ihb => qSeq iha ihb) (fun c _ _ iha ihb => qCond c iha ihb)
    (fun id _ ih => qBlock id ih) (fun _ ih => qLoop ih) (fun id _ _ f s => .exit id f s) (fun _ _ f s => .ret f s)
theorem qexcode_eq (c : CC) (call : CallT) (n : Nat) : qexcode c call n = excode call n c := by
  induction c with
  | skip => rfl
  | region ops => exact qexops_eq ops call
  | drawn ops => exact qexdrawn_eq ops call
  | seq a b iha ihb =>
    funext f s
    show qseqK (qexcode b call n) (qexcode a call n f s) = _
    rw [iha, ihb]; rfl
  | cond c a b iha ihb =>
    funext f s
    show AV.rBool (qev1 f c) RC.no (fun t => brC t (qexcode a call n f s) (qexcode b call n f s)) = _
    rw [iha, ihb, qev1_eq]; rfl
  | block id a ih =>
    funext f s
    show qblockK id (qexcode a call n f s) = _
    rw [ih]; rfl
  | loop a ih =>
    funext f s
    show qiter n (qexcode a call n) f s = _
    rw [ih, qiter_eq]; rfl
  | exit id => rfl
  | ret => rfl
noncomputable def qevF (call : CallT) (n : Nat) (c : CF) (args : List AV) (s : St) : R :=
  CF.rec (motive := fun _ => CallT → Nat → List AV → St → R) (fun _ _ _ _ => .no) (fun nt res body call n args s => brR (Nat.ble (ln args) nt) (fin res (qexcode body call n (frame0 args) s)) .no) c call n args s
theorem qevF_eq (call : CallT) (n : Nat) (c : CF) (args : List AV) (s : St) : qevF call n c args s = evF call n c args s := by
  cases c with
  | bad => rfl
  | mk nt res body =>
    show brR (Nat.ble (ln args) nt) (fin res (qexcode body call n (frame0 args) s)) .no = _
    rw [qexcode_eq]; rfl
noncomputable def qev (C : Tab CF) (k : Nat) : CallT := Nat.rec (motive := fun _ => Tab CF → CallT) (fun _ _ _ _ => .no) (fun k ih C g args s => qevF (ih C) k (g.get C) args s) k C
theorem qev_eq (C : Tab CF) (k : Nat) : qev C k = ev C k := by
  induction k with
  | zero => rfl
  | succ k ih => funext g args s; show qevF (qev C k) k (g.get C) args s = _; rw [ih, qevF_eq]; rfl
end Go.Vm
namespace Go.Vm
open Go.RowKit
set_option linter.unusedVariables false
variable {P : Program}
noncomputable def AO.row (o : AO) : List AV := AO.rec (fun cs => cs) (fun _ => []) [] o
noncomputable def mt (s : St) (own : Bool) : AV → AV → Bool
  | .bool a, .bool b => a == b
  | .int j a, .int k b => keq j k && a == b
  | .str a, .str b => a == b
  | .nilp, .nilp | .nils, .nils | .nilm, .nilm | .nilf, .nilf | .nili, .nili => true
  | .tp l, .ptr b o => mtp l ((s.obj b).row.drop o)
  | .tp l, .tp m => !own && mtp l m
  | .ts l n c x, .sl b o k d y => !x && n == k && Nat.ble c n && mtp l ((s.obj b).row.drop o)
  | .ts l n c x, .ts m k d y => !own && !x && n == k && Nat.ble c n && mtp l m
  | .agg l, .agg m => l.length == m.length && mtp l m
  | .tup l, .tup m => mts l m
  | .ifc t a, .ifc u b => t == u && mt s own a b
  | _, _ => false
where
  mtp : List AV → List AV → Bool
    | [], _ => true
    | a :: l, b :: m => a.one && mt s own a b && mtp l m
    | _, _ => false
  mts : List AV → List AV → Bool
    | [], [] => true
    | a :: l, b :: m => mt s own a b && mts l m
    | _, _ => false
theorem row_cells {o : AO} {a : AV} {l : List AV} {k : Nat} (h : (o.row.drop k) = a :: l) : ∃ cs, o = .cells cs ∧ cs.drop k = a :: l := by
  cases o with
  | cells cs => exact ⟨cs, rfl, h⟩
  | map es => have h' : ([] : List AV).drop k = a :: l := h; simp at h'
  | dead => have h' : ([] : List AV).drop k = a :: l := h; simp at h'
section
variable {s : St} {E F : Env} {w : World} {own : Bool}
theorem mtp_len {l m : List AV} (h : mt.mtp s own l m = true) : l.length ≤ m.length ∧ ∀ c ∈ l, c.one = true := by
  induction l generalizing m with
  | nil => exact ⟨by simp, fun c hc => by simp at hc⟩
  | cons a l ih =>
    cases m with
    | nil => simp [mt.mtp] at h
    | cons b m =>
      simp only [mt.mtp, Bool.and_eq_true] at h
      obtain ⟨h1, h2⟩ := ih h.2
      exact ⟨by simp; omega, fun c hc => by rcases List.mem_cons.mp hc with rfl | hc <;> first | exact h.1.1 | exact h2 c hc⟩
theorem mt_rv (hrel : RelH s.obj E w) (hD : ∀ b, s.obj b ≠ .dead → F.I (E.φ b).block) (hI : own = false → ∀ k, E.I k → F.I k) : ∀ (n : Nat),
    (∀ a b : AV, SizeOf.sizeOf a ≤ n → mt s own a b = true → ∀ v, RV E w b v → RV F w a v) ∧
    (∀ l m : List AV, SizeOf.sizeOf l ≤ n → mt.mtp s own l m = true → ∀ us, RL E w m us → RL F w l (us.take l.length)) ∧
    (∀ l m : List AV, SizeOf.sizeOf l ≤ n → mt.mts s own l m = true → ∀ us, RL E w m us → RL F w l us) := by
  intro n
  induction n with
  | zero =>
    refine ⟨fun a b h => ?_, fun l m h => ?_, fun l m h => ?_⟩
    · cases a <;> simp at h
    · cases l <;> simp at h
    · cases l <;> simp at h
  | succ n ih =>
    obtain ⟨iha, ihp, ihs⟩ := ih
    refine ⟨fun a b h hl v hv => ?_, fun l m h hl us hus => ?_, fun l m h hl us hus => ?_⟩
    · have cell : ∀ (l : List AV) (b : Id) (o : Nat), SizeOf.sizeOf l ≤ n → mt.mtp s own l ((s.obj b).row.drop o) = true → ∃ us, RL F w l us ∧ (l ≠ [] → F.I (E.φ b).block) ∧ ∀ (j : Nat) (u : Value), us[j]? = some u → w.cell? ⟨(E.φ b).block, (E.φ b).off + o + j, none⟩ = some u := by
        intro l b o hsz hm
        cases hq : (s.obj b).row.drop o with
        | nil =>
          rw [hq] at hm
          cases l with
          | nil => exact ⟨[], RL.nil _ _, fun hn => absurd rfl hn, fun j u hu => by simp at hu⟩
          | cons c l => simp [mt.mtp] at hm
        | cons c0 m0 =>
          obtain ⟨cs, hcs, hdr⟩ := row_cells hq
          obtain ⟨c, e, us, H⟩ := hrel.cells b cs hcs
          have hne : s.obj b ≠ .dead := by rw [hcs]; intro h'; cases h'
          rw [hq, ← hdr] at hm
          refine ⟨_, ihp l (cs.drop o) hsz hm (us.drop o) (H.row.drop o), fun _ => hD b hne, fun j u hu => ?_⟩
          rw [List.getElem?_take] at hu
          split at hu
          · rw [List.getElem?_drop] at hu
            rw [show (E.φ b).off + o + j = (E.φ b).off + (o + j) by omega]
            exact holds_cell H (o + j) u hu
          · cases hu
      cases a <;> cases b <;> simp only [mt, Bool.and_eq_true, beq_iff_eq, Bool.not_eq_true', Nat.ble_eq, Bool.false_eq_true] at hl
      case bool.bool => cases hv; rw [hl]; exact .bool _
      case int.int => cases hv; rw [(keq_iff _ _).mp hl.1, hl.2]; exact .int _ _
      case str.str => cases hv; rw [hl]; exact .str _ _ (by assumption)
      case nilp.nilp => cases hv; exact .nilp
      case tp.ptr l b o =>
        cases hv
        obtain ⟨us, g1, g2, g3⟩ := cell l b o (by simp at h; omega) hl
        exact .tp l _ _ us g2 g1.len g3 g1.each (mtp_len hl).2
      case tp.tp l m =>
        cases hv with | tp _ g off us q1 q2 q3 q4 q5 =>
        have g := ihp l m (by simp at h; omega) hl.2 us ⟨q2, q4⟩
        refine .tp l _ _ _ (fun hn => hI hl.1 _ (q1 (fun hm => ?_))) g.len (fun j u hu => ?_) g.each (mtp_len hl.2).2
        · subst hm; cases l with
          | nil => exact hn rfl
          | cons c l => exact absurd hl.2 (by simp [mt.mtp])
        · rw [List.getElem?_take] at hu
          split at hu
          · exact q3 j u hu
          · cases hu
      case nils.nils => cases hv; exact .nils
      case ts.sl l n' c x b o k d y =>
        cases hv with | sl _ _ _ _ cap' _ q1 q2 q3 q4 q5 =>
        obtain ⟨⟨⟨hx, hn⟩, hc⟩, hp⟩ := hl
        obtain ⟨us, g1, g2, g3⟩ := cell l b o (by simp at h; omega) hp
        subst hx; subst hn
        exact .ts l _ _ _ _ _ _ us g2 g1.len g3 g1.each (mtp_len hp).2 (by omega) (by omega) (fun hh => by cases hh)
      case ts.ts l n' c x m k d y =>
        cases hv with | ts _ _ _ cap' _ g off us q1 q2 q3 q4 q5 q6 q7 q8 q9 =>
        obtain ⟨⟨⟨⟨ho, hx⟩, hn⟩, hc⟩, hp⟩ := hl
        subst hx; subst hn
        have g := ihp l m (by simp at h; omega) hp us ⟨q2, q4⟩
        refine .ts l _ _ _ _ _ _ _ (fun hn => hI ho _ (q1 (fun hm => ?_))) g.len (fun j u hu => ?_) g.each (mtp_len hp).2 q6 (by omega) (fun hh => by cases hh) (q9.imp id fun ⟨e1, e2, hm⟩ => ⟨e1, e2, ?_⟩)
        · subst hm; cases l with
          | nil => exact hn rfl
          | cons c l => exact absurd hp (by simp [mt.mtp])
        · rw [List.getElem?_take] at hu
          split at hu
          · exact q3 j u hu
          · cases hu
        · subst hm; cases l with
          | nil => rfl
          | cons c l => exact absurd hp (by simp [mt.mtp])
      case nilm.nilm => cases hv; exact .nilm
      case nilf.nilf => cases hv; exact .nilf
      case nili.nili => cases hv; exact .nili
      case ifc.ifc => cases hv; rw [hl.1]; exact .ifc _ _ _ (iha _ _ (by simp at h; omega) hl.2 _ (by assumption))
      case agg.agg l m =>
        cases hv
        rename_i us q1 q2 q3
        have g := ihp l m (by simp at h; omega) hl.2 us ⟨q1, q2⟩
        have e : us.take l.length = us := List.take_of_length_le (by rw [q1, hl.1]; exact Nat.le_refl _)
        rw [e] at g
        exact .agg l us g.len g.each (mtp_len hl.2).2
      case tup.tup l m =>
        cases hv
        rename_i us q1 q2
        have g := ihs l m (by simp at h; omega) hl us ⟨q1, q2⟩
        exact .tup l us g.len g.each
    · cases l with
      | nil => simp; exact RL.nil _ _
      | cons a l =>
        cases m with
        | nil => simp [mt.mtp] at hl
        | cons b m =>
          simp only [mt.mtp, Bool.and_eq_true] at hl
          obtain ⟨u, us', rfl, h1, h2⟩ := RL.cons_inv hus
          simp only [List.length_cons, List.take_succ_cons]
          exact RL.cons (iha a b (by simp at h; omega) hl.1.2 u h1) (ihp l m (by simp at h; omega) hl.2 us' h2)
    · cases l with
      | nil =>
        cases m with
        | nil => exact ⟨by have := hus.len; simpa using this, fun j c u hc hu => by simp at hc⟩
        | cons b m => simp [mt.mts] at hl
      | cons a l =>
        cases m with
        | nil => simp [mt.mts] at hl
        | cons b m =>
          simp only [mt.mts, Bool.and_eq_true] at hl
          obtain ⟨u, us', rfl, h1, h2⟩ := RL.cons_inv hus
          exact RL.cons (iha a b (by simp at h; omega) hl.1 u h1) (ihs l m (by simp at h; omega) hl.2 us' h2)
end
noncomputable def picks (pk : Id → List AV → St → Option (List AV × AV)) (call : CallT) : CallT := fun g args s => Option.rec (call g args s) (fun e => .ok e.2 s) (pk g args s)
noncomputable def look (es : List (List AV × AV)) (args : List AV) (s : St) : Option (List AV × AV) := List.rec none (fun e _ ih => br (mt.mts s false e.1 args) (some e) ih) es
theorem look_some {s : St} {es : List (List AV × AV)} {args : List AV} {e : List AV × AV} (h : look es args s = some e) : e ∈ es ∧ mt.mts s false e.1 args = true := by
  induction es with
  | nil => cases h
  | cons x es ih =>
    have h' : br (mt.mts s false x.1 args) (some x) (look es args s) = some e := h
    cases hl : mt.mts s false x.1 args with
    | true => rw [hl, br_true] at h'; cases h'; exact ⟨List.mem_cons_self, hl⟩
    | false =>
      rw [hl, br_false] at h'
      obtain ⟨h1, h2⟩ := ih h'
      exact ⟨List.mem_cons_of_mem _ h1, h2⟩
noncomputable def sees (base : CallT) (g : Id) (e : List AV × AV) : Bool := (base g e.1 .empty).on false fun r s => mt s true e.2 r
theorem sees_ok {base : CallT} {g : Id} {e : List AV × AV} (h : sees base g e = true) : ∃ r0 s', base g e.1 .empty = .ok r0 s' ∧ mt s' true e.2 r0 = true := by
  unfold sees at h
  cases hq : base g e.1 .empty with
  | no => rw [hq] at h; cases h
  | ok r s => rw [hq] at h; exact ⟨r, s, rfl, h⟩
end Go.Vm
