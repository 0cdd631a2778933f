/- Terms within terms: the calls that are told of them, by their depth. No condition. -/
import Derived.Test.YtjnejkganejdbaaProg
import Derived.KernelRfl
import Derived.Test.YtjnejkganejdbaaVmZS
namespace Go.Proofs.Ytjnejkganejdbaa.termGreat
set_option linter.unusedVariables false
set_option maxRecDepth 100000
open Vm hiding Id Told
noncomputable def code : Tab CF := Vm.prog Try.prog
noncomputable def ab : Code := Try.f35.body.getD .skip
noncomputable def ab4 : Code := cSnd (cSnd (cSnd (cSnd ab)))
noncomputable def aL : Code := cFst ab4
noncomputable def aX : Code := cIn (cIn (cSnd aL))
noncomputable def aX2 : Code := cSnd aX
noncomputable def a67 : Code := cIn (cSnd aX2)
noncomputable def l5 : List Oper := (cOps (cFst aX)).toList
noncomputable def l6 : List Oper := (cOps (cFst a67)).toList
noncomputable def l4 : List Oper := (cOps (cFst aL)).toList
noncomputable def nt : Nat := Try.f35.ntmps
noncomputable def allT : Turning Try.prog Try.f35.ntmps where
  id5 := cId (cFst aX)
  id6 := cId (cFst a67)
  id0 := cId (cSnd aL)
  id1 := cId (cSnd aX2)
  ops5 := cOps (cFst aX)
  ops6 := cOps (cFst a67)
  o2 := oAt l5 0
  o4 := oAt l6 0
  l5 := l5.tail
  l6 := l6.tail
  it := 14
  nx := (copD nt (oAt l5 0).dst).getD .none
  en := (copD nt (oAt l6 0).dst).getD .none
  c5 := (l5.tail.mapM (copR Try.prog nt (cOps (cFst aX)))).getD []
  c6 := (l6.tail.mapM (copR Try.prog nt (cOps (cFst a67)))).getD []
  cnd := cCnd (cFst aX2)
  b := (cod (cCnd (cFst aX2))).getD (.c .nilp)
  C7 := cSnd a67
  c7 := (cc Try.prog nt (cSnd a67)).getD .skip
  hit := by decide
  h5 := by kernel_rfl
  hop2 := by kernel_rfl
  hg2 := by kernel_rfl
  hd2 := by kernel_rfl
  hc5 := by kernel_rfl
  h6 := by kernel_rfl
  hop4 := by kernel_rfl
  hg4 := by kernel_rfl
  hd4 := by kernel_rfl
  hc6 := by kernel_rfl
  hb := by kernel_rfl
  h7 := by kernel_rfl
noncomputable def pre : List Code := [cFst ab, cFst (cSnd ab), cFst (cSnd (cSnd ab)), cFst (cSnd (cSnd (cSnd ab)))]
noncomputable def cr0 : Option CR := copR Try.prog nt (cOps (cFst aL)) (oAt l4 0)
noncomputable def allM : MapFn Try.prog 35 where
  fn := Try.f35
  b := ab
  rs := (Try.f35.results.toList.mapM (copRes Try.prog)).getD []
  hf := Try.func35
  hb := by kernel_rfl
  hname := by decide
  hrs := by kernel_rfl
  hnt := by decide
  T := allT
  pre := pre
  cpre := (pre.mapM (cc Try.prog nt)).getD []
  hpre := by kernel_rfl
  post := cSnd ab4
  cpost := (cc Try.prog nt (cSnd ab4)).getD .skip
  hpost := by kernel_rfl
  id4 := cId (cFst aL)
  ops4 := cOps (cFst aL)
  cd0 := CR.dd cr0
  cd1 := (copD nt (oAt l4 1).dst).getD .none
  co0 := CR.dop cr0
  x := 13
  hR := ⟨⟨oAt l4 0, oAt l4 1, 73, 9, 44, by kernel_rfl, by kernel_rfl, by decide, by kernel_rfl, by kernel_rfl, by kernel_rfl, by kernel_rfl⟩⟩
  hbody := by kernel_rfl
theorem follows : Try.prog.follows .mixedOrders = true := by kernel_rfl
noncomputable def M : Nat := 1000000
noncomputable def never : CallT := fun _ _ _ => .no
theorem never_sound : SoundCall Try.prog never := fun g args s r s' h => Vm.R.noConfusion h
abbrev Pk := Vm.Id → List AV → St → Option (List AV × AV)
noncomputable def base0 : CallT := qev code M
theorem base0_sound : SoundCall Try.prog base0 := by
  unfold base0
  rw [qev_eq]
  exact Vm.sound follows M
/-- The names in terms. -/
noncomputable def pkAll : Pk := allM.pick base0 M (.ofNat 35)
theorem pkAll_sound (call : CallT) (hc : SoundCall Try.prog call) : SoundCall Try.prog (picks pkAll call) := allM.sound base0 M base0_sound (Vm.drawn_ok follows) rfl hc
noncomputable def num (n : Nat) : AV := .int .i64 (.ofNat n)
noncomputable def leaf : List AV := [num 4, .bool false, .nils, .str [112], num 1, .nils]
/-- A name within so many nots. -/
noncomputable def nest (d : Nat) : List AV := Nat.rec (motive := fun _ => List AV) leaf (fun _ ih => [num 5, .bool false, .nils, .str [], num 1, .ts ih 1 1 false]) d
noncomputable def none_ : List AV := [num 0, .bool false, .nils, .str [], num 0, .nils]
noncomputable def flat (k : Nat) : List AV := Nat.rec (motive := fun _ => List AV) [] (fun _ ih => apd leaf ih) k
/-- The depth. -/
noncomputable def dep (s : St) (l : List AV) : Nat := Nat.rec (motive := fun _ => List AV → Nat) (fun _ => 0) (fun _ ih l => Option.rec (motive := fun _ => (List AV → Nat) → Nat) (fun _ => 0) (fun k ih => AV.onSl k 0 0 (fun b o _ _ _ => Nat.succ (ih (dr o (s.obj b).row))) fun cs _ _ _ => Nat.succ (ih cs)) (nth 5 l) ih) 402 l
noncomputable def arg0 (args : List AV) : AV := List.rec .nilp (fun a _ _ => a) args
noncomputable def arg1 (args : List AV) : AV := List.rec .nilp (fun _ l _ => arg0 l) args
noncomputable def patC (d : Nat) : List AV := [.agg (nest d)]
noncomputable def resC (d : Nat) : AV := num (d + 1)
noncomputable def numC (args : List AV) (s : St) : Nat := dep s (AV.onAgg (arg0 args) [] fun cs => cs)
noncomputable def patN (d : Nat) : List AV := [.ts (nest d) 1 1 false]
noncomputable def resN (d : Nat) : AV := .bool true
noncomputable def numN (args : List AV) (s : St) : Nat := dep s (cellsOf s (arg0 args))
noncomputable def patM (d : Nat) : List AV := [num 5, .ts (nest d) 1 1 false]
noncomputable def resM (d : Nat) : AV := br (Nat.ble (d + 1) 399) (.tup [.agg (nest (d + 1)), num 0]) (.tup [.agg none_, num 11])
noncomputable def numM (args : List AV) (s : St) : Nat := dep s (cellsOf s (arg1 args))
noncomputable def pkC (m : Nat) : Pk := pkBy (.ofNat 11) numC m patC resC
noncomputable def pkN (m : Nat) : Pk := pkBy (.ofNat 43) numN m patN resN
noncomputable def pkM : Vm.Id → List AV → St → Option (List Vm.Id × List AV × AV) := pkByF (.ofNat 8) numM 399 patM resM fun args => idsOf (arg1 args)
noncomputable def checkC (d : Nat) : Bool := sees base0 (.ofNat 11) (patC d, resC d)
noncomputable def baseN (d : Nat) : CallT := qevP (pkN d) code M
noncomputable def checkN0 : Bool := sees base0 (.ofNat 43) (patN 0, resN 0)
noncomputable def checkN (d : Nat) : Bool := sees (baseN d) (.ofNat 43) (patN (d + 1), resN (d + 1))
noncomputable def pkCN : Pk := pkOr (pkC 400) (pkN 399)
noncomputable def baseM : CallT := qevP pkCN code M
noncomputable def checkM (d : Nat) : Bool := seesF baseM (.ofNat 8) (patM d, resM d)
theorem seenC (h : ∀ d, d ≤ 400 → checkC d = true) (d : Nat) (hd : d ≤ 400) : Has Try.prog 11 ∧ Seen Try.prog 11 (patC d) (resC d) := seen_of base0_sound (g := .ofNat 11) (h d hd)
theorem seenN (h0 : checkN0 = true) (h : ∀ d, d < 399 → checkN d = true) (d : Nat) (hd : d ≤ 399) : Has Try.prog 43 ∧ ∀ e, e ≤ d → Seen Try.prog 43 (patN e) (resN e) := by
  induction d with
  | zero =>
    have h1 := seen_of base0_sound (g := .ofNat 43) h0
    exact ⟨h1.1, fun e he => by rw [Nat.le_zero.mp he]; exact h1.2⟩
  | succ d ih =>
    obtain ⟨i1, i2⟩ := ih (by omega)
    refine ⟨i1, fun e he => ?_⟩
    by_cases hed : e ≤ d
    · exact i2 e hed
    · obtain rfl : e = d + 1 := by omega
      have hs : SoundCall Try.prog (baseN d) := qevP_sound (Vm.drawn_ok follows) (pkBy_sound (gid := .ofNat 43) i1 i2) M
      exact (seen_of hs (g := .ofNat 43) (h d (by omega))).2
end Go.Proofs.Ytjnejkganejdbaa.termGreat
