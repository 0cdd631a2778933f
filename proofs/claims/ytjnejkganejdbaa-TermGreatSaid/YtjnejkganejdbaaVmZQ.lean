/- The abstract machine: code of the program's taken apart; calls of which some are told. No condition. -/
import Derived.Test.YtjnejkganejdbaaVmZP
import Derived.Test.YtjnejkganejdbaaVmZK
namespace Go.Vm
set_option linter.unusedVariables false
variable {P : Program}
def cFst : Code → Code
  | .seq a _ => a
  | c => c
def cSnd : Code → Code
  | .seq _ b => b
  | c => c
def cOps : Code → Array Oper
  | .region _ o _ => o
  | _ => #[]
def cId : Code → Nat
  | .region i _ _ => i
  | .block i _ => i
  | .cond _ _ (.exit i) => i
  | _ => 0
def cIn : Code → Code
  | .block _ c => c
  | .loop c => c
  | c => c
def cCnd : Code → Operand
  | .cond c _ _ => c
  | _ => .const (.bool false)
def oAt (l : List Oper) (i : Nat) : Oper := l.getD i default
noncomputable def CR.dd (c : Option CR) : CD := Option.rec .none (fun c => CR.rec (fun d _ _ => d) c) c
noncomputable def CR.dop (c : Option CR) : COp := Option.rec .mkmap (fun c => CR.rec (fun _ o _ => o) c) c
/-- Calls, of which some are told; the quick machine. -/
noncomputable def qevP (pk : Id → List AV → St → Option (List AV × AV)) (C : Tab CF) (k : Nat) : CallT :=
  Nat.rec (motive := fun _ => CallT) (fun _ _ _ => .no) (fun k ih => picks pk fun g args s => qevF ih k (g.get C) args s) k
theorem qevP_sound {pk : Id → List AV → St → Option (List AV × AV)} (hdr : ∀ call, SoundCall P call → DrawnOk P call) (hpk : ∀ call, SoundCall P call → SoundCall P (picks pk call)) (k : Nat) : SoundCall P (qevP pk (prog P) k) := by
  induction k with
  | zero => exact fun g args s r s' h => R.noConfusion h
  | succ k ih =>
    refine hpk _ (fun g args s r s' h => ?_)
    rw [qevF_eq] at h
    exact evF_sound ih hdr k h
/-- One table of what is told behind another. -/
noncomputable def pkOr (a b : Id → List AV → St → Option (List AV × AV)) : Id → List AV → St → Option (List AV × AV) := fun g args s => Option.rec (b g args s) (fun e => some e) (a g args s)
theorem pkOr_sound {a b : Id → List AV → St → Option (List AV × AV)} (ha : ∀ call, SoundCall P call → SoundCall P (picks a call)) (hb : ∀ call, SoundCall P call → SoundCall P (picks b call)) (call : CallT) (hc : SoundCall P call) : SoundCall P (picks (pkOr a b) call) := by
  have e : picks (pkOr a b) call = picks a (picks b call) := by
    funext g args s
    unfold picks pkOr
    cases a g args s <;> rfl
  rw [e]
  exact ha _ (hb _ hc)
end Go.Vm
