/- What is told of the library, and of the known cases, comes so. No condition. -/
import Derived.Test.YtjnejkganejdbaaProg
import Derived.KernelRfl
import Derived.Test.YtjnejkganejdbaaVmS
import Derived.Shelf.Small.Strs
import Derived.Test.YtjnejkganejdbaaLibA
namespace Go.Proofs.Ytjnejkganejdbaa
open Go.Vm
set_option linter.unusedVariables false
set_option maxRecDepth 100000
noncomputable def code : Tab CF := prog Try.prog
noncomputable def ab : Code := Try.f35.body.getD .skip
noncomputable def ab4 : Code := cSnd (cSnd (cSnd (cSnd ab)))
noncomputable def aL : Code := cFst ab4
noncomputable def aX : Code := cIn (cIn (cSnd aL))
noncomputable def aX2 : Code := cSnd aX
noncomputable def a67 : Code := cIn (cSnd aX2)
noncomputable def l5 : List Oper := (cOps (cFst aX)).toList
noncomputable def l6 : List Oper := (cOps (cFst a67)).toList
noncomputable def l4 : List Oper := (cOps (cFst aL)).toList
noncomputable def nt : Nat := Try.f35.ntmps
noncomputable def allT : Turning Try.prog Try.f35.ntmps where
  id5 := cId (cFst aX)
  id6 := cId (cFst a67)
  id0 := cId (cSnd aL)
  id1 := cId (cSnd aX2)
  ops5 := cOps (cFst aX)
  ops6 := cOps (cFst a67)
  o2 := oAt l5 0
  o4 := oAt l6 0
  l5 := l5.tail
  l6 := l6.tail
  it := 14
  nx := (copD nt (oAt l5 0).dst).getD .none
  en := (copD nt (oAt l6 0).dst).getD .none
  c5 := (l5.tail.mapM (copR Try.prog nt (cOps (cFst aX)))).getD []
  c6 := (l6.tail.mapM (copR Try.prog nt (cOps (cFst a67)))).getD []
  cnd := cCnd (cFst aX2)
  b := (cod (cCnd (cFst aX2))).getD (.c .nilp)
  C7 := cSnd a67
  c7 := (cc Try.prog nt (cSnd a67)).getD .skip
  hit := by decide
  h5 := by kernel_rfl
  hop2 := by kernel_rfl
  hg2 := by kernel_rfl
  hd2 := by kernel_rfl
  hc5 := by kernel_rfl
  h6 := by kernel_rfl
  hop4 := by kernel_rfl
  hg4 := by kernel_rfl
  hd4 := by kernel_rfl
  hc6 := by kernel_rfl
  hb := by kernel_rfl
  h7 := by kernel_rfl
noncomputable def pre : List Code := [cFst ab, cFst (cSnd ab), cFst (cSnd (cSnd ab)), cFst (cSnd (cSnd (cSnd ab)))]
noncomputable def cr0 : Option CR := copR Try.prog nt (cOps (cFst aL)) (oAt l4 0)
noncomputable def allM : MapFn Try.prog 35 where
  fn := Try.f35
  b := ab
  rs := (Try.f35.results.toList.mapM (copRes Try.prog)).getD []
  hf := Try.func35
  hb := by kernel_rfl
  hname := by decide
  hrs := by kernel_rfl
  hnt := by decide
  T := allT
  pre := pre
  cpre := (pre.mapM (cc Try.prog nt)).getD []
  hpre := by kernel_rfl
  post := cSnd ab4
  cpost := (cc Try.prog nt (cSnd ab4)).getD .skip
  hpost := by kernel_rfl
  id4 := cId (cFst aL)
  ops4 := cOps (cFst aL)
  cd0 := CR.dd cr0
  cd1 := (copD nt (oAt l4 1).dst).getD .none
  co0 := CR.dop cr0
  x := 13
  hR := ⟨⟨oAt l4 0, oAt l4 1, 73, 9, 44, by kernel_rfl, by kernel_rfl, by decide, by kernel_rfl, by kernel_rfl, by kernel_rfl, by kernel_rfl⟩⟩
  hbody := by kernel_rfl
noncomputable def base0 : CallT := qev code 1000000
noncomputable def pkAll : Vm.Id → List AV → St → Option (List AV × AV) := allM.pick base0 1000000 (.ofNat 35)
noncomputable def base : CallT := qevP pkAll code 1000000
theorem known_true : ((base (.ofNat 6) [] .empty).on false fun v _ => like v (.bool true)) = true := by kernel_rfl
end Go.Proofs.Ytjnejkganejdbaa
namespace Go.Proofs.Ytjnejkganejdbaa
open Go.Shelf
/-- Where strings.IndexByte and what it calls lie here. -/
def ren137 : Ren where
  f := fun | 137 => 77 | 217 => 95 | 266 => 104 | n => n
  t := fun n => n
  g := fun n => n
theorem lays137 : Lays.n137 Try.prog ren137 where
  mixed := by kernel_rfl
  f137 := Try.func77.trans (congrArg some (by kernel_rfl))
  f217 := Try.func95.trans (congrArg some (by kernel_rfl))
  f266 := Try.func104.trans (congrArg some (by kernel_rfl))
  t3 := Try.underlying3
  a3 := Try.isAgg3
  z3 := Try.sizeOf3
  v3 := Try.zeroValue3
  t5 := Try.underlying5
  a5 := Try.isAgg5
  z5 := Try.sizeOf5
  v5 := Try.zeroValue5
  t9 := Try.underlying9
  a9 := Try.isAgg9
  z9 := Try.sizeOf9
  v9 := Try.zeroValue9
end Go.Proofs.Ytjnejkganejdbaa
namespace Go.Proofs.Ytjnejkganejdbaa
open Go.Shelf
theorem index_byte (s : ByteArray) (c : Int) (w : World) : Calls Try.prog 77 #[.string s, .int .u8 c] w fun e w' => e = .returned (.int .i64 (Lib.indexByte s.data.toList c.toNat.toUInt8)) ∧ w' = w := Any.strings_IndexByte lays137 s c w
open Go.Vm
set_option linter.unusedVariables false
theorem follows : Try.prog.follows .mixedOrders = true := by kernel_rfl
theorem base0_sound : SoundCall Try.prog base0 := by
  unfold base0
  rw [qev_eq]
  exact Vm.sound follows 1000000
theorem pkAll_sound (call : CallT) (hc : SoundCall Try.prog call) : SoundCall Try.prog (picks pkAll call) := allM.sound base0 1000000 base0_sound (Vm.drawn_ok follows) rfl hc
theorem knownSees : sees (qevP pkAll code 1000000) (.ofNat 6) ([], .bool true) = true := by
  have h := known_true
  unfold base at h
  unfold sees
  cases hq : qevP pkAll code 1000000 (.ofNat 6) [] .empty with
  | no => rw [hq] at h; cases h
  | ok v s =>
    rw [hq] at h
    have e : v = .bool true := like_ok (show like v (.bool true) = true from h)
    subst e; rfl
noncomputable def pkK : Vm.Id → List AV → St → Option (List AV × AV) := pkBy (.ofNat 6) (fun _ _ => 0) 0 (fun _ => []) fun _ => .bool true
theorem pkK_sound (call : CallT) (hc : SoundCall Try.prog call) : SoundCall Try.prog (picks pkK call) := by
  have h := seen_of (qevP_sound (Vm.drawn_ok follows) pkAll_sound 1000000) (g := .ofNat 6) knownSees
  exact pkOne_sound (gid := .ofNat 6) h.1 h.2 call hc
theorem pkK_at (s : St) : picks pkK (fun _ _ _ => .no) (.ofNat 6) [] s = .ok (.bool true) s := by
  have e : pkK (.ofNat 6) [] s = some ([], .bool true) := by
    unfold pkK pkBy
    rw [decide_eq_true rfl]; rfl
  unfold picks
  rw [e]
theorem no_sound (P : Program) : SoundCall P fun _ _ _ => .no := fun g args s r s' h => R.noConfusion h
theorem went_refl {s : St} {E : Env} {w : World} (h : Rel s E w) : Went s E w s E w := ⟨h, Nat.le_refl _, .refl⟩
theorem true_B_ok {args : List AV} {s s' : St} {r : AV} (h : true_B args s = .ok r s') : args = [] ∧ r = .bool true ∧ s' = s := by
  cases args with
  | nil => obtain ⟨h1, h2⟩ := ok_inj h; exact ⟨rfl, h1.symm, h2.symm⟩
  | cons a l => exact R.noConfusion h
theorem indexByte_B_ok {args : List AV} {s s' : St} {r : AV} (h : strings_IndexByte_B args s = .ok r s') : ∃ l c, args = [.str l, .int .u8 c] ∧ r = .int .i64 (Lib.indexByte l c.toNat.toUInt8) ∧ s' = s := by
  unfold strings_IndexByte_B at h
  split at h
  · obtain ⟨h1, h2⟩ := ok_inj h; exact ⟨_, _, rfl, h1.symm, h2.symm⟩
  · exact R.noConfusion h
/-- What is told of one function comes so. -/
def Sound1 (g : Vm.Id) (b : List AV → St → R) : Prop := ∀ (args : List AV) (s : St) (r : AV) (s' : St), b args s = .ok r s' → (∃ fn, Try.prog.funcs[g.val]? = some fn ∧ fn.body.isNone = false ∧ fn.name ≠ "runtime.NumGoroutine") ∧
  ∀ (E : Env) (w : World) (vals : List Value), Rel s E w → RL E w args vals → Calls Try.prog g.val vals.toArray w fun e w' => ∃ E' v, e = .returned v ∧ RV E' w' r v ∧ Went s E w s' E' w'
theorem base_rep : SoundCall Try.prog fun g a s => g.get (Tab.rep noB : Base) a s := by
  intro g args s r s' h
  simp only [Id.get_rep] at h
  exact R.noConfusion h
theorem base_set {g0 : Vm.Id} {b0 : List AV → St → R} {B : Base} (h0 : Sound1 g0 b0) (hB : SoundCall Try.prog fun g a s => g.get B a s) : SoundCall Try.prog fun g a s => g.get (g0.set b0 B) a s := by
  intro g args s r s' h
  by_cases hg : g = g0
  · subst hg
    simp only [Id.get_set, if_true] at h
    exact h0 args s r s' h
  · simp only [Id.get_set, if_neg hg] at h
    exact hB g args s r s' h
theorem known_sound : Sound1 F.law10_known true_B := by
  intro args s r s' h
  have eg : F.law10_known = .ofNat 6 := by kernel_rfl
  have hp := fun s => pkK_sound _ (no_sound _) (.ofNat 6) [] s _ _ (pkK_at s)
  rw [← eg] at hp
  obtain ⟨rfl, rfl, rfl⟩ := true_B_ok h
  exact hp _
theorem index_sound : Sound1 F.strings_IndexByte strings_IndexByte_B := by
  intro args s r s' h
  have ev : F.strings_IndexByte.val = 77 := by kernel_rfl
  obtain ⟨l, c, rfl, rfl, rfl⟩ := indexByte_B_ok h
  refine ⟨⟨Try.f77, by rw [ev]; exact Try.func77, by kernel_rfl, by decide⟩, fun E w vals rel hrl => ?_⟩
  obtain ⟨u1, vs1, rfl, k1, hrl⟩ := hrl.cons_inv
  obtain ⟨u2, vs2, rfl, k2, hrl⟩ := hrl.cons_inv
  have e3 : vs2 = [] := List.eq_nil_of_length_eq_zero hrl.len
  subst e3
  obtain ⟨x, rfl, hx⟩ := rv_str k1
  have e4 := rv_int k2
  subst e4
  rw [ev]
  refine Calls.mono (index_byte x c w) ?_
  rintro e w' ⟨rfl, rfl⟩
  exact ⟨E, _, rfl, by rw [hx]; exact .int _ _, went_refl rel⟩
end Go.Proofs.Ytjnejkganejdbaa
