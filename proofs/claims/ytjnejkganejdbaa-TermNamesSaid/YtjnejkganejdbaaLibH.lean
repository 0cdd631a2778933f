/- Functions of the program: more. No condition. -/
import Derived.Test.YtjnejkganejdbaaLibO
import Derived.Test.YtjnejkganejdbaaLibP
import Derived.Test.YtjnejkganejdbaaLibG
namespace Go.Vm
set_option linter.unusedVariables false
noncomputable def vtostr (a : AV) (s : St) : R := a.onSl .no (.ok (.str []) s) (fun b o l _ _ => (s.obj b).onCells .no fun cs => br (Nat.ble (Nat.add o l) (ln cs)) (cellBytes (tk l (dr o cs)) fun r => .ok (.str r) s) .no) fun cs l _ _ => br (Nat.beq l (ln cs)) (cellBytes cs fun r => .ok (.str r) s) .no
theorem p_tostr (call : CallT) (f : Fr AV) (s : St) (x : CO) : exop (.tostr x) call f s = vtostr (ev1 f x) s := nd rfl
theorem vtostr_one {s : St} {b : Id} {n : Int} (h : s.obj b = .cells [.int .u8 n]) : vtostr (.sl b 0 1 1 0) s = .ok (.str [UInt8.ofNat n.toNat]) s := by
  show (s.obj b).onCells R.no (fun cs => br (Nat.ble (0 + 1) (ln cs)) (cellBytes (tk 1 (dr 0 cs)) fun r => .ok (.str r) s) .no) = _
  rw [h]; rfl
attribute [go_sem] p_tostr
/-- A row of rows of six cells that one makes. -/
structure RowT (n : Nat) (σ : St) (av : AV) (G : List (List AV)) : Prop where
  six : ∀ c ∈ G, c.length = 6
  h : (av = .nils ∧ G = []) ∨ ∃ b : Id, av = .sl b 0 G.length G.length 6 ∧ G ≠ [] ∧ σ.obj b = .cells G.flatten ∧ n ≤ b.val ∧ b.val < σ.n.val
theorem flat6_len (G : List (List AV)) (h : ∀ c ∈ G, c.length = 6) : G.flatten.length = G.length * 6 := by
  induction G with
  | nil => rfl
  | cons c G ih =>
    have h1 := h c List.mem_cons_self
    rw [List.flatten_cons, List.length_append, ih fun d hd => h d (List.mem_cons_of_mem _ hd), List.length_cons]; omega
theorem flat6_drop (G : List (List AV)) (h : ∀ c ∈ G, c.length = 6) : ∀ i (hi : i < G.length), ∃ rest, G.flatten.drop (i * 6) = G[i] ++ rest := by
  induction G with
  | nil => intro i hi; simp at hi
  | cons c G ih =>
    intro i hi
    have h1 := h c List.mem_cons_self
    cases i with
    | zero => exact ⟨G.flatten, by simp⟩
    | succ i =>
      obtain ⟨rest, hr⟩ := ih (fun d hd => h d (List.mem_cons_of_mem _ hd)) i (by simpa using hi)
      refine ⟨rest, ?_⟩
      rw [List.flatten_cons, show (i + 1) * 6 = 6 + i * 6 by omega, ← List.drop_drop, List.drop_left' h1, hr]; rfl
theorem RowT.ts {n : Nat} {σ : St} {av : AV} {G : List (List AV)} {l : List T} (h : RowT n σ av G) (hl : G.length = l.length) (hm : l.length ≤ 1000) (ht : ∀ i (h1 : i < G.length) (h2 : i < l.length), RT6 σ G[i] l[i]) : Ts σ av l := by
  rcases h.h with ⟨rfl, rfl⟩ | ⟨b, rfl, hne, h1, h2, h3⟩
  · have e : l = [] := List.eq_nil_of_length_eq_zero (by simpa using hl.symm)
    subst e
    exact ⟨.nils, rfl, fun i hi => by simp at hi⟩
  · refine ⟨.sl b 0 _ _ _ _ (by unfold limit; omega) h1 h3 (by omega), hl, fun i hi => ?_⟩
    obtain ⟨rest, hr⟩ := flat6_drop G h.six i (by omega)
    show RT σ (((σ.obj b).row.drop 0).drop (i * 6)) _
    rw [h1]
    show RT σ (G.flatten.drop (i * 6)) _
    rw [hr]
    exact (ht i (by omega) hi).rt rest
end Go.Vm
namespace Go.Proofs.Ytjnejkganejdbaa
open Go Go.Vm
set_option linter.unusedVariables false
set_option linter.unusedSimpArgs false
abbrev NE : Nat → Fr AV → St → Prop := fun _ _ _ => False
abbrev NR : Fr AV → St → Prop := fun _ _ => False
def vN (i : Nat) : List UInt8 := [118, UInt8.ofNat (97 + i * 5 % 12)]
def cT (i : Nat) : T := .mk 4 ⟨false, []⟩ (vN i) 1 []
noncomputable def cC (i : Nat) : List AV := [.int .i64 4, .bool false, .nils, .str (vN i), .int .i64 1, .nils]
def fT : T := .mk 4 ⟨false, []⟩ [118, 97] 1 [.mk 1 (zOf 1) [] 2 []]
def lT (k : Nat) (tw : Bool) : List T := (List.range k).map cT ++ if tw then [fT] else []
theorem facts : ∀ k ∈ (List.range 13).drop 1, ∀ tw : Bool, makeE 7 (lT k tw) = 0 ∧ isT (makeT 7 (lT k tw)) = true ∧ (namesT [] (makeT 7 (lT k tw))).1.length = k ∧ (namesT [] (makeT 7 (lT k tw))).2 = !tw := by decide +kernel
theorem app_fact : appE ⟨[118, 97], [2], 1⟩ [.mk 1 (zOf 1) [] 2 []] = 0 := by decide +kernel
theorem cT_rep (s : St) (i : Nat) : RT6 s (cC i) (cT i) := con_rep s (vN i) 1
noncomputable def Nminit : CC := (.region [oo 4 (.mv (.c (.bool false)))])
noncomputable def Nmknown : CC := (.seq (.region [oo 15 (.callf F.law10_known []), oo 16 (.not (tt 15))]) (.cond (tt 16) (.seq (.region [oo 4 (.mv (.c (.bool false)))]) (.ret)) (.skip)))
noncomputable def Nmkk : CC := (.region [mm 17 0, oo 18 (.bin .rem (tt 17) (.c (.int .u8 12))), oo 19 (.conv .i64 (tt 18)), oo 20 (.bin .add (tt 19) (kk 1)), mm 5 20])
noncomputable def Nmnil : CC := (.region [oo 6 (.mv (.c .nils))])
noncomputable def Nml1 : CC := (.seq (.region [oo 7 (.mv (kk 0))]) (.block 0 (.loop (.seq (.seq (.region [mm 21 7, mm 22 5, oo 23 (.bin .lss (tt 21) (tt 22))]) (.cond (tt 23) (.skip) (.exit 0))) (.seq (.block 1 (.region [mm 26 6, mm 27 7, oo 28 (.bin .mul (tt 27) (kk 5)), oo 29 (.bin .rem (tt 28) (kk 12)), oo 30 (.conv .u8 (tt 29)), oo 31 (.bin .add (.c (.int .u8 97)) (tt 30)), oo 32 (.blit 1 [(.int .u8 0)] [⟨0, 1, (tt 31)⟩]), oo 33 (.tostr (tt 32)), oo 34 (.bin .add (.c (.str [118])) (tt 33)), oo 35 (.callf F.law10_con [(tt 34), (kk 1)]), oo 36 (.blit 1 [(.int .i64 0), (.bool false), .nils, (.str []), (.int .i64 0), .nils] [⟨0, 6, (tt 35)⟩]), oo 37 (.app 6 88 (tt 26) (tt 36)), mm 6 37])) (.region [mm 24 7, oo 25 (.bin .add (tt 24) (kk 1)), mm 7 25]))))))
noncomputable def Nmtw : CC := (.seq (.region [mm 38 1]) (.cond (tt 38) (.seq (.region [oo 40 (.blit 1 [(.int .i64 0)] [⟨0, 1, (kk 2)⟩]), oo 41 (.build [(.str []), .nils, (.int .i64 0)] [⟨0, 1, (.c (.str [118, 97]))⟩, ⟨1, 1, (tt 40)⟩, ⟨2, 1, (kk 1)⟩]), oo 42 (.callf F.law10_num [(kk 1)]), oo 43 (.blit 1 [(.int .i64 0), (.bool false), .nils, (.str []), (.int .i64 0), .nils] [⟨0, 6, (tt 42)⟩]), oo 44 (.callf F.term_App [(tt 41), (tt 43)]), mm 39 44, oo 45 (.ext (tt 39) 0), oo 46 (.ext (tt 39) 1), oo 8 (.alloc [(.int .i64 0), (.bool false), .nils, (.str []), (.int .i64 0), .nils]), on (.store 6 (tt 8) (tt 45)), mm 9 46]) (.region [mm 47 6, oo 48 (.load true 6 (tt 8)), oo 49 (.blit 1 [(.int .i64 0), (.bool false), .nils, (.str []), (.int .i64 0), .nils] [⟨0, 6, (tt 48)⟩]), oo 50 (.app 6 88 (tt 47) (tt 49)), mm 6 50])) (.skip)))
noncomputable def Nmmk : CC := (.region [mm 52 6, oo 53 (.callf F.term_Make [(kk 7), (tt 52)]), mm 51 53, oo 54 (.ext (tt 51) 0), oo 55 (.ext (tt 51) 1), oo 10 (.alloc [(.int .i64 0), (.bool false), .nils, (.str []), (.int .i64 0), .nils]), on (.store 6 (tt 10) (tt 54)), mm 11 55])
noncomputable def Nmsg : CC := (.region [oo 57 (.load true 6 (tt 10)), oo 58 (.callf F.term_Sigs [(tt 57)]), mm 56 58, oo 59 (.ext (tt 56) 0), oo 60 (.ext (tt 56) 1), mm 12 59, mm 13 60])
noncomputable def Nmchk : CC := (.seq (.region [mm 61 11, oo 62 (.bin .neq (tt 61) (kk 0)), mm 63 62, og 64 (.mv (tt 13)) 63 false, og 65 (.mv (tt 1)) 63 false, og 66 (.beq false (tt 64) (tt 65)) 63 false, oo 67 (.pick (tt 63) (.c (.bool true)) (tt 66)), mm 68 67, og 69 (.mv (tt 12)) 68 false, og 70 (.len (tt 69)) 68 false, og 71 (.mv (tt 5)) 68 false, og 72 (.bin .neq (tt 70) (tt 71)) 68 false, oo 73 (.pick (tt 68) (.c (.bool true)) (tt 72))]) (.cond (tt 73) (.seq (.region [oo 4 (.mv (.c (.bool false)))]) (.ret)) (.skip)))
noncomputable def Nml2 : CC := (.seq (.region [oo 14 (.mv (kk 1))]) (.block 2 (.loop (.seq (.seq (.region [mm 74 14, mm 75 12, oo 76 (.len (tt 75)), oo 77 (.bin .lss (tt 74) (tt 76))]) (.cond (tt 77) (.skip) (.exit 2))) (.seq (.block 3 (.seq (.drawn [.mk 0 0 .quiet (mm 80 12), .mk 1 0 .quiet (mm 81 14), .mk 2 2 .quiet (oo 82 (.bin .sub (tt 81) (kk 1))), .mk 3 7 .quiet (oo 83 (.iaddr 3 (tt 80) (tt 82))), .mk 4 15 .quiet (oo 84 (.faddr 0 (tt 83))), .mk 5 31 .read (oo 85 (.load false 1 (tt 84))), .mk 6 0 .quiet (mm 86 12), .mk 7 0 .quiet (mm 87 14), .mk 8 192 .quiet (oo 88 (.iaddr 3 (tt 86) (tt 87))), .mk 9 448 .quiet (oo 89 (.faddr 0 (tt 88))), .mk 10 960 .read (oo 90 (.load false 1 (tt 89))), .mk 11 2047 .quiet (oo 91 (.bin .geq (tt 85) (tt 90)))]) (.cond (tt 91) (.seq (.region [oo 4 (.mv (.c (.bool false)))]) (.ret)) (.skip)))) (.region [mm 78 14, oo 79 (.bin .add (tt 78) (kk 1)), mm 14 79]))))))
noncomputable def Nmfin : CC := (.region [oo 92 (.faddr 1 (tt 10)), oo 93 (.load true 2 (tt 92)), oo 94 (.callf F.ref1_Sign [(tt 93)]), oo 95 (.bin .eql (tt 94) (kk 0)), mm 4 95])
noncomputable def Nmret : CC := (.ret)
theorem Nmcode : C.law10_TermNames = .mk 96 [.tmp (vv 4)] (.seq Nminit (.seq Nmknown (.seq Nmkk (.seq Nmnil (.seq Nml1 (.seq Nmtw (.seq Nmmk (.seq Nmsg (.seq Nmchk (.seq Nml2 (.seq Nmfin Nmret))))))))))) := nd rfl
theorem rem_u12 (w : Nat) (s : St) : vbin .rem (.int .u8 (w : Int)) (.int .u8 12) s = .ok (.int .u8 ((w % 12 : Nat) : Int)) s := (vbin_rem s .u8 (w : Int) 12 (by decide)).trans rfl
theorem rem_i12 (w : Nat) (s : St) : vbin .rem (.int .i64 (w : Int)) (.int .i64 12) s = .ok (.int .i64 ((w % 12 : Nat) : Int)) s := (vbin_rem s .i64 (w : Int) 12 (by decide)).trans rfl
/-- The constants are made. -/
theorem names_l1 {s σ0 : St} {k : Nat} {tw : Bool} {f : Fr AV} (hr : Room σ0) (hn : σ0.n.val ≤ 1000) (hk : k ≤ 12) (g1 : (vv 1).get f = .bool tw) (g5 : (vv 5).get f = .int .i64 (k : Int)) (g6 : (vv 6).get f = .nils) :
    W CA Nml1 (fun f σ => Room σ ∧ Ext σ0 σ ∧ σ.n.val ≤ σ0.n.val + 36 ∧ RowT σ0.n.val σ ((vv 6).get f) ((List.range k).map cC) ∧ (vv 1).get f = .bool tw ∧ (vv 5).get f = .int .i64 (k : Int)) NE NR f (Sx σ0 []) := by
  unfold Nml1
  simp only [go_sem, ↓reduceIte, Nat.reduceMod, Nat.reduceEqDiff, Nat.reduceAdd, Nat.reduceMul, Nat.reduceSub, Nat.reduceLeDiff, Nat.reduceLT, Int.reduceEq, Int.reduceLT, Int.reduceLE, Int.reduceAdd, Int.reduceSub, Int.reduceNeg, reduceCtorEq, Nat.reduceShiftRight, Nat.reduceAnd, Nat.reduceBNe]
  refine W_inv (fun m f τ => ∃ (i : Nat) (σ : St), Sx σ [] = τ ∧ Room σ ∧ Ext σ0 σ ∧ σ.n.val ≤ σ0.n.val + 3 * i ∧ m = k - i ∧ i ≤ k ∧ RowT σ0.n.val σ ((vv 6).get f) ((List.range i).map cC) ∧ (vv 1).get f = .bool tw ∧ (vv 5).get f = .int .i64 (k : Int) ∧ (vv 7).get f = .int .i64 (i : Int)) ?_ ⟨0, σ0, Sx_nil _, hr, Ext.refl _, by omega, rfl, by omega, ?_, ?_, ?_, ?_⟩
  · rintro m f τ ⟨i, σ, rfl, hr1, hx, hn1, rfl, hi, row, g1, g5, g7⟩
    have hx0 := hx.n
    by_cases c1 : i < k
    · have e1 : IntKind.wrap .i64 ((i : Int) * 5) = ((i * 5 : Nat) : Int) := by rw [wrap_i64 (by omega) (by omega)]; omega
      have e2 : IntKind.wrap .u8 ((i * 5 % 12 : Nat) : Int) = ((i * 5 % 12 : Nat) : Int) := wrap_u8 (by omega) (by omega)
      have e3 : IntKind.wrap .u8 (97 + ((i * 5 % 12 : Nat) : Int)) = ((97 + i * 5 % 12 : Nat) : Int) := by rw [wrap_u8 (by omega) (by omega)]; omega
      have hts := vtostr_one (s := Sx σ [.cells [.int .u8 ((97 + i * 5 % 12 : Nat) : Int)]]) (b := nm σ 0) (n := ((97 + i * 5 % 12 : Nat) : Int)) (Sx_obj? hr1 (by simp) (i := 0) rfl)
      rw [Int.toNat_natCast] at hts
      have hsa : ∀ σ, vbin .add (.str [118]) (.str [UInt8.ofNat (97 + i * 5 % 12)]) σ = .ok (.str (vN i)) σ := fun σ => vbin_sadd σ _ _ (by simp)
      have fc := con_ok (Sx σ [.cells [.int .u8 ((97 + i * 5 % 12 : Nat) : Int)]]) (vN i) 1 (hr1.Sx (by simp; omega) (by simp))
      have er : (List.range (i + 1)).map cC = (List.range i).map cC ++ [cC i] := by rw [List.range_succ, List.map_append]; rfl
      have hgl : ((List.range i).map cC).length = i := by simp
      have six' : ∀ c ∈ (List.range (i + 1)).map cC, c.length = 6 := by
        intro c hc
        obtain ⟨j, _, rfl⟩ := List.mem_map.mp hc; rfl
      obtain ⟨avx, hav⟩ : ∃ a, a = (vv 6).get f := ⟨_, rfl⟩
      rw [← hav] at row
      rcases row.h with ⟨rfl, hG⟩ | ⟨b, rfl, hne, h1, h2, h3⟩
      · have hap := vapp_row0 (s := σ) (L := [.cells [.int .u8 ((97 + i * 5 % 12 : Nat) : Int)], .cells [.int .i64 4, .bool false, .nils, .str (vN i), .int .i64 1, .nils]]) (bytes := 88) (sz := 6) hr1 (by simp) rfl (i := 1) rfl (by unfold limit; omega)
        simp only [go_sem, ↓reduceIte, Nat.reduceMod, Nat.reduceEqDiff, Nat.reduceAdd, Nat.reduceMul, Nat.reduceSub, Nat.reduceLeDiff, Nat.reduceLT, Int.reduceEq, Int.reduceLT, Int.reduceLE, Int.reduceAdd, Int.reduceSub, Int.reduceNeg, reduceCtorEq, Nat.reduceShiftRight, Nat.reduceAnd, Nat.reduceBNe, ← hav, g1, g5, g7, Int.ofNat_lt, c1, hr1, e1, e2, e3, rem_i12, hts, hsa, fc, hap]
        have vn := nm_val hr1 (k := 2) (by omega)
        refine ⟨k - (i + 1), by omega, i + 1, _, Sx_nil _, hr1.Sx (by simp; omega) (by simp), hx.trans (ext_Sx hr1 (by simp)), ?_, rfl, by omega, ⟨six', .inr ⟨nm σ 2, ?_, ?_, ?_, by omega, ?_⟩⟩, ?_⟩
        · rw [Sx_n hr1 (by simp)]; simp; omega
        · rw [er, hG]; rfl
        · rw [er]; simp
        · rw [Sx_obj? hr1 (by simp) (i := 2) rfl, er, hG]; rfl
        · rw [vn, Sx_n hr1 (by simp)]; simp
        · rw [wrap_i64 (by omega) (by omega)]; rfl
      · have hc6 := flat6_len _ row.six
        rw [hgl] at hc6
        have hav' := hav
        rw [hgl] at hav'
        have hap := vapp_row (s := σ) (L := [.cells [.int .u8 ((97 + i * 5 % 12 : Nat) : Int)], .cells [.int .i64 4, .bool false, .nils, .str (vN i), .int .i64 1, .nils]]) (bytes := 88) (sz := 6) (len := i) hr1 (by simp) h3 h1 hc6 (by omega) rfl (i := 1) rfl (by unfold limit; omega) (by unfold limit; omega)
        have hrb := hr1.put h3 .dead
        simp only [go_sem, ↓reduceIte, Nat.reduceMod, Nat.reduceEqDiff, Nat.reduceAdd, Nat.reduceMul, Nat.reduceSub, Nat.reduceLeDiff, Nat.reduceLT, Int.reduceEq, Int.reduceLT, Int.reduceLE, Int.reduceAdd, Int.reduceSub, Int.reduceNeg, reduceCtorEq, Nat.reduceShiftRight, Nat.reduceAnd, Nat.reduceBNe, ← hav', g1, g5, g7, Int.ofNat_lt, c1, hr1, e1, e2, e3, rem_i12, hts, hsa, fc, hap]
        have vn := nm_val hr1 (k := 2) (by omega)
        refine ⟨k - (i + 1), by omega, i + 1, _, Sx_nil _, hrb.Sx (by rw [put_n]; simp; omega) (by simp), (hx.put h2 _).trans (ext_Sx hrb (by simp)), ?_, rfl, by omega, ⟨six', .inr ⟨nm σ 2, ?_, ?_, ?_, by omega, ?_⟩⟩, ?_⟩
        · rw [Sx_n hrb (by simp), put_n]; simp; omega
        · rw [er]; simp
        · rw [er]; simp
        · have hob := Sx_obj? (s := σ.put b .dead) (l := [.cells [.int .u8 ((97 + i * 5 % 12 : Nat) : Int)], .cells [.int .i64 4, .bool false, .nils, .str (vN i), .int .i64 1, .nils], .cells (((List.range i).map cC).flatten ++ [.int .i64 4, .bool false, .nils, .str (vN i), .int .i64 1, .nils])]) hrb (by simp) (i := 2) rfl
          rw [nm_put] at hob
          rw [hob, er, List.flatten_append]; simp [cC]
        · rw [vn, Sx_n hrb (by simp), put_n]; simp
        · rw [wrap_i64 (by omega) (by omega)]; rfl
    · have e : i = k := by omega
      subst e
      simp only [go_sem, ↓reduceIte, Nat.reduceMod, Nat.reduceEqDiff, Nat.reduceAdd, Nat.reduceMul, Nat.reduceSub, Nat.reduceLeDiff, Nat.reduceLT, Int.reduceEq, Int.reduceLT, Int.reduceLE, Int.reduceAdd, Int.reduceSub, Int.reduceNeg, reduceCtorEq, Nat.reduceShiftRight, Nat.reduceAnd, Nat.reduceBNe, g1, g5, g7, Int.ofNat_lt, c1]
      exact ⟨hr1, hx, by rw [Sx_nil]; omega, row⟩
  · simp only [go_sem, ↓reduceIte, Nat.reduceMod, Nat.reduceEqDiff, Nat.reduceAdd, Nat.reduceMul, Nat.reduceSub, Nat.reduceLeDiff, Nat.reduceLT, Int.reduceEq, Int.reduceLT, Int.reduceLE, Int.reduceAdd, Int.reduceSub, Int.reduceNeg, reduceCtorEq, Nat.reduceShiftRight, Nat.reduceAnd, Nat.reduceBNe, g6]
    exact ⟨by simp, .inl ⟨rfl, rfl⟩⟩
  · simp only [go_sem, ↓reduceIte, Nat.reduceMod, Nat.reduceEqDiff, Nat.reduceAdd, Nat.reduceMul, Nat.reduceSub, Nat.reduceLeDiff, Nat.reduceLT, Int.reduceEq, Int.reduceLT, Int.reduceLE, Int.reduceAdd, Int.reduceSub, Int.reduceNeg, reduceCtorEq, Nat.reduceShiftRight, Nat.reduceAnd, Nat.reduceBNe, g1]
  · simp only [go_sem, ↓reduceIte, Nat.reduceMod, Nat.reduceEqDiff, Nat.reduceAdd, Nat.reduceMul, Nat.reduceSub, Nat.reduceLeDiff, Nat.reduceLT, Int.reduceEq, Int.reduceLT, Int.reduceLE, Int.reduceAdd, Int.reduceSub, Int.reduceNeg, reduceCtorEq, Nat.reduceShiftRight, Nat.reduceAnd, Nat.reduceBNe, g5]
  · simp only [go_sem, ↓reduceIte, Nat.reduceMod, Nat.reduceEqDiff, Nat.reduceAdd, Nat.reduceMul, Nat.reduceSub, Nat.reduceLeDiff, Nat.reduceLT, Int.reduceEq, Int.reduceLT, Int.reduceLE, Int.reduceAdd, Int.reduceSub, Int.reduceNeg, reduceCtorEq, Nat.reduceShiftRight, Nat.reduceAnd, Nat.reduceBNe]
    rfl
theorem ints_lit {s : St} {L : List AO} (hr : Room s) (hl : L.length ≤ 5000) {i : Nat} {n : Int} (hi : L[i]? = some (.cells [.int .i64 n])) : Ints (Sx s L) (.sl (nm s i) 0 1 1 0) [n] := by
  obtain ⟨h1, h2, h3⟩ := isl_lit hr hl hi (n := 1) (by unfold limit; omega) 1 0
  refine ⟨h1, rfl, fun j hj => ?_⟩
  rw [h2]
  match j, hj with
  | 0, _ => exact ⟨[], rfl⟩
theorem lT_len (k : Nat) (tw : Bool) : (lT k tw).length = k + if tw then 1 else 0 := by unfold lT; cases tw <;> simp
theorem lT_get (k : Nat) (tw : Bool) (i : Nat) (h : i < k) : (lT k tw)[i]? = some (cT i) := by
  unfold lT
  rw [List.getElem?_append_left (by simpa using h), List.getElem?_map, List.getElem?_range h]; rfl
theorem lT_last (k : Nat) : (lT k true)[k]? = some fT := by
  unfold lT
  rw [List.getElem?_append_right (by simp)]; simp
theorem at_of {α : Type} {l : List α} {i : Nat} {a : α} (h : i < l.length) (e : l[i]? = some a) : l[i] = a := by
  rw [List.getElem?_eq_getElem h] at e; exact Option.some.inj e
/-- A name with two meanings, or none. -/
theorem names_tw {s σ : St} {k : Nat} {tw : Bool} {f : Fr AV} (hr : Room σ) (hx : Ext s σ) (hn : σ.n.val ≤ 2000) (hk0 : 1 ≤ k) (hk : k ≤ 12) (row : RowT s.n.val σ ((vv 6).get f) ((List.range k).map cC)) (g1 : (vv 1).get f = .bool tw) (g5 : (vv 5).get f = .int .i64 (k : Int)) :
    W CA Nmtw (fun f σ' => Room σ' ∧ Ext s σ' ∧ σ'.n.val ≤ σ.n.val + 10 ∧ Ts σ' ((vv 6).get f) (lT k tw) ∧ (vv 1).get f = .bool tw ∧ (vv 5).get f = .int .i64 (k : Int)) NE NR f (Sx σ []) := by
  have hgl : ((List.range k).map cC).length = k := by simp
  unfold Nmtw
  cases tw
  · simp only [go_sem, ↓reduceIte, Nat.reduceMod, Nat.reduceEqDiff, Nat.reduceAdd, Nat.reduceMul, Nat.reduceSub, Nat.reduceLeDiff, Nat.reduceLT, Int.reduceEq, Int.reduceLT, Int.reduceLE, Int.reduceAdd, Int.reduceSub, Int.reduceNeg, reduceCtorEq, Nat.reduceShiftRight, Nat.reduceAnd, Nat.reduceBNe, g1, g5]
    refine ⟨hr, hx, by rw [Sx_nil]; omega, row.ts (by rw [lT_len, hgl]; simp) (by rw [lT_len]; simp; omega) (fun i h1 h2 => ?_)⟩
    have e1 : ((List.range k).map cC)[i] = cC i := by simp
    have e2 : (lT k false)[i] = cT i := at_of h2 (lT_get k false i (by rw [hgl] at h1; exact h1))
    rw [e1, e2]; exact cT_rep _ i
  · obtain ⟨av, hav⟩ : ∃ a, a = (vv 6).get f := ⟨_, rfl⟩
    rw [← hav] at row
    rcases row.h with ⟨_, hG⟩ | ⟨b, rfl, hne, h1, h2, h3⟩
    · exfalso
      rw [hG] at hgl; simp at hgl; omega
    have hc6 := flat6_len _ row.six
    rw [hgl] at hc6
    have hav' := hav
    rw [hgl] at hav'
    have hrb := hr.put h3 .dead
    have hx1 := ext_Sx (s := σ) (l := [.cells [.int .i64 2]]) hr (by simp)
    have hr1 := hr.Sx (l := [.cells [.int .i64 2]]) (by simp; omega) (by simp)
    have hn1 := Sx_n (s := σ) (l := [.cells [.int .i64 2]]) hr (by simp)
    simp only [List.length_cons, List.length_nil] at hn1
    obtain ⟨cs1, fn1, rn1⟩ := num_ok (Sx σ [.cells [.int .i64 2]]) 1 hr1 (by omega) (by omega)
    obtain ⟨L2, hL2⟩ : ∃ L : List AO, L = [.cells [.int .i64 2], .cells cs1] := ⟨_, rfl⟩
    have lL2 : L2.length = 2 := by rw [hL2]; rfl
    have hr2 := hr.Sx (l := L2) (by omega) (by omega)
    have hn2 := Sx_n (s := σ) (l := L2) hr (by omega)
    have hts := ts_one (L := L2) hr (by omega) (i := 1) (by rw [hL2]; rfl) (rn1 (Sx σ L2))
    have htm : T.tames [T.mk 1 (zOf 1) [] 2 []] := ⟨⟨by show (lims 1).length ≤ _; rw [lims_one (by omega) (by omega)]; simp, by simp, trivial⟩, trivial⟩
    obtain ⟨csf, fa, ra⟩ := App_ok2 (Sx σ L2) (.sl (nm σ 1) 0 1 1 0) (.sl (nm σ 0) 0 1 1 0) [.mk 1 (zOf 1) [] 2 []] ⟨[118, 97], [2], 1⟩ htm hr2 (by omega) (by simp) hts (ints_lit hr (by omega) (by rw [hL2]; rfl))
    have eT : appT ⟨[118, 97], [2], 1⟩ [.mk 1 (zOf 1) [] 2 []] = fT := by unfold appT; rw [if_pos app_fact]; rfl
    rw [app_fact] at fa
    rw [eT] at ra
    have raf := ra _ hts rfl
    have len1 : cs1.length = 6 := by obtain ⟨a, c, d, e, _⟩ := (rn1 σ).ex; rw [e]; rfl
    have lenf : csf.length = 6 := by obtain ⟨a, c, d, e, _⟩ := raf.ex; rw [e]; rfl
    have hap := vapp_row (s := σ) (L := [.cells [.int .i64 2], .cells cs1, .cells csf, .cells csf]) (bytes := 88) (sz := 6) (len := k) hr (by simp) h3 h1 hc6 (by omega) lenf (i := 3) rfl (by unfold limit; omega) (by unfold limit; omega)
    have hrf := hrb.Sx (l := [.cells [.int .i64 2], .cells cs1, .cells csf, .cells csf, .cells (((List.range k).map cC).flatten ++ csf)]) (by rw [put_n]; simp; omega) (by simp)
    have hnf := Sx_n (s := σ.put b .dead) (l := [.cells [.int .i64 2], .cells cs1, .cells csf, .cells csf, .cells (((List.range k).map cC).flatten ++ csf)]) hrb (by simp)
    rw [put_n] at hnf
    simp only [List.length_cons, List.length_nil] at hnf
    have o4 := Sx_obj? (s := σ.put b .dead) (l := [.cells [.int .i64 2], .cells cs1, .cells csf, .cells csf, .cells (((List.range k).map cC).flatten ++ csf)]) hrb (by simp) (i := 4) rfl
    rw [nm_put] at o4
    have tsf := ts_one (s := σ.put b .dead) (L := [.cells [.int .i64 2], .cells cs1, .cells csf, .cells csf, .cells (((List.range k).map cC).flatten ++ csf)]) hrb (by simp) (i := 1) rfl (rn1 _)
    rw [nm_put] at tsf
    have row1 : rowOf (Sx (σ.put b .dead) [.cells [.int .i64 2], .cells cs1, .cells csf, .cells csf, .cells (((List.range k).map cC).flatten ++ csf)]) (.sl (nm σ 1) 0 1 1 0) = cs1 := by
      have := (isl_lit (s := σ.put b .dead) (L := [.cells [.int .i64 2], .cells cs1, .cells csf, .cells csf, .cells (((List.range k).map cC).flatten ++ csf)]) (i := 1) (n := 1) hrb (by simp) rfl (by unfold limit; omega) 1 0).2.1
      rw [nm_put] at this; exact this
    have row2 : rowOf (Sx σ L2) (.sl (nm σ 1) 0 1 1 0) = cs1 := (isl_lit (s := σ) (L := L2) (i := 1) (n := 1) hr (by omega) (by rw [hL2]; rfl) (by unfold limit; omega) 1 0).2.1
    have rfin := ra _ tsf (by rw [row1, row2])
    have vn := nm_val hr (k := 4) (by omega)
    have hfin : RowT s.n.val (Sx (σ.put b .dead) [.cells [.int .i64 2], .cells cs1, .cells csf, .cells csf, .cells (((List.range k).map cC).flatten ++ csf)]) (.sl (nm σ 4) 0 (k + 1) (k + 1) 6) ((List.range k).map cC ++ [csf]) := by
      refine ⟨fun c hc => ?_, .inr ⟨nm σ 4, by simp, by simp, by rw [o4, List.flatten_append]; simp, by have := hx.n; omega, by omega⟩⟩
      rcases List.mem_append.mp hc with hc | hc
      · exact row.six c hc
      · simp at hc; subst hc; exact lenf
    have hTs : Ts (Sx (σ.put b .dead) [.cells [.int .i64 2], .cells cs1, .cells csf, .cells csf, .cells (((List.range k).map cC).flatten ++ csf)]) (.sl (nm σ 4) 0 (k + 1) (k + 1) 6) (lT k true) := by
      refine hfin.ts (by rw [lT_len]; simp) (by rw [lT_len]; simp; omega) (fun i h1 h2 => ?_)
      by_cases c : i < k
      · have e1 : ((List.range k).map cC ++ [csf])[i] = cC i := by rw [List.getElem_append_left (by simpa using c)]; simp
        have e2 : (lT k true)[i] = cT i := at_of h2 (lT_get k true i c)
        rw [e1, e2]; exact cT_rep _ i
      · have ei : i = k := by rw [lT_len] at h2; simp at h2; omega
        subst ei
        have e1 : ((List.range i).map cC ++ [csf])[i] = csf := by rw [List.getElem_append_right (by simp)]; simp
        have e2 : (lT i true)[i] = fT := at_of h2 (lT_last i)
        rw [e1, e2]; exact rfin
    obtain ⟨ngf, mgf, kvf, ecf, hzf, hkf⟩ := raf.ex
    obtain ⟨ng1, mg1, kv1, ec1, hz1, hk1⟩ := (rn1 σ).ex
    have hz1' := hz1.one
    have hzf' := hzf.one
    have hk1' := hk1.one
    have hkf' := hkf.one
    rw [hL2] at fa
    subst ecf
    subst ec1
    simp only [go_sem, ↓reduceIte, Nat.reduceMod, Nat.reduceEqDiff, Nat.reduceAdd, Nat.reduceMul, Nat.reduceSub, Nat.reduceLeDiff, Nat.reduceLT, Int.reduceEq, Int.reduceLT, Int.reduceLE, Int.reduceAdd, Int.reduceSub, Int.reduceNeg, reduceCtorEq, Nat.reduceShiftRight, Nat.reduceAnd, Nat.reduceBNe, ← hav', g1, g5, hr, fn1, fa, hap, hz1', hzf', hk1', hkf']
    exact ⟨hrf, (hx.put h2 _).trans (ext_Sx hrb (by simp)), by omega, hTs⟩
theorem tames_of {l : List T} (h : ∀ t ∈ l, t.tame) : T.tames l := by
  induction l with
  | nil => trivial
  | cons t l ih => exact ⟨h t List.mem_cons_self, ih fun u hu => h u (List.mem_cons_of_mem _ hu)⟩
theorem lT_tames (k : Nat) (tw : Bool) : T.tames (lT k tw) := by
  refine tames_of fun t ht => ?_
  unfold lT at ht
  rcases List.mem_append.mp ht with ht | ht
  · obtain ⟨i, _, rfl⟩ := List.mem_map.mp ht
    exact ⟨by simp, by simp [vN], trivial⟩
  · cases tw
    · simp at ht
    · simp at ht
      subst ht
      exact ⟨by simp, by simp, ⟨by show (lims 1).length ≤ _; rw [lims_one (by omega) (by omega)]; simp, by simp, trivial⟩, trivial⟩
/-- The names come in order. -/
theorem names_l2 {s τ0 : St} {L : List Sg} {k : Nat} {f : Fr AV} {b10 : Vm.Id} (hr : Room τ0) (hxs : Ext s τ0) (hn : τ0.n.val ≤ 4000) (hL : L.length = k) (hk0 : 1 ≤ k) (hk : k ≤ 12) (hso : sortG L = L) (hu : Uniq L) (g12 : (vv 12).get f = avG L) (g10 : (vv 10).get f = .ptr b10 0) :
    W CA Nml2 (fun f τ => Ext s τ ∧ Ext τ0 τ ∧ Room τ ∧ τ.n.val ≤ τ0.n.val + 144 ∧ (vv 10).get f = .ptr b10 0) NE (fun f τ => (vv 4).get f = .bool true ∧ Ext s τ) f (Sx τ0 []) := by
  have sl := (avG_row τ0 L).slr (by omega)
  unfold Nml2
  simp only [go_sem, ↓reduceIte, Nat.reduceMod, Nat.reduceEqDiff, Nat.reduceAdd, Nat.reduceMul, Nat.reduceSub, Nat.reduceLeDiff, Nat.reduceLT, Int.reduceEq, Int.reduceLT, Int.reduceLE, Int.reduceAdd, Int.reduceSub, Int.reduceNeg, reduceCtorEq, Nat.reduceShiftRight, Nat.reduceAnd, Nat.reduceBNe]
  refine W_inv (fun m f τ => ∃ (i : Nat) (σ : St), Sx σ [] = τ ∧ Room σ ∧ Ext τ0 σ ∧ σ.n.val + 12 ≤ τ0.n.val + 12 * i ∧ m = k - i ∧ 1 ≤ i ∧ i ≤ k ∧ (vv 12).get f = avG L ∧ (vv 10).get f = .ptr b10 0 ∧ (vv 14).get f = .int .i64 (i : Int)) ?_ ⟨1, τ0, Sx_nil _, hr, Ext.refl _, by omega, rfl, by omega, hk0, ?_, ?_, ?_⟩
  · rintro m f τ ⟨i, σ, rfl, hr1, hx, hn1, rfl, hi0, hi, g12, g10, g14⟩
    by_cases c1 : i < k
    · have cL : i < L.length := by omega
      have cL1 : i - 1 < L.length := by omega
      have e1 : IntKind.wrap .i64 ((i : Int) - 1) = ((i - 1 : Nat) : Int) := by rw [wrap_i64 (by omega) (by omega)]; omega
      have hx2 : Ext τ0 (Sx σ [.dead, .dead, .dead, .dead, .dead, .dead, .dead, .dead, .dead, .dead, .dead, .dead]) := hx.trans (ext_Sx hr1 (by simp))
      have hr2 := hr1.Sx (l := [.dead, .dead, .dead, .dead, .dead, .dead, .dead, .dead, .dead, .dead, .dead, .dead]) (by simp; omega) (by simp)
      have n2 := Sx_n (s := σ) (l := [.dead, .dead, .dead, .dead, .dead, .dead, .dead, .dead, .dead, .dead, .dead, .dead]) hr1 (by simp)
      simp only [List.length_cons, List.length_nil] at n2
      have hlt := sorted_lt hso hu cL (show i - 1 < i by omega)
      simp only [go_sem, ↓reduceIte, Nat.reduceMod, Nat.reduceEqDiff, Nat.reduceAdd, Nat.reduceMul, Nat.reduceSub, Nat.reduceLeDiff, Nat.reduceLT, Int.reduceEq, Int.reduceLT, Int.reduceLE, Int.reduceAdd, Int.reduceSub, Int.reduceNeg, reduceCtorEq, Nat.reduceShiftRight, Nat.reduceAnd, Nat.reduceBNe, g12, g10, g14, sl.vlen, hL, Int.ofNat_lt, c1]
      refine W_drawn hr1 _ (by simp) ?_
      simp only [go_sem, ↓reduceIte, Nat.reduceMod, Nat.reduceEqDiff, Nat.reduceAdd, Nat.reduceMul, Nat.reduceSub, Nat.reduceLeDiff, Nat.reduceLT, Int.reduceEq, Int.reduceLT, Int.reduceLE, Int.reduceAdd, Int.reduceSub, Int.reduceNeg, reduceCtorEq, Nat.reduceShiftRight, Nat.reduceAnd, Nat.reduceBNe, g12, g10, g14, hr1, e1, sl.ia cL, sl.ia cL1, sl.sgFld cL, sl.sgFld cL1, sl.sgName cL hx2, sl.sgName cL1 hx2, bytesLess_eq, hlt, decide_true, Bool.not_true]
      refine ⟨k - (i + 1), by omega, i + 1, _, Sx_nil _, hr2, hx2, by omega, rfl, by omega, by omega, ?_⟩
      rw [wrap_i64 (by omega) (by omega)]; rfl
    · have e : i = k := by omega
      subst e
      simp only [go_sem, ↓reduceIte, Nat.reduceMod, Nat.reduceEqDiff, Nat.reduceAdd, Nat.reduceMul, Nat.reduceSub, Nat.reduceLeDiff, Nat.reduceLT, Int.reduceEq, Int.reduceLT, Int.reduceLE, Int.reduceAdd, Int.reduceSub, Int.reduceNeg, reduceCtorEq, Nat.reduceShiftRight, Nat.reduceAnd, Nat.reduceBNe, g12, g10, g14, sl.vlen, hL, Int.ofNat_lt, c1]
      exact ⟨hxs.trans hx, hx, hr1, by rw [Sx_nil]; omega⟩
  · simp only [go_sem, ↓reduceIte, Nat.reduceMod, Nat.reduceEqDiff, Nat.reduceAdd, Nat.reduceMul, Nat.reduceSub, Nat.reduceLeDiff, Nat.reduceLT, Int.reduceEq, Int.reduceLT, Int.reduceLE, Int.reduceAdd, Int.reduceSub, Int.reduceNeg, reduceCtorEq, Nat.reduceShiftRight, Nat.reduceAnd, Nat.reduceBNe, g12]
  · simp only [go_sem, ↓reduceIte, Nat.reduceMod, Nat.reduceEqDiff, Nat.reduceAdd, Nat.reduceMul, Nat.reduceSub, Nat.reduceLeDiff, Nat.reduceLT, Int.reduceEq, Int.reduceLT, Int.reduceLE, Int.reduceAdd, Int.reduceSub, Int.reduceNeg, reduceCtorEq, Nat.reduceShiftRight, Nat.reduceAnd, Nat.reduceBNe, g10]
  · simp only [go_sem, ↓reduceIte, Nat.reduceMod, Nat.reduceEqDiff, Nat.reduceAdd, Nat.reduceMul, Nat.reduceSub, Nat.reduceLeDiff, Nat.reduceLT, Int.reduceEq, Int.reduceLT, Int.reduceLE, Int.reduceAdd, Int.reduceSub, Int.reduceNeg, reduceCtorEq, Nat.reduceShiftRight, Nat.reduceAnd, Nat.reduceBNe]
    rfl
/-- Behind the names. -/
theorem names_tail {s σ : St} {k : Nat} {tw : Bool} {f : Fr AV} (hr : Room σ) (hx : Ext s σ) (hn : σ.n.val ≤ 3000) (hk0 : 1 ≤ k) (hk : k ≤ 12) (hT : Ts σ ((vv 6).get f) (lT k tw)) (g1 : (vv 1).get f = .bool tw) (g5 : (vv 5).get f = .int .i64 (k : Int)) :
    W CA (.seq Nmmk (.seq Nmsg (.seq Nmchk (.seq Nml2 (.seq Nmfin Nmret))))) NR NE (fun f τ => (vv 4).get f = .bool true ∧ Ext s τ) f (Sx σ []) := by
  obtain ⟨av, hav⟩ : ∃ a, a = (vv 6).get f := ⟨_, rfl⟩
  rw [← hav] at hT
  obtain ⟨f1, f2, f3, f4⟩ := facts k (by rw [List.mem_iff_getElem?]; exact ⟨k - 1, by rw [List.getElem?_drop, show 1 + (k - 1) = k by omega, List.getElem?_range (by omega)]⟩) tw
  have htl := lT_tames k tw
  obtain ⟨cs, fm, rm⟩ := Make_ok σ av (lT k tw) 7 htl hr (by omega) (by rw [lT_len]; split <;> omega) hT
  have htm : (makeT 7 (lT k tw)).tame := by unfold makeT; rw [if_pos f1]; exact ⟨by simp, by simp, htl⟩
  have htn : (makeT 7 (lT k tw)).n = ⟨false, []⟩ := by unfold makeT; rw [if_pos f1]; rfl
  rw [f1] at fm
  generalize makeT 7 (lT k tw) = t at *
  obtain ⟨ng, mg, kv, rfl, hz, hkv⟩ := rm.ex
  obtain ⟨c0, hc0⟩ : ∃ c, c = [AV.int .i64 t.op, ng, mg, .str t.name, .int .i64 t.sort, kv] := ⟨_, rfl⟩
  have hx1 := ext_Sx (s := σ) (l := [.cells c0]) hr (by simp)
  have hr1 := hr.Sx (l := [.cells c0]) (by simp; omega) (by simp)
  have hn1 := Sx_n (s := σ) (l := [.cells c0]) hr (by simp)
  simp only [List.length_cons, List.length_nil] at hn1
  have q0 := Sx_obj? (s := σ) (l := [.cells c0]) hr (by simp) (i := 0) rfl
  have v0 := nm_val hr (k := 0) (by omega)
  have fs := term_Sigs_ok _ _ t htm hr1 (by omega) (rm.x hx1)
  rw [f2, if_pos rfl, if_pos rfl, f4] at fs
  have hu : Uniq (namesT [] t).1 := namesT_uniq t [] (by simp)
  have hL : (sortG (namesT [] t).1).length = k := by rw [sortG_len, f3]
  have hso := sort_fix hu
  have huL : Uniq (sortG (namesT [] t).1) := uniq_perm (sortG_perm _).symm hu
  generalize sortG (namesT [] t).1 = L at *
  have sl := (avG_row σ L).slr (by omega)
  have ga := avG_one L
  have fz : ∀ τ, Ext σ τ → Room τ → τ.n.val ≤ 50000 → CA F.ref1_Sign [.agg [ng, mg]] τ = .ok (.int .i64 0) τ := by
    intro τ hxt hrt hnt
    have := ref1_Sign_ok τ ng mg t.n hrt (by omega) (hz.x hxt)
    rw [htn] at this; exact this
  have fm' : CA F.term_Make [.int .i64 7, av] (Sx σ []) = .ok (.tup [.agg c0, .int .i64 0]) (Sx σ []) := by rw [hc0]; exact fm
  have l0 : c0.length = 6 := by rw [hc0]; rfl
  have o0 : ∀ c ∈ c0, c.one = true := by
    rw [hc0]
    intro c hc
    simp only [List.mem_cons, List.not_mem_nil, or_false] at hc
    rcases hc with rfl | rfl | rfl | rfl | rfl | rfl
    · rfl
    · exact hz.one.1
    · exact hz.one.2
    · rfl
    · rfl
    · exact hkv.one
  rw [hc0] at fm' fs
  have key : ∀ g : Fr AV, (vv 12).get g = avG L → (vv 10).get g = .ptr (nm σ 0) 0 → W CA Nml2 (fun f τ => W CA (.seq Nmfin Nmret) NR NE (fun f τ => (vv 4).get f = .bool true ∧ Ext s τ) f τ) NE (fun f τ => (vv 4).get f = .bool true ∧ Ext s τ) g (Sx σ [.cells c0]) := by
    intro g g12 g10
    refine W.mono (names_l2 (τ0 := Sx σ [.cells c0]) hr1 (hx.trans hx1) (by omega) hL hk0 hk hso huL g12 g10) ?_ (fun _ _ _ h => h) (fun _ _ h => h)
    rintro g' τ ⟨x1, x2, r1, n1, h10⟩
    have o1 : τ.obj (nm σ 0) = .cells c0 := by rw [x2.old _ (by omega)]; exact q0
    have w1 : (nm σ 0).val < τ.n.val := by have := x2.n; omega
    have fz' := fz τ (hx1.trans x2) r1 (by omega)
    rw [hc0] at o1
    show W CA (.seq Nmfin Nmret) NR NE (fun f τ => (vv 4).get f = .bool true ∧ Ext s τ) g' (Sx τ [])
    unfold Nmfin Nmret
    simp only [go_sem, ↓reduceIte, Nat.reduceMod, Nat.reduceEqDiff, Nat.reduceAdd, Nat.reduceMul, Nat.reduceSub, Nat.reduceLeDiff, Nat.reduceLT, Int.reduceEq, Int.reduceLT, Int.reduceLE, Int.reduceAdd, Int.reduceSub, Int.reduceNeg, reduceCtorEq, Nat.reduceShiftRight, Nat.reduceAnd, Nat.reduceBNe, h10, o1, r1, w1, fz', Sx_nil, decide_true]
    exact x1
  rw [hc0] at key
  cases tw
  · simp only [Bool.not_false] at fs
    unfold Nmmk Nmsg Nmchk
    simp only [go_sem, ↓reduceIte, Nat.reduceMod, Nat.reduceEqDiff, Nat.reduceAdd, Nat.reduceMul, Nat.reduceSub, Nat.reduceLeDiff, Nat.reduceLT, Int.reduceEq, Int.reduceLT, Int.reduceLE, Int.reduceAdd, Int.reduceSub, Int.reduceNeg, reduceCtorEq, Nat.reduceShiftRight, Nat.reduceAnd, Nat.reduceBNe, ← hav, g1, g5, hr, fm', fs, sl.vlen, hL, hz.one, hkv.one, ga, ne_eq, not_true_eq_false, decide_false, decide_true]
    refine key _ ?_ ?_ <;> simp only [go_sem, ↓reduceIte, Nat.reduceMod, Nat.reduceEqDiff, Nat.reduceAdd, Nat.reduceMul, Nat.reduceSub, Nat.reduceLeDiff, Nat.reduceLT, Int.reduceEq, Int.reduceLT, Int.reduceLE, Int.reduceAdd, Int.reduceSub, Int.reduceNeg, reduceCtorEq, Nat.reduceShiftRight, Nat.reduceAnd, Nat.reduceBNe]
  · simp only [Bool.not_true] at fs
    unfold Nmmk Nmsg Nmchk
    simp only [go_sem, ↓reduceIte, Nat.reduceMod, Nat.reduceEqDiff, Nat.reduceAdd, Nat.reduceMul, Nat.reduceSub, Nat.reduceLeDiff, Nat.reduceLT, Int.reduceEq, Int.reduceLT, Int.reduceLE, Int.reduceAdd, Int.reduceSub, Int.reduceNeg, reduceCtorEq, Nat.reduceShiftRight, Nat.reduceAnd, Nat.reduceBNe, ← hav, g1, g5, hr, fm', fs, sl.vlen, hL, hz.one, hkv.one, ga, ne_eq, not_true_eq_false, decide_false, decide_true]
    refine key _ ?_ ?_ <;> simp only [go_sem, ↓reduceIte, Nat.reduceMod, Nat.reduceEqDiff, Nat.reduceAdd, Nat.reduceMul, Nat.reduceSub, Nat.reduceLeDiff, Nat.reduceLT, Int.reduceEq, Int.reduceLT, Int.reduceLE, Int.reduceAdd, Int.reduceSub, Int.reduceNeg, reduceCtorEq, Nat.reduceShiftRight, Nat.reduceAnd, Nat.reduceBNe]
theorem TermNames_ok (s : St) (n : Nat) (tw : Bool) (hr : Room s) (hn : s.n.val ≤ 900) (hn8 : n ≤ 255) : CA F.law10_TermNames [.int .u8 (n : Int), .bool tw] s = .ok (.bool true) s := by
  have fk := known_ok (Sx s [])
  have e1 : IntKind.wrap .i64 ((n % 12 : Nat) : Int) = ((n % 12 : Nat) : Int) := wrap_i64 (by omega) (by omega)
  have e2 : IntKind.wrap .i64 (((n % 12 : Nat) : Int) + 1) = ((n % 12 + 1 : Nat) : Int) := by rw [wrap_i64 (by omega) (by omega)]; omega
  have hcode := code_law10_TermNames
  rw [Nmcode] at hcode
  refine fn_of hcode (by simp) ?_
  unfold Nminit Nmknown Nmkk Nmnil
  simp only [go_sem, ↓reduceIte, Nat.reduceMod, Nat.reduceEqDiff, Nat.reduceAdd, Nat.reduceMul, Nat.reduceSub, Nat.reduceLeDiff, Nat.reduceLT, Int.reduceEq, Int.reduceLT, Int.reduceLE, Int.reduceAdd, Int.reduceSub, Int.reduceNeg, reduceCtorEq, Nat.reduceShiftRight, Nat.reduceAnd, Nat.reduceBNe, hr, fk, Bool.not_true, rem_u12, e1, e2]
  refine W.mono (names_l1 (s := s) (σ0 := s) (k := n % 12 + 1) (tw := tw) hr (by omega) (by omega) ?_ ?_ ?_) ?_ (fun _ _ _ h => h.elim) (fun _ _ h => h.elim)
  · simp only [go_sem, ↓reduceIte, Nat.reduceMod, Nat.reduceEqDiff, Nat.reduceAdd, Nat.reduceMul, Nat.reduceSub, Nat.reduceLeDiff, Nat.reduceLT, Int.reduceEq, Int.reduceLT, Int.reduceLE, Int.reduceAdd, Int.reduceSub, Int.reduceNeg, reduceCtorEq, Nat.reduceShiftRight, Nat.reduceAnd, Nat.reduceBNe]
  · simp only [go_sem, ↓reduceIte, Nat.reduceMod, Nat.reduceEqDiff, Nat.reduceAdd, Nat.reduceMul, Nat.reduceSub, Nat.reduceLeDiff, Nat.reduceLT, Int.reduceEq, Int.reduceLT, Int.reduceLE, Int.reduceAdd, Int.reduceSub, Int.reduceNeg, reduceCtorEq, Nat.reduceShiftRight, Nat.reduceAnd, Nat.reduceBNe]
  · simp only [go_sem, ↓reduceIte, Nat.reduceMod, Nat.reduceEqDiff, Nat.reduceAdd, Nat.reduceMul, Nat.reduceSub, Nat.reduceLeDiff, Nat.reduceLT, Int.reduceEq, Int.reduceLT, Int.reduceLE, Int.reduceAdd, Int.reduceSub, Int.reduceNeg, reduceCtorEq, Nat.reduceShiftRight, Nat.reduceAnd, Nat.reduceBNe]
  rintro f1 σ1 ⟨r1, x1, n1, row, g1, g5⟩
  rw [W_seq]
  show W CA Nmtw _ _ _ f1 (Sx σ1 [])
  refine W.mono (names_tw (s := s) r1 x1 (by omega) (by omega) (by omega) row g1 g5) ?_ (fun _ _ _ h => h.elim) (fun _ _ h => h.elim)
  rintro f2 σ2 ⟨r2, x2, n2, hT, g1, g5⟩
  show W CA _ _ _ _ f2 (Sx σ2 [])
  refine W.mono (names_tail (s := s) r2 x2 (by omega) (by omega) (by omega) hT g1 g5) (fun _ _ h => h.elim) (fun _ _ _ h => h.elim) ?_
  rintro f3 τ ⟨h4, x3⟩
  rw [Rs_l, Rl_tmp, Rl_nil, pack_1, h4]
  exact settled_bool x3 rfl
end Go.Proofs.Ytjnejkganejdbaa
