/- The known cases. No condition. -/
import Derived.Test.YtkdkojnlimadnaaDoorLibO
namespace Go.Proofs.YtkdkojnlimadnaaDoor
open Go Go.Vm
set_option linter.unusedVariables false
set_option linter.unusedSimpArgs false
noncomputable instance told2 : Tel := ⟨Nat_B, Print_B⟩
noncomputable instance lay0 : Lay := ⟨tab10, []⟩
instance bare0 : Bare := ⟨rfl⟩
theorem ca2_sound : SoundCall Tryd.prog CA := ca_sound rfl (nat_sound1 rfl) (print_sound1 rfl)
theorem nat_call (s : St) (v : AV) (l : List Nat) (hl : l.length ≤ 100) (hv : Nats s v l) : CA F.digits_Nat [v] s = .ok (.str (Lib.decDigits (vh l))) s := told_ok told_digits_Nat (nat_B_ok hv hl)
theorem print_call (s : St) (n m : AV) (z : Z) (hl : z.mag.length ≤ 100) (hz : RZ s n m z) : CA F.digits_Print [.agg [n, m]] s = .ok (.str (zText z)) s := told_ok told_digits_Print (print_B_ok hz hl)
theorem zh_self {z : Z} (h : zIs z = true) : zh z = z := by unfold zh; rw [if_pos h]
theorem zText_of (n : Int) : zText (zOf n) = if n < 0 then [40, 45, 32] ++ Lib.decDigits n.natAbs ++ [41] else Lib.decDigits n.natAbs := by
  unfold zText
  rw [zh_self (zOf_is n)]
  unfold zOf
  simp only [val_lims, decide_eq_true_eq]
theorem rz_av (t : St) (z : Z) (hl : z.mag.length ≤ 140737488355328) : RZ t (.bool z.neg) (avN z.mag) z := ⟨rfl, avN_nats t _ hl⟩
theorem known_p1 : parseZ [40, 45, 32, 49, 48, 48, 48, 48, 48, 48, 48, 48, 53, 41] = (⟨true, lims 1000000005⟩, 0) := by
  have h1 : Lib.hasPrefix [40, 45, 32, 49, 48, 48, 48, 48, 48, 48, 48, 48, 53, 41] [40, 45, 32] = true := by decide
  have h2 : Lib.hasSuffix (List.drop 3 [40, 45, 32, 49, 48, 48, 48, 48, 48, 48, 48, 48, 53, 41]) [41] = true := by decide
  have h3 : isNum [49, 48, 48, 48, 48, 48, 48, 48, 48, 53] = true := by decide
  have h4 : dv [49, 48, 48, 48, 48, 48, 48, 48, 48, 53] = 1000000005 := by decide
  unfold parseZ
  rw [if_pos h1, if_pos h2]
  show parseR true [49, 48, 48, 48, 48, 48, 48, 48, 48, 53] = _
  unfold parseR
  rw [if_neg (by rw [h3]; decide), if_neg (by decide), h4]
theorem known_p2 : parseZ [48, 55] = (⟨false, []⟩, 10) := by
  have h1 : ¬ Lib.hasPrefix [48, 55] [40, 45, 32] = true := by decide
  have h3 : isNum [48, 55] = false := by decide
  unfold parseZ
  rw [if_neg h1]
  unfold parseR
  rw [if_pos (.inl h3)]
theorem nats_lit {s : St} {L : List AO} {l : List Nat} (hm : l.length ≤ limit) (hr : Room s) (hl : L.length ≤ 5000) {i : Nat} (hi : L[i]? = some (.cells (cellsN l))) : Nats (Sx s L) (.sl (nm s i) 0 l.length l.length 0) l := by
  obtain ⟨h1, h2, h3⟩ := isl_lit hr hl hi (n := l.length) hm l.length 0
  refine ⟨h1, rfl, fun j hj => ?_⟩
  rw [h2, Nat.mul_one]
  obtain ⟨hh1, hh2⟩ := List.getElem?_eq_some_iff.mp (show (cellsN l)[j]? = some (.int .u32 (l[j] : Int)) by unfold cellsN; rw [List.getElem?_map, List.getElem?_eq_getElem hj]; rfl)
  rw [List.drop_eq_getElem_cons hh1, hh2]
  exact ⟨_, rfl⟩
theorem known_ok (s : St) (hr : Room s) (hn : s.n.val ≤ 30000) : CA F.law3_known [] s = .ok (.bool true) s := by
  have hav : avN [] = .nils := if_pos rfl
  have hl5 : (lims 1000000005).length ≤ 2 := lims_len (by omega)
  have hn1 : (Sx s []).n.val ≤ 40000 := by show s.n.val ≤ 40000; omega
  have p1 := parse_ok (Sx s []) _ hr hn1 (show ([40, 45, 32, 49, 48, 48, 48, 48, 48, 48, 48, 48, 53, 41] : List UInt8).length ≤ 5000 by decide)
  rw [known_p1] at p1
  have hrA : Room (Sx s [.cells [.bool true, avN (lims 1000000005)]]) := hr.Sx (by simp; omega) (by simp)
  have p2 := parse_ok (Sx s [.cells [.bool true, avN (lims 1000000005)]]) _ hrA (by rw [Sx_n hr (by simp)]; simp; omega) (show ([48, 55] : List UInt8).length ≤ 5000 by decide)
  rw [known_p2, hav] at p2
  simp only at p1 p2
  have hL1 : ∀ L : List AO, L.length ≤ 100 → Room (Sx s L) ∧ (Sx s L).n.val ≤ 40000 := fun L hL => ⟨hr.Sx (by omega) (by omega), by rw [Sx_n hr (by omega)]; omega⟩
  have hone : (avN (lims 1000000005)).one = true := avN_one _
  have o5 := fun L hL => Of_ok (Sx s L) (-5) (hL1 L hL).1 (by have := (hL1 L hL).2; omega) (by omega)
  have pr5 := fun L => print_call (Sx s L) _ _ (zOf (-5)) (by have := lims_len (n := 5) (k := 1) (by omega); show (lims 5).length ≤ 100; omega) (rz_av (Sx s L) (zOf (-5)) (by have := lims_len (n := 5) (k := 1) (by omega); show (lims 5).length ≤ _; omega))
  have t5 : zText (zOf (-5)) = [40, 45, 32, 53, 41] := by rw [zText_of, if_pos (by omega)]; show _ ++ Lib.decDigits 5 ++ _ = _; rw [dec_small (by omega)]; rfl
  rw [t5] at pr5
  have o9 := fun L hL => Of_ok (Sx s L) (-1000000005) (hL1 L hL).1 (by have := (hL1 L hL).2; omega) (by omega)
  have z9 : zOf (-1000000005) = ⟨true, lims 1000000005⟩ := rfl
  rw [z9] at o9
  simp only at o9
  have n7 := fun L (hL : L.length ≤ 100) (hi : L[6]? = some (.cells [.int .u32 7, .int .u32 1])) => nat_call (Sx s L) (.sl (nm s 6) 0 2 2 0) [7, 1] (by simp) (nats_lit (l := [7, 1]) (by unfold limit; simp) hr (by omega) hi)
  have t7 : Lib.decDigits (vh [7, 1]) = [49, 48, 48, 48, 48, 48, 48, 48, 48, 55] := by
    rw [show vh [7, 1] = 1000000007 from rfl, dec_padk (k := 9) (by omega) (by omega)]; rfl
  rw [t7] at n7
  have q9 := fun L hL => equal_ok (Sx s L) (.bool true) (avN (lims 1000000005)) (.bool true) (avN (lims 1000000005)) ⟨true, lims 1000000005⟩ ⟨true, lims 1000000005⟩ (hL1 L hL).1 (by have := (hL1 L hL).2; show _ + 9 * (lims 1000000005).length + _ ≤ _; omega) ⟨rfl, avN_nats _ _ (by omega)⟩ ⟨rfl, avN_nats _ _ (by omega)⟩
  simp only [decide_true] at q9
  have m1 := fun L hL => numeral_ok (Sx s L) [48] (hL1 L hL).1 (by simp)
  have m2 := fun L hL => numeral_ok (Sx s L) [] (hL1 L hL).1 (by simp)
  rw [show isNum [48] = true by decide] at m1
  rw [show isNum [] = false by decide] at m2
  have pr0 := fun L => print_call (Sx s L) (.bool false) .nils ⟨false, []⟩ (by simp) ⟨rfl, nats_nil _⟩
  have t0 : zText ⟨false, []⟩ = [48] := by show Lib.decDigits 0 = _; rw [dec_small (by omega)]; rfl
  rw [t0] at pr0
  generalize avN (lims 1000000005) = A at *
  generalize avN (zOf (-5)).mag = B at *
  generalize (zOf (-5)).neg = C at *
  refine fn_of code_law3_known (by simp) ?_
  simp only [go_sem, ↓reduceIte, Nat.reduceMod, Nat.reduceEqDiff, Nat.reduceAdd, Nat.reduceMul, Nat.reduceSub, Nat.reduceLeDiff, Nat.reduceLT, Int.reduceEq, Int.reduceLT, Int.reduceLE, Int.reduceAdd, Int.reduceSub, Int.reduceNeg, reduceCtorEq, Nat.reduceShiftRight, Nat.reduceAnd, Nat.reduceBNe, hr, p1, p2, hone]
  refine W_drawn hr _ (by simp) ?_
  simp only [go_sem, ↓reduceIte, Nat.reduceMod, Nat.reduceEqDiff, Nat.reduceAdd, Nat.reduceMul, Nat.reduceSub, Nat.reduceLeDiff, Nat.reduceLT, Int.reduceEq, Int.reduceLT, Int.reduceLE, Int.reduceAdd, Int.reduceSub, Int.reduceNeg, reduceCtorEq, Nat.reduceShiftRight, Nat.reduceAnd, Nat.reduceBNe, Bool.not_true, Bool.not_false, decide_true, hr, hone, o5, pr5, n7, o9, q9, m1, m2, pr0]
  exact settled_bool (ext_Sx hr (by simp)) rfl
end Go.Proofs.YtkdkojnlimadnaaDoor
