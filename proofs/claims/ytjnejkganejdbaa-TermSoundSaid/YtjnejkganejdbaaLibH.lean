/- Functions of the program: more. No condition. -/
import Derived.Test.YtjnejkganejdbaaLibG
namespace Go.Proofs.Ytjnejkganejdbaa
open Go Go.Vm
set_option linter.unusedVariables false
set_option linter.unusedSimpArgs false
theorem r6_kids {s : St} {o so : Int} {a b e : AV} {nm : List UInt8} {t : T} (h : RT6 s [.int .i64 o, a, b, .str nm, .int .i64 so, e] t) : Ts s e t.kids := by
  obtain ⟨q1, q2, q3, hq, hz, hk⟩ := h.ex
  simp only [List.cons.injEq] at hq
  obtain ⟨_, rfl, rfl, _, _, rfl, _⟩ := hq
  exact hk
theorem r6_z {s : St} {o so : Int} {a b e : AV} {nm : List UInt8} {t : T} (h : RT6 s [.int .i64 o, a, b, .str nm, .int .i64 so, e] t) : RZ s a b t.n := by
  obtain ⟨q1, q2, q3, hq, hz, hk⟩ := h.ex
  simp only [List.cons.injEq] at hq
  obtain ⟨_, rfl, rfl, _, _, rfl, _⟩ := hq
  exact hz
theorem rem_u8 (w : Nat) (s : St) : vbin .rem (.int .u8 (w : Int)) (.int .u8 4) s = .ok (.int .u8 ((w % 4 : Nat) : Int)) s := by
  exact (vbin_rem s .u8 (w : Int) 4 (by decide)).trans rfl
theorem zeroT_tame1 : zeroT.tame := ⟨by simp, by simp, trivial⟩
theorem T.tames_snoc {l : List T} {t : T} (h : T.tames l) (ht : t.tame) : T.tames (l ++ [t]) := by
  induction l with
  | nil => exact ⟨ht, trivial⟩
  | cons a l ih => exact ⟨h.1, ih h.2⟩
theorem loop_ok (s : St) (op k : Int) (v a b kv : AV) (l : List T) (w : Nat) (A : List AO) (b1 : Vm.Id) (hr : Room s) (hn : s.n.val ≤ 1000) (hv : Ts s v l) (hsz : T.sizes l ≤ 120 * l.length) (htm : T.tames l) (hll : l.length ≤ 8) (hlp : 0 < l.length) (hs4 : 1 + T.sizes l ≤ 400) (hkk : k = resSort op l) (hk12 : k = 1 ∨ k = 2) (d3 : makeE op l = 0)
    (hK : ∀ σ, Ext s σ → RT6 σ [.int .i64 op, a, b, .str [], .int .i64 k, kv] (tMade op l)) (hA : A = [.cells [.int .i64 op, a, b, .str [], .int .i64 k, kv]]) (hb1 : b1 = nm s 0) (f : Fr AV) (g1 : (vv 1).get f = v) (g2 : (vv 2).get f = .int .u8 (w : Int)) (g7 : (vv 7).get f = .ptr b1 0) (g9 : (vv 9).get f = .int .i64 1) (g10 : (vv 10).get f = .int .i64 0) :
    W CA (.loop (.seq (.seq (.region [mm 71 10, mm 72 1, oo 73 (.len (tt 72)), oo 74 (.bin .lss (tt 71) (tt 73))]) (.cond (tt 74) (.skip) (.exit 0))) (.seq (.block 1 (.seq (.seq (.drawn [.mk 0 0 .quiet (oo 77 (.faddr 5 (tt 7))), .mk 1 1 .read (oo 78 (.load false 1 (tt 77))), .mk 2 0 .quiet (mm 79 10), .mk 3 7 .quiet (oo 80 (.iaddr 6 (tt 78) (tt 79))), .mk 4 15 .read (oo 81 (.load true 6 (tt 80))), .mk 5 0 .quiet (mm 82 1), .mk 6 0 .quiet (mm 83 10), .mk 7 96 .quiet (oo 84 (.iaddr 6 (tt 82) (tt 83))), .mk 8 224 .read (oo 85 (.load true 6 (tt 84))), .mk 9 511 .mut (oo 86 (.callf F.term_Same [(tt 81), (tt 85)])), .mk 10 1023 .quiet (oo 87 (.not (tt 86)))]) (.cond (tt 87) (.seq (.region [oo 6 (.mv (.c (.bool false)))]) (.ret)) (.skip))) (.region [mm 88 9, mm 89 1, mm 90 10, oo 91 (.iaddr 6 (tt 89) (tt 90)), oo 92 (.load true 6 (tt 91)), oo 93 (.callf F.term_Count [(tt 92)]), oo 94 (.bin .add (tt 88) (tt 93)), mm 9 94]))) (.region [mm 75 10, oo 76 (.bin .add (tt 75) (kk 1)), mm 10 76])))) (fun f t => W CA (.seq (.region [oo 95 (.load true 6 (tt 7)), oo 11 (.alloc [(.int .i64 0), (.bool false), .nils, (.str []), (.int .i64 0), .nils]), on (.store 6 (tt 11) (tt 95))]) (.seq (.seq (.region [mm 96 2, oo 97 (.bin .rem (tt 96) (.c (.int .u8 4)))]) (.block 2 (.seq (.region [oo 105 (.bin .eql (tt 97) (.c (.int .u8 0))), mm 104 105]) (.cond (tt 104) (.region [oo 106 (.faddr 4 (tt 7)), oo 107 (.load false 1 (tt 106)), oo 108 (.bin .sub (kk 3) (tt 107)), oo 109 (.faddr 4 (tt 11)), on (.store 1 (tt 109) (tt 108))]) (.seq (.region [oo 111 (.bin .eql (tt 97) (.c (.int .u8 1))), mm 110 111]) (.cond (tt 110) (.region [oo 112 (.faddr 3 (tt 11)), on (.store 1 (tt 112) (.c (.str [120])))]) (.seq (.region [oo 114 (.bin .eql (tt 97) (.c (.int .u8 2))), mm 113 114]) (.cond (tt 113) (.region [oo 115 (.callf F.ref1_Of [(kk 1)]), oo 116 (.faddr 1 (tt 11)), on (.store 2 (tt 116) (tt 115))]) (.region [mm 98 1, oo 99 (.app 6 88 (.c .nils) (tt 98)), oo 100 (.build [(.int .i64 0), (.bool false), .nils, (.str []), (.int .i64 0), .nils] []), oo 101 (.blit 1 [(.int .i64 0), (.bool false), .nils, (.str []), (.int .i64 0), .nils] [⟨0, 6, (tt 100)⟩]), oo 102 (.app 6 88 (tt 99) (tt 101)), oo 103 (.faddr 5 (tt 11)), on (.store 1 (tt 103) (tt 102))]))))))))) (.seq (.region [oo 117 (.load true 6 (tt 7)), oo 118 (.callf F.term_Count [(tt 117)]), mm 119 9, oo 120 (.bin .eql (tt 118) (tt 119)), mm 121 120, og 122 (.load true 6 (tt 11)) 121 true, og 123 (.callf F.term_Is [(tt 122)]) 121 true, og 124 (.not (tt 123)) 121 true, oo 125 (.pick (tt 121) (tt 124) (.c (.bool false))), mm 126 125, og 127 (.load true 6 (tt 7)) 126 true, og 128 (.load true 6 (tt 11)) 126 true, og 129 (.callf F.term_Same [(tt 127), (tt 128)]) 126 true, og 130 (.not (tt 129)) 126 true, oo 131 (.pick (tt 126) (tt 130) (.c (.bool false))), mm 6 131]) (.ret)))) (fun f t => Rs (fun r0 s0 => Settled s r0 s0 (.bool true) s) [.tmp (vv 6)] f t) (fun _ _ _ => False) (fun f t => Rs (fun r0 s0 => Settled s r0 s0 (.bool true) s) [.tmp (vv 6)] f t) f t) (fun j f t => if j = 0 then W CA (.seq (.region [oo 95 (.load true 6 (tt 7)), oo 11 (.alloc [(.int .i64 0), (.bool false), .nils, (.str []), (.int .i64 0), .nils]), on (.store 6 (tt 11) (tt 95))]) (.seq (.seq (.region [mm 96 2, oo 97 (.bin .rem (tt 96) (.c (.int .u8 4)))]) (.block 2 (.seq (.region [oo 105 (.bin .eql (tt 97) (.c (.int .u8 0))), mm 104 105]) (.cond (tt 104) (.region [oo 106 (.faddr 4 (tt 7)), oo 107 (.load false 1 (tt 106)), oo 108 (.bin .sub (kk 3) (tt 107)), oo 109 (.faddr 4 (tt 11)), on (.store 1 (tt 109) (tt 108))]) (.seq (.region [oo 111 (.bin .eql (tt 97) (.c (.int .u8 1))), mm 110 111]) (.cond (tt 110) (.region [oo 112 (.faddr 3 (tt 11)), on (.store 1 (tt 112) (.c (.str [120])))]) (.seq (.region [oo 114 (.bin .eql (tt 97) (.c (.int .u8 2))), mm 113 114]) (.cond (tt 113) (.region [oo 115 (.callf F.ref1_Of [(kk 1)]), oo 116 (.faddr 1 (tt 11)), on (.store 2 (tt 116) (tt 115))]) (.region [mm 98 1, oo 99 (.app 6 88 (.c .nils) (tt 98)), oo 100 (.build [(.int .i64 0), (.bool false), .nils, (.str []), (.int .i64 0), .nils] []), oo 101 (.blit 1 [(.int .i64 0), (.bool false), .nils, (.str []), (.int .i64 0), .nils] [⟨0, 6, (tt 100)⟩]), oo 102 (.app 6 88 (tt 99) (tt 101)), oo 103 (.faddr 5 (tt 11)), on (.store 1 (tt 103) (tt 102))]))))))))) (.seq (.region [oo 117 (.load true 6 (tt 7)), oo 118 (.callf F.term_Count [(tt 117)]), mm 119 9, oo 120 (.bin .eql (tt 118) (tt 119)), mm 121 120, og 122 (.load true 6 (tt 11)) 121 true, og 123 (.callf F.term_Is [(tt 122)]) 121 true, og 124 (.not (tt 123)) 121 true, oo 125 (.pick (tt 121) (tt 124) (.c (.bool false))), mm 126 125, og 127 (.load true 6 (tt 7)) 126 true, og 128 (.load true 6 (tt 11)) 126 true, og 129 (.callf F.term_Same [(tt 127), (tt 128)]) 126 true, og 130 (.not (tt 129)) 126 true, oo 131 (.pick (tt 126) (tt 130) (.c (.bool false))), mm 6 131]) (.ret)))) (fun f t => Rs (fun r0 s0 => Settled s r0 s0 (.bool true) s) [.tmp (vv 6)] f t) (fun _ _ _ => False) (fun f t => Rs (fun r0 s0 => Settled s r0 s0 (.bool true) s) [.tmp (vv 6)] f t) f t else False) (fun f t => Rs (fun r0 s0 => Settled s r0 s0 (.bool true) s) [.tmp (vv 6)] f t) f (Sx s A) := by
  have ot := rz1 (hK s (Ext.refl s))
  have htt : (tMade op l).tame := ⟨by simp, by simp, htm⟩
  have htz : (tMade op l).size = 1 + T.sizes l := T.size_kids _
  have lA : A.length = 1 := by rw [hA]; rfl
  have xA := ext_Sx (s := s) (l := A) hr (by omega)
  have rA := hr.Sx (l := A) (by omega) (by omega)
  have nA := Sx_n (s := s) (l := A) hr (by omega)
  have qA : (Sx s A).obj b1 = .cells [.int .i64 op, a, b, .str [], .int .i64 k, kv] := by rw [hb1]; exact Sx_obj? (s := s) (l := A) hr (by omega) (i := 0) (by rw [hA]; rfl)
  have v0 : b1.val = s.n.val := by rw [hb1]; exact nm_val hr (k := 0) (by omega)
  have hcm : min (401 : Int) ((tMade op l).size : Int) = ((1 + T.sizes l : Nat) : Int) := by rw [htz]; omega
  have hm := hv.most
  clear hA hb1
  refine W_inv (fun q f τ => ∃ (i : Nat) (σ : St), Sx σ [] = τ ∧ Room σ ∧ Ext s σ ∧ s.n.val + 1 ≤ σ.n.val ∧ σ.n.val ≤ s.n.val + 1 + 11 * i ∧ q = l.length - i ∧ i ≤ l.length ∧ σ.obj b1 = .cells [.int .i64 op, a, b, .str [], .int .i64 k, kv] ∧
    (vv 1).get f = v ∧ (vv 2).get f = .int .u8 (w : Int) ∧ (vv 7).get f = .ptr b1 0 ∧ (vv 9).get f = .int .i64 ((1 + T.sizes (l.take i) : Nat) : Int) ∧ (vv 10).get f = .int .i64 (i : Int)) ?_ ⟨0, _, Sx_nil _, rA, xA, by omega, by omega, rfl, by omega, qA, g1, g2, g7, ?_, ?_⟩
  · clear g1 g2 g7 g9 g10 f
    rintro q f τ ⟨i, σ, rfl, hr2, hx, hn1, hn2, rfl, hi, o1', g1, g2, g7, g9, g10⟩
    have w1 : b1.val < σ.n.val := by omega
    by_cases c1 : i < l.length
    · obtain ⟨L1, hL1⟩ : ∃ L : List AO, L = [.dead, .dead, .dead, .dead, .dead, .dead, .dead, .dead, .dead, .dead, .dead] := ⟨_, rfl⟩
      have l1 : L1.length = 11 := by rw [hL1]; rfl
      have x1 := ext_Sx (s := σ) (l := L1) hr2 (by omega)
      have r1 := hr2.Sx (l := L1) (by omega) (by omega)
      have n1 := Sx_n (s := σ) (l := L1) hr2 (by omega)
      have c1' : i < (tMade op l).kids.length := c1
      have hkv := r6_kids (hK _ (hx.trans x1))
      obtain ⟨ds, hat1⟩ := hkv.at c1'
      obtain ⟨es, hat2⟩ := (hv.x (hx.trans x1)).at c1
      have sz := T.size_at c1
      have szt := T.sizes_take l i c1
      have szl := T.sizes_le l (i + 1)
      have tm := T.tame_at htm c1
      have fs := sameTm_ok _ l[i] l[i] (Nat.le_refl _) tm (Sx σ L1) ds es r1 (by omega) hat1.t6 hat2.t6
      have fc := Count_ok (Sx σ L1) es l[i] r1 (by omega) hat2.t6
      rw [sameT_self _ _ (Nat.le_refl _)] at fs
      have hmin : min (401 : Int) (l[i].size : Int) = (l[i].size : Int) := by omega
      rw [hmin] at fc
      have q1 := hat1.ld _ (Ext.refl _)
      have q2 := hat2.ld _ (Ext.refl _)
      have i1 := fun σ => hkv.ia c1' 6 .i64 σ
      have i2 := fun σ => (hv.x (hx.trans x1)).ia c1 6 .i64 σ
      rw [hL1] at fs fc q1 q2 x1 r1 n1
      simp only [go_sem, ↓reduceIte, Nat.reduceMod, Nat.reduceEqDiff, Nat.reduceAdd, Nat.reduceMul, Nat.reduceSub, Nat.reduceLeDiff, Nat.reduceLT, Int.reduceEq, Int.reduceLT, Int.reduceLE, Int.reduceAdd, Int.reduceSub, Int.reduceNeg, reduceCtorEq, Nat.reduceShiftRight, Nat.reduceAnd, Nat.reduceBNe, g1, g2, g7, g9, g10, Int.ofNat_lt, c1, hv.vlen]
      refine W_drawn hr2 _ (by simp) ?_
      simp only [go_sem, ↓reduceIte, Nat.reduceMod, Nat.reduceEqDiff, Nat.reduceAdd, Nat.reduceMul, Nat.reduceSub, Nat.reduceLeDiff, Nat.reduceLT, Int.reduceEq, Int.reduceLT, Int.reduceLE, Int.reduceAdd, Int.reduceSub, Int.reduceNeg, reduceCtorEq, Nat.reduceShiftRight, Nat.reduceAnd, Nat.reduceBNe, g1, g2, g7, g9, g10, hr2, w1, o1', i1, i2, q1, q2, fs, fc, Bool.not_true]
      refine ⟨l.length - (i + 1), by omega, i + 1, _, Sx_nil _, r1, hx.trans x1, by omega, by rw [n1]; simp; omega, rfl, by omega, by rw [Sx_old hr2 (by simp) w1]; exact o1', ?_, ?_⟩
      · rw [wrap_i64 (by omega) (by omega)]; congr 1; omega
      · rw [wrap_i64 (by omega) (by omega)]; congr 1
    · have e : i = l.length := by omega
      subst e
      rw [List.take_length] at g9
      have hw4 : w % 4 = 0 ∨ w % 4 = 1 ∨ w % 4 = 2 ∨ w % 4 = 3 := by omega
      rcases hw4 with hz | hz | hz | hz
      · have hz4 : ((w % 4 : Nat) : Int) = 0 := by omega
        have hws : IntKind.wrap .i64 (3 - k) = 3 - k := wrap_i64 (by omega) (by omega)
        obtain ⟨L2, hL2⟩ : ∃ L : List AO, L = [.cells [.int .i64 op, a, b, .str [], .int .i64 (3 - k), kv]] := ⟨_, rfl⟩
        have l2 : L2.length = 1 := by rw [hL2]; rfl
        have x2 := ext_Sx (s := σ) (l := L2) hr2 (by omega)
        have r2 := hr2.Sx (l := L2) (by omega) (by omega)
        have n2 := Sx_n (s := σ) (l := L2) hr2 (by omega)
        have hb := hK _ (hx.trans x2)
        have hbk : Ts (Sx σ L2) kv l := r6_kids hb
        have hbz : RZ (Sx σ L2) a b ⟨false, []⟩ := r6_z hb
        have ru : RT6 (Sx σ L2) [.int .i64 op, a, b, .str [], .int .i64 (3 - k), kv] (.mk op ⟨false, []⟩ [] (3 - resSort op l) l) := ⟨_, _, _, by rw [hkk]; rfl, hbz, hbk⟩
        have fc := Count_ok (Sx σ L2) _ _ r2 (by omega) hb
        have fi := Is_tm (.mk op ⟨false, []⟩ [] (3 - resSort op l) l) ⟨by simp, by simp, htm⟩ (Sx σ L2) _ r2 (by omega) ru
        have fs := sameTm_ok _ (tMade op l) (.mk op ⟨false, []⟩ [] (3 - resSort op l) l) (Nat.le_refl _) htt (Sx σ L2) _ _ r2 (by rw [htz]; omega) hb ru
        rw [(spoil0 d3).1] at fi
        rw [(spoil0 d3).2] at fs
        rw [hcm] at fc
        rw [hL2] at fc fi fs x2
        simp only [go_sem, ↓reduceIte, Nat.reduceMod, Nat.reduceEqDiff, Nat.reduceAdd, Nat.reduceMul, Nat.reduceSub, Nat.reduceLeDiff, Nat.reduceLT, Int.reduceEq, Int.reduceLT, Int.reduceLE, Int.reduceAdd, Int.reduceSub, Int.reduceNeg, reduceCtorEq, Nat.reduceShiftRight, Nat.reduceAnd, Nat.reduceBNe, hr2, w1, o1', g1, g2, g7, g9, g10, Int.ofNat_lt, c1, hv.vlen, rem_u8, hz4, ot.1, ot.2.1, ot.2.2, hws, fc, fi, fs, Bool.not_false]
        exact settled_bool (hx.trans x2) rfl
      · have hz4 : ((w % 4 : Nat) : Int) = 1 := by omega
        obtain ⟨L2, hL2⟩ : ∃ L : List AO, L = [.cells [.int .i64 op, a, b, .str [120], .int .i64 k, kv]] := ⟨_, rfl⟩
        have l2 : L2.length = 1 := by rw [hL2]; rfl
        have x2 := ext_Sx (s := σ) (l := L2) hr2 (by omega)
        have r2 := hr2.Sx (l := L2) (by omega) (by omega)
        have n2 := Sx_n (s := σ) (l := L2) hr2 (by omega)
        have hb := hK _ (hx.trans x2)
        have hbk : Ts (Sx σ L2) kv l := r6_kids hb
        have hbz : RZ (Sx σ L2) a b ⟨false, []⟩ := r6_z hb
        have ru : RT6 (Sx σ L2) [.int .i64 op, a, b, .str [120], .int .i64 k, kv] (.mk op ⟨false, []⟩ [120] (resSort op l) l) := ⟨_, _, _, by rw [hkk]; rfl, hbz, hbk⟩
        have fc := Count_ok (Sx σ L2) _ _ r2 (by omega) hb
        have fi := Is_tm (.mk op ⟨false, []⟩ [120] (resSort op l) l) ⟨by simp, by simp, htm⟩ (Sx σ L2) _ r2 (by omega) ru
        have fs := sameTm_ok _ (tMade op l) (.mk op ⟨false, []⟩ [120] (resSort op l) l) (Nat.le_refl _) htt (Sx σ L2) _ _ r2 (by rw [htz]; omega) hb ru
        rw [(spoil1 d3).1] at fi
        rw [(spoil1 d3).2] at fs
        rw [hcm] at fc
        rw [hL2] at fc fi fs x2
        simp only [go_sem, ↓reduceIte, Nat.reduceMod, Nat.reduceEqDiff, Nat.reduceAdd, Nat.reduceMul, Nat.reduceSub, Nat.reduceLeDiff, Nat.reduceLT, Int.reduceEq, Int.reduceLT, Int.reduceLE, Int.reduceAdd, Int.reduceSub, Int.reduceNeg, reduceCtorEq, Nat.reduceShiftRight, Nat.reduceAnd, Nat.reduceBNe, hr2, w1, o1', g1, g2, g7, g9, g10, Int.ofNat_lt, c1, hv.vlen, rem_u8, hz4, ot.1, ot.2.1, ot.2.2, fc, fi, fs, Bool.not_false]
        exact settled_bool (hx.trans x2) rfl
      · have hz4 : ((w % 4 : Nat) : Int) = 2 := by omega
        obtain ⟨r1, fo, ro⟩ := Of_ok (Sx σ [.cells [.int .i64 op, a, b, .str [], .int .i64 k, kv]]) 1 (hr2.Sx (by simp; omega) (by simp)) (by rw [Sx_n hr2 (by simp)]; simp; omega) (by omega)
        have oo1 := (ro σ).one
        obtain ⟨L2, hL2⟩ : ∃ L : List AO, L = [.cells [.int .i64 op, .bool (zOf 1).neg, r1, .str [], .int .i64 k, kv]] := ⟨_, rfl⟩
        have l2 : L2.length = 1 := by rw [hL2]; rfl
        have x2 := ext_Sx (s := σ) (l := L2) hr2 (by omega)
        have r2 := hr2.Sx (l := L2) (by omega) (by omega)
        have n2 := Sx_n (s := σ) (l := L2) hr2 (by omega)
        have hb := hK _ (hx.trans x2)
        have hbk : Ts (Sx σ L2) kv l := r6_kids hb
        have hbz : RZ (Sx σ L2) a b ⟨false, []⟩ := r6_z hb
        have ru : RT6 (Sx σ L2) [.int .i64 op, .bool (zOf 1).neg, r1, .str [], .int .i64 k, kv] (.mk op (zOf 1) [] (resSort op l) l) := ⟨_, _, _, by rw [hkk]; rfl, ⟨rfl, ro _⟩, hbk⟩
        have fc := Count_ok (Sx σ L2) _ _ r2 (by omega) hb
        have fi := Is_tm (.mk op (zOf 1) [] (resSort op l) l) ⟨by show (lims 1).length ≤ _; rw [lims_one (by omega) (by omega)]; simp, by simp, htm⟩ (Sx σ L2) _ r2 (by omega) ru
        have fs := sameTm_ok _ (tMade op l) (.mk op (zOf 1) [] (resSort op l) l) (Nat.le_refl _) htt (Sx σ L2) _ _ r2 (by rw [htz]; omega) hb ru
        rw [(spoil2 d3).1] at fi
        rw [(spoil2 d3).2] at fs
        rw [hcm] at fc
        rw [hL2] at fc fi fs x2
        simp only [go_sem, ↓reduceIte, Nat.reduceMod, Nat.reduceEqDiff, Nat.reduceAdd, Nat.reduceMul, Nat.reduceSub, Nat.reduceLeDiff, Nat.reduceLT, Int.reduceEq, Int.reduceLT, Int.reduceLE, Int.reduceAdd, Int.reduceSub, Int.reduceNeg, reduceCtorEq, Nat.reduceShiftRight, Nat.reduceAnd, Nat.reduceBNe, hr2, w1, o1', g1, g2, g7, g9, g10, Int.ofNat_lt, c1, hv.vlen, rem_u8, hz4, ot.1, ot.2.1, ot.2.2, fo, splice1_2, oo1, fc, fi, fs, Bool.not_false]
        exact settled_bool (hx.trans x2) rfl
      · have hz4 : ((w % 4 : Nat) : Int) = 3 := by omega
        have hrl := ts_row_len hv
        have hxq := ext_Sx (s := σ) (l := [.cells [.int .i64 op, a, b, .str [], .int .i64 k, kv]]) hr2 (by simp)
        have e1 : rowOf (Sx σ [.cells [.int .i64 op, a, b, .str [], .int .i64 k, kv]]) v = rowOf s v := rowOf_ext (hx.trans hxq) hv.sl
        have ap1 := vapp_nils (s := σ) (L := [.cells [.int .i64 op, a, b, .str [], .int .i64 k, kv]]) (sz := 6) (bytes := 88) (y := v) hr2 (by simp) (hv.sl.ext (hx.trans hxq)) (by rw [e1, hv.len]; omega) (by rw [hv.len]; unfold limit; omega) (by rw [hv.len]; omega)
        rw [e1, hv.len] at ap1
        have lt2 := isl_lit (s := σ) (L := [.cells [.int .i64 op, a, b, .str [], .int .i64 k, kv], .cells ((rowOf s v).take (l.length * 6)), .cells zeroC]) (i := 2) (n := 1) hr2 (by simp) rfl (by unfold limit; omega) 1 0
        have ap2 := vapp_grow (s := σ) (L := [.cells [.int .i64 op, a, b, .str [], .int .i64 k, kv], .cells ((rowOf s v).take (l.length * 6)), .cells zeroC]) (i := 1) (len := l.length) (sz := 6) (bytes := 88) (cs := (rowOf s v).take (l.length * 6)) hr2 (by simp) rfl (by rw [List.length_take]; omega) (by omega) lt2.1 (by rw [lt2.2.1, lt2.2.2]; simp) (by rw [lt2.2.2]; unfold limit; omega) (by rw [lt2.2.2]; unfold limit; omega) (by rw [lt2.2.2]; omega)
        rw [lt2.2.1, lt2.2.2] at ap2
        have ap2' := ap2
        simp only [List.set_cons_succ, List.set_cons_zero, List.cons_append, List.nil_append, List.length_cons, List.length_nil, Nat.reduceAdd, Nat.one_mul, List.take_succ_cons, List.take_zero] at ap2'
        simp only [List.cons_append, List.nil_append, List.length_cons, List.length_nil, Nat.reduceAdd] at ap1
        obtain ⟨L2, hL2⟩ : ∃ L : List AO, L = [.cells [.int .i64 op, a, b, .str [], .int .i64 k, .sl (nm σ 3) 0 (l.length + 1) (l.length + 1) 6], .dead, .cells zeroC, .cells ((rowOf s v).take (l.length * 6) ++ zeroC)] := ⟨_, rfl⟩
        have l2 : L2.length = 4 := by rw [hL2]; rfl
        have x2 := ext_Sx (s := σ) (l := L2) hr2 (by omega)
        have r2 := hr2.Sx (l := L2) (by omega) (by omega)
        have n2 := Sx_n (s := σ) (l := L2) hr2 (by omega)
        have hb := hK _ (hx.trans x2)
        have hbk : Ts (Sx σ L2) kv l := r6_kids hb
        have hbz : RZ (Sx σ L2) a b ⟨false, []⟩ := r6_z hb
        have e2 : rowOf (Sx σ L2) v = rowOf s v := rowOf_ext (hx.trans x2) hv.sl
        have rk := ts_snoc (s := σ) (s' := σ) (L := L2) (i := 3) (zs := zeroC) (u := zeroT) hr2 (by omega) (hv.x (hx.trans x2)) (by unfold limit; omega) (by rw [e2, hL2]; rfl) (zero_rep _)
        have ru : RT6 (Sx σ L2) [.int .i64 op, a, b, .str [], .int .i64 k, .sl (nm σ 3) 0 (l.length + 1) (l.length + 1) 6] (.mk op ⟨false, []⟩ [] (resSort op l) (l ++ [zeroT])) := ⟨_, _, _, by rw [hkk]; rfl, hbz, rk⟩
        have fc := Count_ok (Sx σ L2) _ _ r2 (by omega) hb
        have fi := Is_tm (.mk op ⟨false, []⟩ [] (resSort op l) (l ++ [zeroT])) ⟨by simp, by simp, T.tames_snoc htm zeroT_tame1⟩ (Sx σ L2) _ r2 (by omega) ru
        have fs := sameTm_ok _ (tMade op l) (.mk op ⟨false, []⟩ [] (resSort op l) (l ++ [zeroT])) (Nat.le_refl _) htt (Sx σ L2) _ _ r2 (by rw [htz]; omega) hb ru
        rw [(spoil3 d3).1] at fi
        rw [(spoil3 d3).2] at fs
        rw [hcm] at fc
        rw [hL2] at fc fi fs x2
        simp only [go_sem, ↓reduceIte, Nat.reduceMod, Nat.reduceEqDiff, Nat.reduceAdd, Nat.reduceMul, Nat.reduceSub, Nat.reduceLeDiff, Nat.reduceLT, Int.reduceEq, Int.reduceLT, Int.reduceLE, Int.reduceAdd, Int.reduceSub, Int.reduceNeg, reduceCtorEq, Nat.reduceShiftRight, Nat.reduceAnd, Nat.reduceBNe, hr2, w1, o1', g1, g2, g7, g9, g10, Int.ofNat_lt, c1, hv.vlen, rem_u8, hz4, ot.1, ot.2.1, ot.2.2, ap1, ap2', fc, fi, fs, Bool.not_false]
        exact settled_bool (hx.trans x2) rfl
  · rw [g9]; simp [T.sizes]
  · rw [g10]; rfl
theorem TermSound_ok (s : St) (op : Int) (v : AV) (l : List T) (w : Nat) (hr : Room s) (hn : s.n.val ≤ 1000) (hv : Ts s v l) : CA F.law10_TermSound [.int .i64 op, v, .int .u8 (w : Int)] s = .ok (.bool true) s := by
  have fk := fun t => known_ok (Sx s t)
  have ft := fewTerms_ok (Sx s []) v l hr (by show s.n.val ≤ _; omega) hv
  cases d2 : fewTs l
  · refine fn_of code_law10_TermSound (by simp) ?_
    simp only [go_sem, ↓reduceIte, Nat.reduceMod, Nat.reduceEqDiff, Nat.reduceAdd, Nat.reduceMul, Nat.reduceSub, Nat.reduceLeDiff, Nat.reduceLT, Int.reduceEq, Int.reduceLT, Int.reduceLE, Int.reduceAdd, Int.reduceSub, Int.reduceNeg, reduceCtorEq, Nat.reduceShiftRight, Nat.reduceAnd, Nat.reduceBNe, hr, fk, Bool.not_true, ft, d2, Bool.not_false]
    exact settled_bool (ext_Sx (l := []) hr (by simp)) rfl
  obtain ⟨htm, hll, hsz⟩ := fewTs_of d2
  obtain ⟨cs, fm, rm2⟩ := Make_ok2 (Sx s []) v l op htm hr (by show s.n.val ≤ _; omega) (by omega) hv
  have hK : ∀ σ, Ext s σ → RT6 σ cs (makeT op l) := fun σ hx => rm2 σ (hv.x hx) (rowOf_ext hx hv.sl)
  clear rm2
  by_cases d3 : makeE op l = 0
  rotate_left
  · have e : makeT op l = zeroT := by unfold makeT; rw [if_neg d3]
    rw [e] at hK
    have h6 := hK s (Ext.refl s)
    obtain ⟨a, b, kv, rfl, hz, hk⟩ := h6.ex
    have o1 := rz1 h6
    refine fn_of code_law10_TermSound (by simp) ?_
    simp only [go_sem, ↓reduceIte, Nat.reduceMod, Nat.reduceEqDiff, Nat.reduceAdd, Nat.reduceMul, Nat.reduceSub, Nat.reduceLeDiff, Nat.reduceLT, Int.reduceEq, Int.reduceLT, Int.reduceLE, Int.reduceAdd, Int.reduceSub, Int.reduceNeg, reduceCtorEq, Nat.reduceShiftRight, Nat.reduceAnd, Nat.reduceBNe, hr, fk, Bool.not_true, ft, d2, fm, d3, ne_eq, not_false_eq_true, o1.1, o1.2.1, o1.2.2, zeroT, T.op, T.name, T.sort, T.kids, hk.vlen, List.length_nil]
    exact settled_bool (ext_Sx hr (by simp)) rfl
  obtain ⟨hop, hko, hlp, hs4, hk12⟩ := made_facts d3
  rw [makeT_made d3] at hK
  have h6 := hK s (Ext.refl s)
  obtain ⟨a, b, kv, rfl, hz, hk⟩ := h6.ex
  have o1 := rz1 h6
  obtain ⟨k, hkk⟩ : ∃ k, k = resSort op l := ⟨_, rfl⟩
  simp only [tMade, T.op, T.name, T.sort] at fm
  have hK : ∀ σ, Ext s σ → RT6 σ [.int .i64 op, a, b, .str [], .int .i64 k, kv] (tMade op l) := by rw [hkk]; exact hK
  rw [← hkk] at fm hk12
  have htt : (tMade op l).tame := ⟨by simp, by simp, htm⟩
  have htz : (tMade op l).size = 1 + T.sizes l := T.size_kids _
  obtain ⟨A, hA⟩ : ∃ L : List AO, L = [.cells [.int .i64 op, a, b, .str [], .int .i64 k, kv]] := ⟨_, rfl⟩
  have lA : A.length = 1 := by rw [hA]; rfl
  have xA := ext_Sx (s := s) (l := A) hr (by omega)
  have rA := hr.Sx (l := A) (by omega) (by omega)
  have nA := Sx_n (s := s) (l := A) hr (by omega)
  have qA := Sx_obj? (s := s) (l := A) hr (by omega) (i := 0) (by rw [hA]; rfl)
  have v0 := nm_val hr (k := 0) (by omega)
  have fi := Is_tm (tMade op l) htt (Sx s A) _ rA (by omega) (hK _ xA)
  have hti : isT (tMade op l) = true := isT_make d3
  have hkl := (r6_kids (hK s (Ext.refl s))).vlen
  have hkl' : (tMade op l).kids.length = l.length := rfl
  rw [hkl'] at hkl
  rw [hti, hA] at fi
  have hk1 : (k = 1 ∧ ¬ k = 2) ∨ (¬ k = 1 ∧ k = 2) := by omega
  refine fn_of code_law10_TermSound (by simp) ?_
  rcases hk1 with ⟨k1, k2⟩ | ⟨k1, k2⟩
  · simp only [go_sem, ↓reduceIte, Nat.reduceMod, Nat.reduceEqDiff, Nat.reduceAdd, Nat.reduceMul, Nat.reduceSub, Nat.reduceLeDiff, Nat.reduceLT, Int.reduceEq, Int.reduceLT, Int.reduceLE, Int.reduceAdd, Int.reduceSub, Int.reduceNeg, reduceCtorEq, Nat.reduceShiftRight, Nat.reduceAnd, Nat.reduceBNe, hr, fk, Bool.not_true, ft, d2, fm, d3, ne_eq, not_true_eq_false, not_false_eq_true, o1.1, o1.2.1, o1.2.2, hkl, hv.vlen, fi, eq_true k1, eq_false k2]
    rw [← hA]
    exact loop_ok s op k v a b kv l w A _ hr hn hv hsz htm hll hlp hs4 hkk hk12 d3 hK hA rfl _ (by simp only [go_sem, ↓reduceIte, Nat.reduceMod, Nat.reduceEqDiff, Nat.reduceAdd, Nat.reduceMul, Nat.reduceSub, Nat.reduceLeDiff, Nat.reduceLT, Int.reduceEq, Int.reduceLT, Int.reduceLE, Int.reduceAdd, Int.reduceSub, Int.reduceNeg, reduceCtorEq, Nat.reduceShiftRight, Nat.reduceAnd, Nat.reduceBNe]) (by simp only [go_sem, ↓reduceIte, Nat.reduceMod, Nat.reduceEqDiff, Nat.reduceAdd, Nat.reduceMul, Nat.reduceSub, Nat.reduceLeDiff, Nat.reduceLT, Int.reduceEq, Int.reduceLT, Int.reduceLE, Int.reduceAdd, Int.reduceSub, Int.reduceNeg, reduceCtorEq, Nat.reduceShiftRight, Nat.reduceAnd, Nat.reduceBNe]) (by simp only [go_sem, ↓reduceIte, Nat.reduceMod, Nat.reduceEqDiff, Nat.reduceAdd, Nat.reduceMul, Nat.reduceSub, Nat.reduceLeDiff, Nat.reduceLT, Int.reduceEq, Int.reduceLT, Int.reduceLE, Int.reduceAdd, Int.reduceSub, Int.reduceNeg, reduceCtorEq, Nat.reduceShiftRight, Nat.reduceAnd, Nat.reduceBNe]) (by simp only [go_sem, ↓reduceIte, Nat.reduceMod, Nat.reduceEqDiff, Nat.reduceAdd, Nat.reduceMul, Nat.reduceSub, Nat.reduceLeDiff, Nat.reduceLT, Int.reduceEq, Int.reduceLT, Int.reduceLE, Int.reduceAdd, Int.reduceSub, Int.reduceNeg, reduceCtorEq, Nat.reduceShiftRight, Nat.reduceAnd, Nat.reduceBNe]) (by simp only [go_sem, ↓reduceIte, Nat.reduceMod, Nat.reduceEqDiff, Nat.reduceAdd, Nat.reduceMul, Nat.reduceSub, Nat.reduceLeDiff, Nat.reduceLT, Int.reduceEq, Int.reduceLT, Int.reduceLE, Int.reduceAdd, Int.reduceSub, Int.reduceNeg, reduceCtorEq, Nat.reduceShiftRight, Nat.reduceAnd, Nat.reduceBNe])
  · simp only [go_sem, ↓reduceIte, Nat.reduceMod, Nat.reduceEqDiff, Nat.reduceAdd, Nat.reduceMul, Nat.reduceSub, Nat.reduceLeDiff, Nat.reduceLT, Int.reduceEq, Int.reduceLT, Int.reduceLE, Int.reduceAdd, Int.reduceSub, Int.reduceNeg, reduceCtorEq, Nat.reduceShiftRight, Nat.reduceAnd, Nat.reduceBNe, hr, fk, Bool.not_true, ft, d2, fm, d3, ne_eq, not_true_eq_false, not_false_eq_true, o1.1, o1.2.1, o1.2.2, hkl, hv.vlen, fi, eq_false k1, eq_true k2]
    rw [← hA]
    exact loop_ok s op k v a b kv l w A _ hr hn hv hsz htm hll hlp hs4 hkk hk12 d3 hK hA rfl _ (by simp only [go_sem, ↓reduceIte, Nat.reduceMod, Nat.reduceEqDiff, Nat.reduceAdd, Nat.reduceMul, Nat.reduceSub, Nat.reduceLeDiff, Nat.reduceLT, Int.reduceEq, Int.reduceLT, Int.reduceLE, Int.reduceAdd, Int.reduceSub, Int.reduceNeg, reduceCtorEq, Nat.reduceShiftRight, Nat.reduceAnd, Nat.reduceBNe]) (by simp only [go_sem, ↓reduceIte, Nat.reduceMod, Nat.reduceEqDiff, Nat.reduceAdd, Nat.reduceMul, Nat.reduceSub, Nat.reduceLeDiff, Nat.reduceLT, Int.reduceEq, Int.reduceLT, Int.reduceLE, Int.reduceAdd, Int.reduceSub, Int.reduceNeg, reduceCtorEq, Nat.reduceShiftRight, Nat.reduceAnd, Nat.reduceBNe]) (by simp only [go_sem, ↓reduceIte, Nat.reduceMod, Nat.reduceEqDiff, Nat.reduceAdd, Nat.reduceMul, Nat.reduceSub, Nat.reduceLeDiff, Nat.reduceLT, Int.reduceEq, Int.reduceLT, Int.reduceLE, Int.reduceAdd, Int.reduceSub, Int.reduceNeg, reduceCtorEq, Nat.reduceShiftRight, Nat.reduceAnd, Nat.reduceBNe]) (by simp only [go_sem, ↓reduceIte, Nat.reduceMod, Nat.reduceEqDiff, Nat.reduceAdd, Nat.reduceMul, Nat.reduceSub, Nat.reduceLeDiff, Nat.reduceLT, Int.reduceEq, Int.reduceLT, Int.reduceLE, Int.reduceAdd, Int.reduceSub, Int.reduceNeg, reduceCtorEq, Nat.reduceShiftRight, Nat.reduceAnd, Nat.reduceBNe]) (by simp only [go_sem, ↓reduceIte, Nat.reduceMod, Nat.reduceEqDiff, Nat.reduceAdd, Nat.reduceMul, Nat.reduceSub, Nat.reduceLeDiff, Nat.reduceLT, Int.reduceEq, Int.reduceLT, Int.reduceLE, Int.reduceAdd, Int.reduceSub, Int.reduceNeg, reduceCtorEq, Nat.reduceShiftRight, Nat.reduceAnd, Nat.reduceBNe])
end Go.Proofs.Ytjnejkganejdbaa
