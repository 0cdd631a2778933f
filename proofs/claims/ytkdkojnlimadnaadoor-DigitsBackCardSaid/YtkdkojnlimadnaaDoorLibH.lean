/- Functions of the program: more. No condition. -/
import Derived.Test.YtkdkojnlimadnaaDoorLibD
import GoSem.Op.String
import Derived.Test.YtkdkojnlimadnaaDoorLibP
namespace Go.Proofs.YtkdkojnlimadnaaDoor
open Go Go.Vm Go.Lib
set_option linter.unusedVariables false
theorem less_snoc (c d : UInt8) : ∀ (x y : List UInt8), x.length = y.length → Op.bytesLess (x ++ [c]) (y ++ [d]) = (Op.bytesLess x y || (decide (x = y) && decide (c < d)))
  | [], [], _ => by simp [Op.bytesLess]
  | [], _ :: _, h => by simp at h
  | _ :: _, [], h => by simp at h
  | a :: x, b :: y, h => by
    simp only [List.cons_append, Op.bytesLess]
    rw [less_snoc c d x y (by simpa using h)]
    by_cases h1 : a < b
    · simp [h1]
    · by_cases h2 : a = b
      · subst h2; simp [h1]
      · have h3 : (a == b) = false := by simpa using h2
        simp [h1, h3]
        exact fun h => absurd h h2
theorem dig_toNat {n : Nat} (h : n < 10) : (UInt8.ofNat (48 + n)).toNat = 48 + n := by
  rw [UInt8.toNat_ofNat']; omega
theorem padk_inj : ∀ (k a b : Nat), a < 10 ^ k → b < 10 ^ k → padk k a = padk k b → a = b
  | 0, a, b, ha, hb, _ => by simp at ha hb; omega
  | k + 1, a, b, ha, hb, h => by
    rw [Nat.pow_succ] at ha hb
    unfold padk at h
    have h1 := List.append_inj h (by rw [padk_len, padk_len])
    have h2 := padk_inj k (a / 10) (b / 10) (by omega) (by omega) h1.1
    have h3 := congrArg UInt8.toNat (List.cons.inj h1.2).1
    rw [dig_toNat (Nat.mod_lt _ (by omega)), dig_toNat (Nat.mod_lt _ (by omega))] at h3
    omega
theorem padk_less : ∀ (k a b : Nat), a < 10 ^ k → b < 10 ^ k → Op.bytesLess (padk k a) (padk k b) = decide (a < b)
  | 0, a, b, ha, hb => by simp at ha hb; subst ha; subst hb; rfl
  | k + 1, a, b, ha, hb => by
    rw [Nat.pow_succ] at ha hb
    unfold padk
    rw [less_snoc _ _ _ _ (by rw [padk_len, padk_len]), padk_less k (a / 10) (b / 10) (by omega) (by omega)]
    have hd : decide (UInt8.ofNat (48 + a % 10) < UInt8.ofNat (48 + b % 10)) = decide (a % 10 < b % 10) := by
      have e1 : (UInt8.ofNat (48 + a % 10) < UInt8.ofNat (48 + b % 10)) ↔ a % 10 < b % 10 := by
        rw [UInt8.lt_iff_toNat_lt, dig_toNat (Nat.mod_lt _ (by omega)), dig_toNat (Nat.mod_lt _ (by omega))]; omega
      simp only [e1]
    rw [hd]
    have he : decide (padk k (a / 10) = padk k (b / 10)) = decide (a / 10 = b / 10) := by
      congr 1
      exact propext ⟨fun h => padk_inj k _ _ (by omega) (by omega) h, fun h => by rw [h]⟩
    rw [he, Bool.eq_iff_iff]
    simp only [Bool.or_eq_true, Bool.and_eq_true, decide_eq_true_eq]
    omega
theorem dec_low {n : Nat} (h : 1 ≤ n) : 10 ^ ((decDigits n).length - 1) ≤ n := by
  apply Decidable.byContradiction
  intro hlt
  have hp := dec_len_pos n
  by_cases h1 : (decDigits n).length - 1 = 0
  · rw [h1] at hlt; simp at hlt; omega
  · have := dec_len_le (n := n) (k := (decDigits n).length - 1) (by omega) (by omega)
    omega
theorem dec_up (n : Nat) : n < 10 ^ (decDigits n).length := by rw [decDigits_length]; exact lt_pow_nDigits n
theorem dec_shorter {a b : Nat} (h : (decDigits a).length < (decDigits b).length) : a < b := by
  have h1 := dec_up a
  have hp := dec_len_pos a
  by_cases hb : b = 0
  · have h0 : (decDigits 0).length = 1 := by rw [dec_small (by omega)]; rfl
    subst hb; omega
  · have h2 := dec_low (n := b) (by omega)
    have h3 : 10 ^ (decDigits a).length ≤ 10 ^ ((decDigits b).length - 1) := Nat.pow_le_pow_right (by omega) (by omega)
    omega
theorem dec_pad_self (n : Nat) : decDigits n = padk (decDigits n).length n := by
  have h := pad_eq (decDigits n).length (dec_len_pos n) (dec_up n)
  rw [Nat.sub_self] at h
  exact h
theorem dec_less {a b : Nat} (h : (decDigits a).length = (decDigits b).length) : Op.bytesLess (decDigits a) (decDigits b) = decide (a < b) := by
  have ha := dec_pad_self a
  have hb := dec_pad_self b
  rw [← h] at hb
  rw [ha, hb]
  have hl := padk_len (decDigits a).length a
  rw [padk_less _ _ _ (dec_up a) (by rw [h]; exact dec_up b)]
theorem dec_inj {a b : Nat} (h : decDigits a = decDigits b) : a = b := by
  have ha := dec_pad_self a
  have hb := dec_pad_self b
  rw [← h] at hb
  exact padk_inj _ a b (dec_up a) (by rw [h]; exact dec_up b) (ha.symm.trans hb)
end Go.Proofs.YtkdkojnlimadnaaDoor
namespace Go.Proofs.YtkdkojnlimadnaaDoor
open Go Go.Vm Go.Lib
set_option linter.unusedVariables false
theorem dv_snoc (l : List UInt8) (c : UInt8) : dv (l ++ [c]) = 10 * dv l + (c.toNat - 48) := by rw [dv_app]; simp [dv, dvf]; omega
theorem dec_dv_aux : ∀ (n : Nat) (l : List UInt8), l.length ≤ n → l.all isDig = true → (∃ c r, l = c :: r ∧ 49 ≤ c.toNat) → decDigits (dv l) = l := by
  intro n
  induction n with
  | zero => intro l hl _ ⟨c, r, e, _⟩; rw [e] at hl; simp at hl
  | succ n ih =>
    intro l hl ha ⟨c, r, e, hc⟩
    have hne : l ≠ [] := by rw [e]; simp
    obtain ⟨m, d, hm⟩ : ∃ m d, l = m ++ [d] := ⟨l.dropLast, l.getLast hne, (List.dropLast_concat_getLast hne).symm⟩
    have had : isDig d = true := by rw [hm, List.all_append] at ha; simp at ha; exact ha.2
    have ham : m.all isDig = true := by rw [hm, List.all_append] at ha; simp only [Bool.and_eq_true] at ha; exact ha.1
    unfold isDig at had
    simp only [Bool.and_eq_true, decide_eq_true_eq] at had
    have hd : UInt8.ofNat (48 + (d.toNat - 48)) = d := by
      rw [show 48 + (d.toNat - 48) = d.toNat by omega]; exact UInt8.ofNat_toNat
    cases m with
    | nil =>
      rw [hm]
      have : dv ([] ++ [d]) = d.toNat - 48 := by rw [dv_snoc]; simp [dv, dvf]
      rw [this, dec_small (by omega), hd]; rfl
    | cons x m =>
      have hx : x = c := by rw [e] at hm; simpa using (List.cons.inj hm).1.symm
      subst hx
      have hp : 0 < dv (x :: m) := dv_pos hc
      rw [hm, dv_snoc, dec_big (by omega), show (10 * dv (x :: m) + (d.toNat - 48)) / 10 = dv (x :: m) by omega, show (10 * dv (x :: m) + (d.toNat - 48)) % 10 = d.toNat - 48 by omega, hd]
      rw [ih (x :: m) (by rw [hm, List.length_append] at hl; simp at hl ⊢; omega) ham ⟨x, m, rfl, hc⟩]
theorem dec_dv {l : List UInt8} (ha : l.all isDig = true) (h : ∃ c r, l = c :: r ∧ 49 ≤ c.toNat) : decDigits (dv l) = l := dec_dv_aux _ l (Nat.le_refl _) ha h
theorem num_of {l : List UInt8} (ha : l.all isDig = true) (h : ∃ c r, l = c :: r ∧ 49 ≤ c.toNat) : isNum l = true ∧ l ≠ [48] ∧ hasPrefix l [40, 45, 32] = false ∧ isNum (48 :: l) = false := by
  obtain ⟨c, r, rfl, hc⟩ := h
  have h48 : c ≠ 48 := by intro e; rw [e] at hc; exact absurd hc (by decide)
  have h40 : c ≠ 40 := by intro e; rw [e] at hc; exact absurd hc (by decide)
  refine ⟨?_, ?_, ?_, ?_⟩
  · unfold isNum; rw [ha]; simp [h48]
  · intro e; exact h48 (List.cons.inj e).1
  · unfold hasPrefix
    simp [List.isPrefixOf, Ne.symm h40]
  · unfold isNum; simp
/-- A text within the sign's parentheses. -/
def inSign (l : List UInt8) : List UInt8 := [40, 45, 32] ++ l ++ [41]
theorem parse_sign (l : List UInt8) : parseZ (inSign l) = parseR true l := by
  unfold parseZ inSign
  have h1 : hasPrefix ([40, 45, 32] ++ l ++ [41]) [40, 45, 32] = true := by simp [hasPrefix, List.isPrefixOf]
  have h2 : ([40, 45, 32] ++ l ++ [41] : List UInt8).drop 3 = l ++ [41] := rfl
  have h3 : hasSuffix (l ++ [41]) [41] = true := by unfold hasSuffix; rw [List.isSuffixOf_iff_suffix]; exact ⟨l, rfl⟩
  rw [if_pos h1, h2, if_pos h3]
  congr 1
  rw [List.length_append]
  simp
theorem parse_plain {l : List UInt8} (ha : l.all isDig = true) (h : ∃ c r, l = c :: r ∧ 49 ≤ c.toNat) : parseZ l = parseR false l := by
  unfold parseZ
  rw [(num_of ha h).2.2.1]; rfl
theorem parse_num {l : List UInt8} (ha : l.all isDig = true) (h : ∃ c r, l = c :: r ∧ 49 ≤ c.toNat) (b : Bool) : parseR b l = if 360 < l.length then (⟨false, []⟩, 11) else (⟨b, lims (dv l)⟩, 0) := by
  obtain ⟨h1, h2, _, _⟩ := num_of ha h
  unfold parseR
  rw [if_neg (by rw [h1]; simp [h2])]
end Go.Proofs.YtkdkojnlimadnaaDoor
namespace Go.Vm
set_option linter.unusedVariables false
noncomputable def vtostr (a : AV) (s : St) : R :=
  a.onSl .no (.ok (.str []) s) (fun b o l _ _ => (s.obj b).onCells .no fun cs => br (Nat.ble (Nat.add o l) (ln cs)) (cellBytes (tk l (dr o cs)) fun r => .ok (.str r) s) .no) fun cs l _ _ => br (Nat.beq l (ln cs)) (cellBytes cs fun r => .ok (.str r) s) .no
theorem p_tostr (call : CallT) (f : Fr AV) (s : St) (x : CO) : exop (.tostr x) call f s = vtostr (ev1 f x) s := nd rfl
/-- A text of one letter. -/
theorem vtostr_one {s : St} {L : List AO} (hr : Room s) (hl : L.length ≤ 5000) {i : Nat} {n : Int} (hi : L[i]? = some (.cells [.int .u8 n])) : vtostr (.sl (nm s i) 0 1 1 0) (Sx s L) = .ok (.str [UInt8.ofNat n.toNat]) (Sx s L) := by
  have h := Sx_obj? hr hl hi
  unfold vtostr
  simp only [AV.onSl]
  rw [h]
  rfl
theorem vlen_nils0 (s : St) : vlen .nils s = .ok (.int .i64 0) s := nd rfl
attribute [go_sem] p_tostr vlen_nils0
end Go.Vm
namespace Go.Proofs.YtkdkojnlimadnaaDoor
open Go Go.Vm Go.Lib
set_option linter.unusedVariables false
set_option linter.unusedSimpArgs false
theorem zText_num {l : List UInt8} (ha : l.all isDig = true) (h : ∃ c r, l = c :: r ∧ 49 ≤ c.toNat) (b : Bool) : zText ⟨b, lims (dv l)⟩ = if b = true then inSign l else l := by
  have hp : 0 < dv l := by obtain ⟨c, r, rfl, hc⟩ := h; exact dv_pos hc
  have hz : zIs ⟨b, lims (dv l)⟩ = true := by
    unfold zIs
    simp only [lims_is, Bool.true_and, Bool.or_eq_true, Bool.not_eq_true', decide_eq_true_eq]
    right; exact lims_ne (by omega)
  unfold zText
  rw [zh_self hz]
  simp only [val_lims, dec_dv ha h]
  rfl
theorem lims_len_num {l : List UInt8} (ha : l.all isDig = true) (k : Nat) (hl : l.length ≤ 9 * k) : (lims (dv l)).length ≤ k := by
  refine lims_len ?_
  have h1 := dv_lt ha
  have h2 : 10 ^ l.length ≤ 10 ^ (9 * k) := Nat.pow_le_pow_right (by omega) hl
  rw [Nat.pow_mul, show (10 : Nat) ^ 9 = 1000000000 from rfl] at h2
  omega
theorem long_ok (s : St) (n c : Nat) (neg : Bool) (hr : Room s) (hn : s.n.val ≤ 10000) (h1 : n ≤ 255) (h2 : c ≤ 255) : CA F.law3_DigitsLong [.int .u8 (n : Int), .int .u8 (c : Int), .bool neg] s = .ok (.bool true) s := by
  have hk := known_ok (Sx s []) hr (by show s.n.val ≤ _; omega)
  have e1 : ∀ σ, vbin .rem (.int .u8 (n : Int)) (.int .u8 3) σ = .ok (.int .u8 ((n % 3 : Nat) : Int)) σ := fun σ => (vbin_rem σ .u8 (n : Int) 3 (by decide)).trans rfl
  have e2 : ∀ σ, vbin .rem (.int .u8 (c : Int)) (.int .u8 9) σ = .ok (.int .u8 ((c % 9 : Nat) : Int)) σ := fun σ => (vbin_rem σ .u8 (c : Int) 9 (by decide)).trans rfl
  obtain ⟨K, hK⟩ : ∃ K, K = 359 + n % 3 := ⟨_, rfl⟩
  have e0 : IntKind.wrap .i64 ((n % 3 : Nat) : Int) = ((n % 3 : Nat) : Int) := wrap_i64 (by omega) (by omega)
  have e3 : IntKind.wrap .i64 (359 + ((n % 3 : Nat) : Int)) = (K : Int) := by rw [wrap_i64 (by omega) (by omega)]; omega
  have e4 : IntKind.wrap .u8 (49 + ((c % 9 : Nat) : Int)) = ((49 + c % 9 : Nat) : Int) := by rw [wrap_u8 (by omega) (by omega)]; omega
  have hs0 := vtostr_one (s := s) (L := [.cells [.int .u8 ((49 + c % 9 : Nat) : Int)]]) (n := ((49 + c % 9 : Nat) : Int)) hr (by simp) (i := 0) rfl
  rw [Int.toNat_natCast] at hs0
  have hx1 := ext_Sx (s := s) (l := [.cells [.int .u8 ((49 + c % 9 : Nat) : Int)]]) hr (by simp)
  have hn1 := Sx_n (s := s) (l := [.cells [.int .u8 ((49 + c % 9 : Nat) : Int)]]) hr (by simp)
  simp only [List.length_cons, List.length_nil] at hn1
  have hr1 : Room (Sx s [.cells [.int .u8 ((49 + c % 9 : Nat) : Int)]]) := hr.Sx (by simp; omega) (by simp)
  have hc0 : (UInt8.ofNat (49 + c % 9)).toNat = 49 + c % 9 := by rw [UInt8.toNat_ofNat']; omega
  generalize UInt8.ofNat (49 + c % 9) = c0 at hs0 hc0
  have hd0 : isDig c0 = true := by unfold isDig; simp; omega
  refine fn_of code_law3_DigitsLong (by simp) ?_
  simp only [go_sem, ↓reduceIte, Nat.reduceMod, Nat.reduceEqDiff, Nat.reduceAdd, Nat.reduceMul, Nat.reduceSub, Nat.reduceLeDiff, Nat.reduceLT, Int.reduceEq, Int.reduceLT, Int.reduceLE, Int.reduceAdd, Int.reduceSub, Int.reduceNeg, reduceCtorEq, Nat.reduceShiftRight, Nat.reduceAnd, Nat.reduceBNe, Bool.not_true, Bool.not_false, hk, e0, e1, e2, e3, e4, hr, hs0]
  generalize Sx s [.cells [.int .u8 ((49 + c % 9 : Nat) : Int)]] = s1 at *
  refine W_inv (fun k f τ => ∃ (i : Nat) (T : List UInt8) (σ : St), Sx σ [] = τ ∧ Room σ ∧ Ext s σ ∧ σ.n.val ≤ s.n.val + 1 + i ∧ k = K - i ∧ 1 ≤ i ∧ i ≤ K ∧ T.length = i ∧ T.all isDig = true ∧ (∃ c0 r, T = c0 :: r ∧ 49 ≤ c0.toNat) ∧ (vv 2).get f = .bool neg ∧ (vv 7).get f = .int .i64 (K : Int) ∧ (vv 8).get f = .str T ∧ (vv 9).get f = .int .i64 (i : Int)) ?_ ⟨1, [c0], s1, Sx_nil _, hr1, hx1, by omega, rfl, by omega, by omega, rfl, by simp [hd0], ⟨c0, [], rfl, by omega⟩, ?_, ?_, ?_, ?_⟩
  · rintro k f τ ⟨i, T, σ, rfl, hr2, hx, hn2, rfl, hi1, hi, hT, ha, hhd, g2, g7, g8, g9⟩
    by_cases c1 : i < K
    · have c1' : (i : Int) < (K : Int) := by omega
      have e5 : ∀ σ, vbin .rem (.int .i64 (i : Int)) (.int .i64 10) σ = .ok (.int .i64 ((i % 10 : Nat) : Int)) σ := fun σ => (vbin_rem σ .i64 (i : Int) 10 (by decide)).trans rfl
      have e6 : IntKind.wrap .u8 ((i % 10 : Nat) : Int) = ((i % 10 : Nat) : Int) := wrap_u8 (by omega) (by omega)
      have e7 : IntKind.wrap .u8 (48 + ((i % 10 : Nat) : Int)) = ((48 + i % 10 : Nat) : Int) := by rw [wrap_u8 (by omega) (by omega)]; omega
      have hs1 := vtostr_one (s := σ) (L := [.cells [.int .u8 ((48 + i % 10 : Nat) : Int)]]) (n := ((48 + i % 10 : Nat) : Int)) hr2 (by simp) (i := 0) rfl
      rw [Int.toNat_natCast] at hs1
      have hdd : isDig (UInt8.ofNat (48 + i % 10)) = true := by
        have : (UInt8.ofNat (48 + i % 10)).toNat = 48 + i % 10 := dig_toNat (Nat.mod_lt _ (by omega))
        unfold isDig; simp only [this, Bool.and_eq_true, decide_eq_true_eq]; omega
      generalize UInt8.ofNat (48 + i % 10) = dd at *
      have hsa : ∀ σ, vbin .add (.str T) (.str [dd]) σ = .ok (.str (T ++ [dd])) σ := fun σ => vbin_sadd σ _ _ (by simp; omega)
      simp only [go_sem, ↓reduceIte, Nat.reduceMod, Nat.reduceEqDiff, Nat.reduceAdd, Nat.reduceMul, Nat.reduceSub, Nat.reduceLeDiff, Nat.reduceLT, Int.reduceEq, Int.reduceLT, Int.reduceLE, Int.reduceAdd, Int.reduceSub, Int.reduceNeg, reduceCtorEq, Nat.reduceShiftRight, Nat.reduceAnd, Nat.reduceBNe, g2, g7, g8, g9, c1', e5, e6, e7, hr2, hs1, hsa]
      refine ⟨K - (i + 1), by omega, i + 1, T ++ [dd], _, Sx_nil _, hr2.Sx (by simp; omega) (by simp), hx.trans (ext_Sx hr2 (by simp)), ?_, rfl, by omega, by omega, by simp [hT], ?_, ?_, ?_⟩
      · rw [Sx_n hr2 (by simp)]; simp; omega
      · rw [List.all_append, ha]; simp [hdd]
      · obtain ⟨c0, r, e, h⟩ := hhd; exact ⟨c0, r ++ [dd], by rw [e]; rfl, h⟩
      · rw [wrap_i64 (by omega) (by omega)]; exact ⟨rfl, rfl⟩
    · have hiK : i = K := by omega
      have c1' : ¬ (i : Int) < (K : Int) := by omega
      have hav : avN [] = .nils := if_pos rfl
      cases neg
      · have p := parse_ok (Sx σ []) (T) hr2 (by show σ.n.val ≤ _; omega) (by omega)
        rw [parse_plain ha hhd, parse_num ha hhd] at p
        by_cases c3 : 360 < K
        · rw [if_pos (by omega), hav] at p
          have c3' : (360 : Int) < (K : Int) := by omega
          simp only [go_sem, ↓reduceIte, Nat.reduceMod, Nat.reduceEqDiff, Nat.reduceAdd, Nat.reduceMul, Nat.reduceSub, Nat.reduceLeDiff, Nat.reduceLT, Int.reduceEq, Int.reduceLT, Int.reduceLE, Int.reduceAdd, Int.reduceSub, Int.reduceNeg, reduceCtorEq, Nat.reduceShiftRight, Nat.reduceAnd, Nat.reduceBNe, Bool.not_true, Bool.not_false, g2, g7, g8, g9, c1', p, hr2, c3']
          exact settled_bool (hx.trans (ext_Sx hr2 (by simp))) rfl
        · rw [if_neg (by omega)] at p
          have c3' : ¬ (360 : Int) < (K : Int) := by omega
          have hll := lims_len_num ha 40 (by omega)
          have pr := fun L => print_call (Sx σ L) (.bool false) (avN (lims (dv T))) ⟨false, lims (dv T)⟩ (by show (lims (dv T)).length ≤ 100; omega) ⟨rfl, avN_nats _ _ (by omega)⟩
          rw [zText_num ha hhd] at pr
          simp only [if_true, Bool.false_eq_true, if_false] at pr
          have hone : (avN (lims (dv T))).one = true := avN_one _
          obtain ⟨q1, q2, q3, q4⟩ := num_of ha hhd
          have m1 := fun L (hL : L.length ≤ 100) => numeral_ok (Sx σ L) T (hr2.Sx (by omega) (by omega)) (by omega)
          have m2 := fun L (hL : L.length ≤ 100) => numeral_ok (Sx σ L) (48 :: T) (hr2.Sx (by omega) (by omega)) (by simp; omega)
          rw [q1] at m1
          rw [q4] at m2
          have hsa0 : ∀ σ, vbin .add (.str [48]) (.str T) σ = .ok (.str (48 :: T)) σ := fun σ => vbin_sadd σ _ _ (by simp; omega)
          simp only [go_sem, ↓reduceIte, Nat.reduceMod, Nat.reduceEqDiff, Nat.reduceAdd, Nat.reduceMul, Nat.reduceSub, Nat.reduceLeDiff, Nat.reduceLT, Int.reduceEq, Int.reduceLT, Int.reduceLE, Int.reduceAdd, Int.reduceSub, Int.reduceNeg, reduceCtorEq, Nat.reduceShiftRight, Nat.reduceAnd, Nat.reduceBNe, Bool.not_true, Bool.not_false, decide_true, g2, g7, g8, g9, c1', p, hr2, c3', hone, pr, m1, m2, hsa0]
          exact settled_bool (hx.trans (ext_Sx hr2 (by simp))) rfl
      · have hsa1 : ∀ σ, vbin .add (.str [40, 45, 32]) (.str T) σ =   .ok (.str (40 :: 45 :: 32 :: T)) σ := fun σ => vbin_sadd σ _ _ (by simp; omega)
        have hsa2 : ∀ σ, vbin .add (.str (40 :: 45 :: 32 :: T)) (.str [41]) σ = .ok (.str (inSign T)) σ := fun σ => vbin_sadd σ _ _ (by simp; omega)
        have p := parse_ok (Sx σ []) (inSign T) hr2 (by show σ.n.val ≤ _; omega) (by simp [inSign]; omega)
        rw [parse_sign T, parse_num ha hhd] at p
        by_cases c3 : 360 < K
        · rw [if_pos (by omega), hav] at p
          have c3' : (360 : Int) < (K : Int) := by omega
          simp only [go_sem, ↓reduceIte, Nat.reduceMod, Nat.reduceEqDiff, Nat.reduceAdd, Nat.reduceMul, Nat.reduceSub, Nat.reduceLeDiff, Nat.reduceLT, Int.reduceEq, Int.reduceLT, Int.reduceLE, Int.reduceAdd, Int.reduceSub, Int.reduceNeg, reduceCtorEq, Nat.reduceShiftRight, Nat.reduceAnd, Nat.reduceBNe, Bool.not_true, Bool.not_false, g2, g7, g8, g9, c1', hsa1, hsa2, p, hr2, c3']
          exact settled_bool (hx.trans (ext_Sx hr2 (by simp))) rfl
        · rw [if_neg (by omega)] at p
          have c3' : ¬ (360 : Int) < (K : Int) := by omega
          have hll := lims_len_num ha 40 (by omega)
          have pr := fun L => print_call (Sx σ L) (.bool true) (avN (lims (dv T))) ⟨true, lims (dv T)⟩ (by show (lims (dv T)).length ≤ 100; omega) ⟨rfl, avN_nats _ _ (by omega)⟩
          rw [zText_num ha hhd] at pr
          simp only [if_true, Bool.false_eq_true, if_false] at pr
          have hone : (avN (lims (dv T))).one = true := avN_one _
          obtain ⟨q1, q2, q3, q4⟩ := num_of ha hhd
          have m1 := fun L (hL : L.length ≤ 100) => numeral_ok (Sx σ L) T (hr2.Sx (by omega) (by omega)) (by omega)
          have m2 := fun L (hL : L.length ≤ 100) => numeral_ok (Sx σ L) (48 :: T) (hr2.Sx (by omega) (by omega)) (by simp; omega)
          rw [q1] at m1
          rw [q4] at m2
          have hsa0 : ∀ σ, vbin .add (.str [48]) (.str T) σ = .ok (.str (48 :: T)) σ := fun σ => vbin_sadd σ _ _ (by simp; omega)
          simp only [go_sem, ↓reduceIte, Nat.reduceMod, Nat.reduceEqDiff, Nat.reduceAdd, Nat.reduceMul, Nat.reduceSub, Nat.reduceLeDiff, Nat.reduceLT, Int.reduceEq, Int.reduceLT, Int.reduceLE, Int.reduceAdd, Int.reduceSub, Int.reduceNeg, reduceCtorEq, Nat.reduceShiftRight, Nat.reduceAnd, Nat.reduceBNe, Bool.not_true, Bool.not_false, decide_true, g2, g7, g8, g9, c1', hsa1, hsa2, p, hr2, c3', hone, pr, m1, m2, hsa0]
          exact settled_bool (hx.trans (ext_Sx hr2 (by simp))) rfl
  · simp only [go_sem, ↓reduceIte, Nat.reduceMod, Nat.reduceEqDiff, Nat.reduceAdd, Nat.reduceMul, Nat.reduceSub, Nat.reduceLeDiff, Nat.reduceLT, Int.reduceEq, Int.reduceLT, Int.reduceLE, Int.reduceAdd, Int.reduceSub, Int.reduceNeg, reduceCtorEq, Nat.reduceShiftRight, Nat.reduceAnd, Nat.reduceBNe]
  · simp only [go_sem, ↓reduceIte, Nat.reduceMod, Nat.reduceEqDiff, Nat.reduceAdd, Nat.reduceMul, Nat.reduceSub, Nat.reduceLeDiff, Nat.reduceLT, Int.reduceEq, Int.reduceLT, Int.reduceLE, Int.reduceAdd, Int.reduceSub, Int.reduceNeg, reduceCtorEq, Nat.reduceShiftRight, Nat.reduceAnd, Nat.reduceBNe]
  · simp only [go_sem, ↓reduceIte, Nat.reduceMod, Nat.reduceEqDiff, Nat.reduceAdd, Nat.reduceMul, Nat.reduceSub, Nat.reduceLeDiff, Nat.reduceLT, Int.reduceEq, Int.reduceLT, Int.reduceLE, Int.reduceAdd, Int.reduceSub, Int.reduceNeg, reduceCtorEq, Nat.reduceShiftRight, Nat.reduceAnd, Nat.reduceBNe]
  · simp only [go_sem, ↓reduceIte, Nat.reduceMod, Nat.reduceEqDiff, Nat.reduceAdd, Nat.reduceMul, Nat.reduceSub, Nat.reduceLeDiff, Nat.reduceLT, Int.reduceEq, Int.reduceLT, Int.reduceLE, Int.reduceAdd, Int.reduceSub, Int.reduceNeg, reduceCtorEq, Nat.reduceShiftRight, Nat.reduceAnd, Nat.reduceBNe]
    rfl
theorem u8_wf {a : Int} (h : (Lit.int .u8 a).wf = true) : ∃ n : Nat, a = n ∧ n ≤ 255 := by
  have h2 : IntKind.u8.min = 0 := rfl
  have h3 : IntKind.u8.max = 255 := rfl
  simp [Lit.wf] at h
  exact ⟨a.toNat, by omega, by omega⟩
theorem long_row {a b : Int} (neg : Bool) (ha : (Lit.int .u8 a).wf = true) (hb : (Lit.int .u8 b).wf = true) : CA F.law3_DigitsLong [.int .u8 a, .int .u8 b, .bool neg] .empty = .ok (.bool true) .empty := by
  obtain ⟨n, rfl, hn⟩ := u8_wf ha
  obtain ⟨c, rfl, hc⟩ := u8_wf hb
  exact long_ok .empty n c neg room_empty (by show (0 : Nat) ≤ _; omega) hn hc
end Go.Proofs.YtkdkojnlimadnaaDoor
namespace Go.Vm
set_option linter.unusedVariables false
theorem vslhi_eq1 {j : IntKind} {b : Id} {len cap h : Nat} (hc : 1 ≤ cap) (hh : h ≤ cap) (s : St) : vslhi 1 (.sl b 0 len cap 1) (.int j (h : Int)) s = .ok (.sl b 0 h cap 1) s := by
  show (AV.int j (h : Int)).idx (cap + 1) (fun h => br (br (Nat.beq 1 0) true (br false true (Nat.ble 1 cap))) (br (br (Nat.beq 1 0) true (br false true (Nat.beq 1 1))) (R.ok (.sl b (br (Nat.beq cap 0) 0 (Nat.add 0 (Nat.mul 0 1))) (Nat.sub h 0) (Nat.sub cap 0) (br false 0 1)) s) .no) (.ok (.ts [] 0 0 false) s)) = _
  rw [idx_eq (by omega) (by omega)]
  simp only [Int.toNat_natCast]
  have e1 : Nat.ble 1 cap = true := Nat.ble_eq_true_of_le hc
  have e : br (Nat.beq cap 0) 0 (Nat.add 0 (Nat.mul 0 1)) = 0 := by cases Nat.beq cap 0 <;> rfl
  rw [e, e1]; rfl
end Go.Vm
namespace Go.Proofs.YtkdkojnlimadnaaDoor
open Go Go.Vm
set_option linter.unusedVariables false
set_option linter.unusedSimpArgs false
theorem take_snoc {l : List Nat} {k : Nat} (h : k < l.length) : l.take (k + 1) = l.take k ++ [l[k]] := (List.take_append_getElem h).symm
theorem cellsN_at {l : List Nat} {i : Nat} (h : i < l.length) : (cellsN l)[i]? = some (.int .u32 (l[i] : Int)) := by unfold cellsN; rw [List.getElem?_map, List.getElem?_eq_getElem h]; rfl
theorem trim0_pre (l : List Nat) : trim0 l <+: l := by
  unfold trim0
  have h := List.dropWhile_suffix (fun a : Nat => decide (a = 0)) (l := l.reverse)
  rw [← List.reverse_prefix] at h
  simpa using h
theorem trim_ok [Tel] (s : St) (b : Vm.Id) (l : List Nat) (hb : b.val < s.n.val) (h0 : 1 ≤ l.length) (hl : l.length ≤ 100000) (ho : s.obj b = .cells (cellsN l)) : CA F.ref1_trim [.sl b 0 l.length l.length 1] s = .ok (.sl b 0 (trim0 l).length l.length 1) s := by
  have w0 : (Sx s []).obj b = .cells (cellsN l) := ho
  refine fn_of code_ref1_trim (by simp) ?_
  simp only [go_sem, ↓reduceIte, Nat.reduceMod, Nat.reduceEqDiff, Nat.reduceAdd, Nat.reduceMul, Nat.reduceSub, Nat.reduceLeDiff, Nat.reduceLT, Int.reduceEq, Int.reduceLT, Int.reduceLE, Int.reduceAdd, Int.reduceSub, Int.reduceNeg, reduceCtorEq, Nat.reduceShiftRight, Nat.reduceAnd, Nat.reduceBNe]
  refine W_inv (fun k f τ => ∃ i : Nat, Sx s [] = τ ∧ k = i ∧ i ≤ l.length ∧ trim0 (l.take i) = trim0 l ∧ (vv 0).get f = .sl b 0 l.length l.length 1 ∧ (vv 3).get f = .int .i64 (i : Int)) ?_ ⟨l.length, rfl, rfl, Nat.le_refl _, by rw [List.take_length], ?_, ?_⟩
  · rintro k f τ ⟨i, rfl, rfl, hi, ht, g0, g3⟩
    by_cases c0 : k = 0
    · have c0' : ¬ (0 : Int) < (k : Int) := by omega
      have e2 : (trim0 l).length = k := by rw [← ht, c0]; rfl
      simp only [go_sem, ↓reduceIte, Nat.reduceMod, Nat.reduceEqDiff, Nat.reduceAdd, Nat.reduceMul, Nat.reduceSub, Nat.reduceLeDiff, Nat.reduceLT, Int.reduceEq, Int.reduceLT, Int.reduceLE, Int.reduceAdd, Int.reduceSub, Int.reduceNeg, reduceCtorEq, Nat.reduceShiftRight, Nat.reduceAnd, Nat.reduceBNe, g0, g3, c0', vslhi_eq1 h0 hi]
      rw [e2]
      exact settled_ov (Ext.refl s) (ov_sl hb _ _ _ _)
    · have c0' : (0 : Int) < (k : Int) := by omega
      have hlt : k - 1 < l.length := by omega
      have ew : IntKind.wrap .i64 ((k : Int) - 1) = ((k - 1 : Nat) : Int) := by rw [wrap_i64 (by omega) (by omega)]; omega
      have e1 : l.take k = l.take (k - 1) ++ [l[k - 1]] := by rw [← take_snoc hlt]; congr 1; omega
      have hw := fun σ => wrap1_at (cellsN_at hlt) σ
      by_cases c1 : l[k - 1] = 0
      · have c1' : (l[k - 1] : Int) = 0 := by omega
        simp only [go_sem, ↓reduceIte, Nat.reduceMod, Nat.reduceEqDiff, Nat.reduceAdd, Nat.reduceMul, Nat.reduceSub, Nat.reduceLeDiff, Nat.reduceLT, Int.reduceEq, Int.reduceLT, Int.reduceLE, Int.reduceAdd, Int.reduceSub, Int.reduceNeg, reduceCtorEq, Nat.reduceShiftRight, Nat.reduceAnd, Nat.reduceBNe, g0, g3, c0', ew, viaddr_sl hlt, w0, hw, c1']
        refine ⟨k - 1, by omega, k - 1, rfl, by omega, ?_, rfl⟩
        rw [← ht, e1, trim0_snoc, if_pos c1]
      · have c1' : ¬ (l[k - 1] : Int) = 0 := by omega
        have e2 : (trim0 l).length = k := by rw [← ht, e1, trim0_snoc, if_neg c1, ← e1, List.length_take]; omega
        simp only [go_sem, ↓reduceIte, Nat.reduceMod, Nat.reduceEqDiff, Nat.reduceAdd, Nat.reduceMul, Nat.reduceSub, Nat.reduceLeDiff, Nat.reduceLT, Int.reduceEq, Int.reduceLT, Int.reduceLE, Int.reduceAdd, Int.reduceSub, Int.reduceNeg, reduceCtorEq, Nat.reduceShiftRight, Nat.reduceAnd, Nat.reduceBNe, g0, g3, c0', ew, viaddr_sl hlt, w0, hw, c1', vslhi_eq1 h0 hi]
        rw [e2]
        exact settled_ov (Ext.refl s) (ov_sl hb _ _ _ _)
  · simp only [go_sem, ↓reduceIte, Nat.reduceMod, Nat.reduceEqDiff, Nat.reduceAdd, Nat.reduceMul, Nat.reduceSub, Nat.reduceLeDiff, Nat.reduceLT, Int.reduceEq, Int.reduceLT, Int.reduceLE, Int.reduceAdd, Int.reduceSub, Int.reduceNeg, reduceCtorEq, Nat.reduceShiftRight, Nat.reduceAnd, Nat.reduceBNe]
  · simp only [go_sem, ↓reduceIte, Nat.reduceMod, Nat.reduceEqDiff, Nat.reduceAdd, Nat.reduceMul, Nat.reduceSub, Nat.reduceLeDiff, Nat.reduceLT, Int.reduceEq, Int.reduceLT, Int.reduceLE, Int.reduceAdd, Int.reduceSub, Int.reduceNeg, reduceCtorEq, Nat.reduceShiftRight, Nat.reduceAnd, Nat.reduceBNe]
theorem trim0_le (l : List Nat) : (trim0 l).length ≤ l.length := (trim0_pre l).length_le
/-- A row of limbs, the first of what lies there. -/
theorem nats_first {s : St} {cs : List AV} (l : List Nat) (hl : l.length ≤ 140737488355328) (cap : Nat) (ex : Bool) (ho : ∀ c ∈ cs, Ov s.n.val c) (hc : ∀ i (h : i < l.length), cs[i]? = some (.int .u32 (l[i] : Int))) : Nats s (.ts cs l.length cap ex) l := by
  refine ⟨.ts _ _ _ _ hl ho, rfl, fun i hi => ?_⟩
  show ∃ t, cs.drop (i * 1) = _
  obtain ⟨h1, h2⟩ := List.getElem?_eq_some_iff.mp (hc i hi)
  rw [Nat.mul_one, List.drop_eq_getElem_cons h1, h2]
  exact ⟨_, rfl⟩
theorem pre_at {a b : List Nat} (h : a <+: b) {i : Nat} (hi : i < a.length) : b[i]? = some a[i] := by
  obtain ⟨t, rfl⟩ := h
  rw [List.getElem?_append_left hi, List.getElem?_eq_getElem hi]
/-- What is left of a row of limbs without its noughts. -/
theorem nats_trim {s : St} (ds : List Nat) (hl : ds.length ≤ 140737488355328) (cap : Nat) (ex : Bool) : Nats s (.ts (cellsN ds) (trim0 ds).length cap ex) (trim0 ds) := by
  have := trim0_le ds
  refine nats_first _ (by omega) cap ex (ov_nats ds) fun i hi => ?_
  unfold cellsN
  rw [List.getElem?_map, pre_at (trim0_pre ds) hi]; rfl
/-- A row of one's own, trimmed and given away. -/
theorem trim_fn [Tel] {s σ : St} {av : AV} {out : List Nat} (own : OwnN s.n.val σ av out) (hx : Ext s σ) (h0 : out ≠ []) (hl : out.length ≤ 100000) : ∃ r, CA F.ref1_trim [av] σ = .ok r σ ∧ r.one = true ∧ Settled s r σ (.ts (cellsN out) (trim0 out).length (trim0 out).length false) s := by
  rcases own with ⟨_, e⟩ | ⟨b, rfl, _, ho, hb, hbn⟩
  · exact absurd e h0
  · refine ⟨_, trim_ok σ b out hb (by cases out <;> simp_all) hl ho, rfl, settled_fz hx ?_⟩
    refine .slN b 0 (trim0 out).length out.length 1 (cellsN out) (cellsN out) hbn ho rfl (fun j c d hc hd => ?_)
    have hc' : (cellsN out)[j]? = some c := hc
    rw [hd] at hc'; cases hc'
    obtain ⟨m, _, rfl⟩ := List.mem_map.mp (List.mem_of_getElem? hd)
    exact .int _ _
theorem natural_ok [Tel] (s : St) (l : List UInt8) (hr : Room s) (hn : s.n.val ≤ 50000) (hl : l.length ≤ 5000) (h0 : l ≠ []) (ha : l.all isDig = true) : CA F.ref1_natural [.str l] s = .ok (.ts (cellsN (chunk l)) (trim0 (chunk l)).length (trim0 (chunk l)).length false) s := by
  have hcl := chunk_len _ l (Nat.le_refl _)
  have hne : chunk l ≠ [] := by rw [chunk_pos h0]; simp
  refine fn_of code_ref1_natural (by simp) ?_
  simp only [go_sem, ↓reduceIte, Nat.reduceMod, Nat.reduceEqDiff, Nat.reduceAdd, Nat.reduceMul, Nat.reduceSub, Nat.reduceLeDiff, Nat.reduceLT, Int.reduceEq, Int.reduceLT, Int.reduceLE, Int.reduceAdd, Int.reduceSub, Int.reduceNeg, reduceCtorEq, Nat.reduceShiftRight, Nat.reduceAnd, Nat.reduceBNe]
  refine W_inv (fun k f τ => ∃ (x : Int) (out : List Nat) (σ : St) (av : AV), Sx σ [] = τ ∧ Room σ ∧ Ext s σ ∧ σ.n.val ≤ s.n.val + 2 * out.length ∧ k = x.toNat ∧ -9 ≤ x ∧ x ≤ l.length ∧ out ++ chunk (l.take x.toNat) = chunk l ∧ OwnN s.n.val σ av out ∧ (vv 0).get f = .str l ∧ (vv 3).get f = av ∧ (vv 4).get f = .int .i64 x) ?_ ⟨(l.length : Int), [], s, .nils, rfl, hr, Ext.refl s, by simp, rfl, by omega, by omega, by simp, .inl ⟨rfl, rfl⟩, ?_, ?_, ?_⟩
  · rintro k f τ ⟨x, out, σ, av, rfl, hr1, hx, hn1, rfl, hx1, hx2, hch, own, g0, g3, g4⟩
    have hol : out.length ≤ (chunk l).length := by rw [← hch, List.length_append]; omega
    by_cases c1 : (0 : Int) < x
    · obtain ⟨e, rfl⟩ : ∃ e : Nat, x = e := ⟨x.toNat, by omega⟩
      simp only [Int.toNat_natCast] at hch
      have hel : e ≤ l.length := by omega
      have hlen : (l.take e).length = e := by rw [List.length_take]; omega
      have hne2 : l.take e ≠ [] := by intro h; rw [h] at hlen; simp at hlen; omega
      have hra : (l.take e).all isDig = true := all_take_d ha e
      rw [chunk_pos hne2, hlen] at hch
      have hdl := dv_chunk_lt hra
      rw [hlen] at hdl
      have etk : (l.take e).take (e - 9) = l.take (e - 9) := by rw [List.take_take]; congr 1; omega
      rw [etk] at hch
      have em : max 0 (IntKind.wrap .i64 ((e : Int) - 9)) = ((e - 9 : Nat) : Int) := by rw [wrap_i64 (by omega) (by omega)]; omega
      simp only [go_sem, ↓reduceIte, Nat.reduceMod, Nat.reduceEqDiff, Nat.reduceAdd, Nat.reduceMul, Nat.reduceSub, Nat.reduceLeDiff, Nat.reduceLT, Int.reduceEq, Int.reduceLT, Int.reduceLE, Int.reduceAdd, Int.reduceSub, Int.reduceNeg, reduceCtorEq, Nat.reduceShiftRight, Nat.reduceAnd, Nat.reduceBNe, g0, g3, g4, c1, vmm_max, em]
      refine W_inv (fun k f τ => ∃ j : Nat, Sx σ [] = τ ∧ k = e - j ∧ e - 9 ≤ j ∧ j ≤ e ∧ (vv 0).get f = .str l ∧ (vv 3).get f = av ∧ (vv 4).get f = .int .i64 (e : Int) ∧ (vv 5).get f = .int .u32 (dv ((l.take j).drop (e - 9)) : Int) ∧ (vv 6).get f = .int .i64 (j : Int)) ?_ ⟨e - 9, rfl, rfl, Nat.le_refl _, by omega, ?_, ?_, ?_, ?_, ?_⟩
      · rintro k f τ ⟨j, rfl, rfl, hj1, hj2, g0, g3, g4, g5, g6⟩
        by_cases d1 : j < e
        · have hjl : j < l.length := by omega
          have hsn : (l.take (j + 1)).drop (e - 9) = (l.take j).drop (e - 9) ++ [l[j]] := by
            rw [← List.take_append_getElem hjl, List.drop_append_of_le_length (by rw [List.length_take]; omega)]
          have hdj : isDig l[j] = true := by rw [List.all_eq_true] at ha; exact ha _ (List.getElem_mem hjl)
          unfold isDig at hdj
          simp only [Bool.and_eq_true, decide_eq_true_eq] at hdj
          have hdv := dv_snoc ((l.take j).drop (e - 9)) l[j]
          rw [← hsn] at hdv
          have hlt : dv ((l.take (j + 1)).drop (e - 9)) < 1000000000 := by
            have h1 := dv_lt (all_drop_d (all_take_d ha (j + 1)) (e - 9))
            have h2 : ((l.take (j + 1)).drop (e - 9)).length ≤ 9 := by rw [List.length_drop, List.length_take]; omega
            have h3 : 10 ^ ((l.take (j + 1)).drop (e - 9)).length ≤ 10 ^ 9 := Nat.pow_le_pow_right (by omega) h2
            omega
          generalize hd : dv ((l.take j).drop (e - 9)) = d at *
          have w1 : IntKind.wrap .u32 (10 * (d : Int)) = ((10 * d : Nat) : Int) := by rw [wrap_u32 (by omega) (by omega)]; omega
          have w2 : IntKind.wrap .u8 ((l[j].toNat : Int) - 48) = ((l[j].toNat - 48 : Nat) : Int) := by rw [wrap_u8 (by omega) (by omega)]; omega
          have w3 : IntKind.wrap .u32 ((l[j].toNat - 48 : Nat) : Int) = ((l[j].toNat - 48 : Nat) : Int) := wrap_u32 (by omega) (by omega)
          have w4 : IntKind.wrap .u32 (((10 * d : Nat) : Int) + ((l[j].toNat - 48 : Nat) : Int)) = ((10 * d + (l[j].toNat - 48) : Nat) : Int) := by rw [wrap_u32 (by omega) (by omega)]; omega
          simp only [go_sem, ↓reduceIte, Nat.reduceMod, Nat.reduceEqDiff, Nat.reduceAdd, Nat.reduceMul, Nat.reduceSub, Nat.reduceLeDiff, Nat.reduceLT, Int.reduceEq, Int.reduceLT, Int.reduceLE, Int.reduceAdd, Int.reduceSub, Int.reduceNeg, reduceCtorEq, Nat.reduceShiftRight, Nat.reduceAnd, Nat.reduceBNe, g0, g3, g4, g5, g6, Int.ofNat_lt, d1, vsidx_n hjl, w1, w2, w3, w4]
          refine ⟨e - (j + 1), by omega, j + 1, rfl, by omega, by omega, ?_⟩
          rw [hdv, wrap_i64 (by omega) (by omega)]
          exact ⟨rfl, rfl⟩
        · have hje : j = e := by omega
          subst hje
          generalize hd : dv ((l.take j).drop (j - 9)) = d at *
          obtain ⟨σ', av', hap, hr2, hn2, own2, hold⟩ := own_app hr1 hx.n own d (L := [.cells [.int .u32 (d : Int)]]) (by simp) (by simp; omega) (by omega) (i := 0) rfl
          simp only [go_sem, ↓reduceIte, Nat.reduceMod, Nat.reduceEqDiff, Nat.reduceAdd, Nat.reduceMul, Nat.reduceSub, Nat.reduceLeDiff, Nat.reduceLT, Int.reduceEq, Int.reduceLT, Int.reduceLE, Int.reduceAdd, Int.reduceSub, Int.reduceNeg, reduceCtorEq, Nat.reduceShiftRight, Nat.reduceAnd, Nat.reduceBNe, g0, g3, g4, g5, g6, Int.ofNat_lt, d1, hr1, hap]
          refine ⟨((j : Int) - 9).toNat, by omega, (j : Int) - 9, out ++ [d], σ', av', Sx_nil _, hr2, ⟨by have := hx.n; omega, fun c hc => (hold c hc).trans (hx.old c hc)⟩, ?_, rfl, by omega, by omega, ?_, own2, ?_⟩
          · rw [hn2]; simp; omega
          · rw [show ((j : Int) - 9).toNat = j - 9 by omega, List.append_assoc]; exact hch
          · rw [wrap_i64 (by omega) (by omega)]; exact ⟨rfl, rfl⟩
      · simp only [go_sem, ↓reduceIte, Nat.reduceMod, Nat.reduceEqDiff, Nat.reduceAdd, Nat.reduceMul, Nat.reduceSub, Nat.reduceLeDiff, Nat.reduceLT, Int.reduceEq, Int.reduceLT, Int.reduceLE, Int.reduceAdd, Int.reduceSub, Int.reduceNeg, reduceCtorEq, Nat.reduceShiftRight, Nat.reduceAnd, Nat.reduceBNe, g0]
      · simp only [go_sem, ↓reduceIte, Nat.reduceMod, Nat.reduceEqDiff, Nat.reduceAdd, Nat.reduceMul, Nat.reduceSub, Nat.reduceLeDiff, Nat.reduceLT, Int.reduceEq, Int.reduceLT, Int.reduceLE, Int.reduceAdd, Int.reduceSub, Int.reduceNeg, reduceCtorEq, Nat.reduceShiftRight, Nat.reduceAnd, Nat.reduceBNe, g3]
      · simp only [go_sem, ↓reduceIte, Nat.reduceMod, Nat.reduceEqDiff, Nat.reduceAdd, Nat.reduceMul, Nat.reduceSub, Nat.reduceLeDiff, Nat.reduceLT, Int.reduceEq, Int.reduceLT, Int.reduceLE, Int.reduceAdd, Int.reduceSub, Int.reduceNeg, reduceCtorEq, Nat.reduceShiftRight, Nat.reduceAnd, Nat.reduceBNe, g4]
      · simp only [go_sem, ↓reduceIte, Nat.reduceMod, Nat.reduceEqDiff, Nat.reduceAdd, Nat.reduceMul, Nat.reduceSub, Nat.reduceLeDiff, Nat.reduceLT, Int.reduceEq, Int.reduceLT, Int.reduceLE, Int.reduceAdd, Int.reduceSub, Int.reduceNeg, reduceCtorEq, Nat.reduceShiftRight, Nat.reduceAnd, Nat.reduceBNe]
        have : (l.take (e - 9)).drop (e - 9) = [] := by rw [List.drop_eq_nil_iff, List.length_take]; omega
        rw [this]; rfl
      · simp only [go_sem, ↓reduceIte, Nat.reduceMod, Nat.reduceEqDiff, Nat.reduceAdd, Nat.reduceMul, Nat.reduceSub, Nat.reduceLeDiff, Nat.reduceLT, Int.reduceEq, Int.reduceLT, Int.reduceLE, Int.reduceAdd, Int.reduceSub, Int.reduceNeg, reduceCtorEq, Nat.reduceShiftRight, Nat.reduceAnd, Nat.reduceBNe]
    · have e0 : x.toNat = 0 := by omega
      rw [e0, List.take_zero, chunk_nil, List.append_nil] at hch
      obtain ⟨r, ht, hone, hset⟩ := trim_fn own hx (by rw [hch]; exact hne) (by omega)
      rw [hch] at hset
      have ht' : CA F.ref1_trim [av] (Sx σ []) = .ok r (Sx σ []) := ht
      simp only [go_sem, ↓reduceIte, Nat.reduceMod, Nat.reduceEqDiff, Nat.reduceAdd, Nat.reduceMul, Nat.reduceSub, Nat.reduceLeDiff, Nat.reduceLT, Int.reduceEq, Int.reduceLT, Int.reduceLE, Int.reduceAdd, Int.reduceSub, Int.reduceNeg, reduceCtorEq, Nat.reduceShiftRight, Nat.reduceAnd, Nat.reduceBNe, g0, g3, g4, c1, ht', hone]
      exact hset
  all_goals simp only [go_sem, ↓reduceIte, Nat.reduceMod, Nat.reduceEqDiff, Nat.reduceAdd, Nat.reduceMul, Nat.reduceSub, Nat.reduceLeDiff, Nat.reduceLT, Int.reduceEq, Int.reduceLT, Int.reduceLE, Int.reduceAdd, Int.reduceSub, Int.reduceNeg, reduceCtorEq, Nat.reduceShiftRight, Nat.reduceAnd, Nat.reduceBNe]
end Go.Proofs.YtkdkojnlimadnaaDoor
namespace Go.Proofs.YtkdkojnlimadnaaDoor
open Go Go.Vm
set_option linter.unusedVariables false
set_option linter.unusedSimpArgs false
theorem trim_nil [Tel] (s : St) : CA F.ref1_trim [.nils] s = .ok .nils s := by
  refine fn_of code_ref1_trim (by simp) ?_
  have h0 : ∀ σ, vlen .nils σ = .ok (.int .i64 0) σ := fun σ => nd rfl
  have h1 : ∀ σ, vslhi 1 .nils (.int .i64 0) σ = .ok .nils σ := fun σ => nd rfl
  simp only [go_sem, ↓reduceIte, Nat.reduceMod, Nat.reduceEqDiff, Nat.reduceAdd, Nat.reduceMul, Nat.reduceSub, Nat.reduceLeDiff, Nat.reduceLT, Int.reduceEq, Int.reduceLT, Int.reduceLE, Int.reduceAdd, Int.reduceSub, Int.reduceNeg, reduceCtorEq, Nat.reduceShiftRight, Nat.reduceAnd, Nat.reduceBNe, h0]
  rw [W_loop]
  simp only [go_sem, ↓reduceIte, Nat.reduceMod, Nat.reduceEqDiff, Nat.reduceAdd, Nat.reduceMul, Nat.reduceSub, Nat.reduceLeDiff, Nat.reduceLT, Int.reduceEq, Int.reduceLT, Int.reduceLE, Int.reduceAdd, Int.reduceSub, Int.reduceNeg, reduceCtorEq, Nat.reduceShiftRight, Nat.reduceAnd, Nat.reduceBNe, h0, h1]
  exact settled_ov (Ext.refl s) (ov_nils _)
/-- Trimmed and given away. -/
noncomputable def avT (l : List Nat) : AV := if l = [] then .nils else .ts (cellsN l) (trim0 l).length (trim0 l).length false
theorem avT_nats (t : St) (l : List Nat) (hl : l.length ≤ 140737488355328) : Nats t (avT l) (trim0 l) := by
  unfold avT
  by_cases h : l = []
  · rw [if_pos h, h]; exact nats_nil t
  · rw [if_neg h]; exact nats_trim l hl _ _
theorem trim_fn2 [Tel] {s σ : St} {av : AV} {out : List Nat} (own : OwnN s.n.val σ av out) (hx : Ext s σ) (hl : out.length ≤ 100000) : ∃ r, CA F.ref1_trim [av] (Sx σ []) = .ok r (Sx σ []) ∧ r.one = true ∧ Settled s r σ (avT out) s := by
  unfold avT
  by_cases h : out = []
  · rcases own with ⟨rfl, _⟩ | ⟨b, rfl, hne, _⟩
    · exact ⟨.nils, trim_nil σ, rfl, by rw [if_pos h]; exact settled_ov hx (ov_nils _)⟩
    · exact absurd h hne
  · rw [if_neg h]
    exact trim_fn own hx h hl
theorem carry_eq (c q : Nat) : c % 1000000000 + 1000000000 * (c / 1000000000 + q) = c + 1000000000 * q := by omega
/-- A small number times limbs, and what was left. -/
def mulO (m : Nat) : List Nat → Nat → List Nat
  | [], c => lims c
  | a :: l, c => (c + a * m) % 1000000000 :: mulO m l ((c + a * m) / 1000000000)
theorem small_lims (c : Nat) : small (lims c) := natIs_small (lims_is c)
theorem mulO_small (m : Nat) : ∀ (l : List Nat) (c : Nat), small (mulO m l c)
  | [], c => small_lims c
  | a :: l, c => by
    intro x hx
    rcases List.mem_cons.1 hx with rfl | hx
    · exact Nat.mod_lt _ (by omega)
    · exact mulO_small m l _ x hx
theorem mulO_val (m : Nat) : ∀ (l : List Nat) (c : Nat), val (mulO m l c) = c + m * val l
  | [], c => by rw [mulO, val_lims]; simp [val]
  | a :: l, c => by
    rw [mulO]
    show (c + a * m) % 1000000000 + 1000000000 * val (mulO m l ((c + a * m) / 1000000000)) = c + m * (a + 1000000000 * val l)
    rw [mulO_val m l, carry_eq, Nat.mul_add, Nat.mul_comm m a, ← Nat.mul_assoc, ← Nat.mul_assoc, Nat.mul_comm m 1000000000]
    omega
theorem lims_le3 {c : Nat} (h : c ≤ 18446744073709551615) : (lims c).length ≤ 3 := lims_len (by omega)
theorem mulO_len (m : Nat) (hm : m ≤ 1000000) : ∀ (l : List Nat) (c : Nat), small l → c ≤ 1000000 → (mulO m l c).length ≤ l.length + 3
  | [], c, _, hc => by rw [mulO]; have := lims_le3 (c := c) (by omega); simpa using this
  | a :: l, c, hs, hc => by
    rw [mulO, List.length_cons, List.length_cons]
    have ha := hs a List.mem_cons_self
    have h1 : a * m ≤ 999999999 * m := Nat.mul_le_mul_right _ (by omega)
    have := mulO_len m hm l ((c + a * m) / 1000000000) (fun x hx => hs x (List.mem_cons_of_mem _ hx)) (by omega)
    omega
theorem small_ok [Tel] (s : St) (v : AV) (l : List Nat) (m : Nat) (hr : Room s) (hn : s.n.val ≤ 50000) (hl : l.length ≤ 1000) (hm : m ≤ 1000000) (hs : small l) (hv : Nats s v l) : CA F.ref1_small [v, .int .u64 (m : Int)] s = .ok (avT (mulO m l 0)) s := by
  have hml := mulO_len m hm l 0 hs (by omega)
  refine fn_of code_ref1_small (by simp) ?_
  simp only [go_sem, ↓reduceIte, Nat.reduceMod, Nat.reduceEqDiff, Nat.reduceAdd, Nat.reduceMul, Nat.reduceSub, Nat.reduceLeDiff, Nat.reduceLT, Int.reduceEq, Int.reduceLT, Int.reduceLE, Int.reduceAdd, Int.reduceSub, Int.reduceNeg, reduceCtorEq, Nat.reduceShiftRight, Nat.reduceAnd, Nat.reduceBNe]
  refine W_inv (fun k f τ => ∃ (i c : Nat) (out : List Nat) (σ : St) (av : AV), Sx σ [] = τ ∧ Room σ ∧ Ext s σ ∧ σ.n.val ≤ s.n.val + 2 * out.length ∧ k = (l.length - i) * 4000000 + c ∧ c ≤ 1000000 ∧ i ≤ 2000 ∧ out.length = i ∧ out ++ mulO m (l.drop i) c = mulO m l 0 ∧ OwnN s.n.val σ av out ∧ (vv 0).get f = v ∧ (vv 1).get f = .int .u64 (m : Int) ∧ (vv 5).get f = av ∧ (vv 6).get f = .int .u64 (c : Int) ∧ (vv 7).get f = .int .i64 (i : Int)) ?_ ⟨0, 0, [], s, .nils, rfl, hr, Ext.refl s, by simp, rfl, by omega, by omega, rfl, by simp, .inl ⟨rfl, rfl⟩, ?_, ?_, ?_, ?_, ?_⟩
  · rintro k f τ ⟨i, c, out, σ, av, rfl, hr1, hx, hn1, rfl, hc, hi, hol, hch, own, g0, g1, g5, g6, g7⟩
    have hv1 := hv.x hx
    have hol2 : out.length ≤ (mulO m l 0).length := by rw [← hch, List.length_append]; omega
    by_cases c1 : i < l.length
    · have hdr : l.drop i = l[i] :: l.drop (i + 1) := List.drop_eq_getElem_cons c1
      rw [hdr, mulO] at hch
      have ha : l[i] < 1000000000 := hs _ (List.getElem_mem c1)
      have h1 : l[i] * m ≤ 999999999 * m := Nat.mul_le_mul_right _ (by omega)
      generalize hd : l[i] = a at *
      have w1 : IntKind.wrap .u64 (a : Int) = (a : Int) := wrap_u64 (by omega) (by omega)
      have w2 : IntKind.wrap .u64 ((a : Int) * (m : Int)) = ((a * m : Nat) : Int) := by rw [← Int.natCast_mul]; exact wrap_u64 (by omega) (by omega)
      have w3 : IntKind.wrap .u64 ((c : Int) + ((a * m : Nat) : Int)) = ((c + a * m : Nat) : Int) := by rw [wrap_u64 (by omega) (by omega)]; omega
      generalize hq : c + a * m = q at *
      have w4 : IntKind.wrap .u32 ((q % 1000000000 : Nat) : Int) = ((q % 1000000000 : Nat) : Int) := wrap_u32 (by omega) (by omega)
      have hu : ∀ σ', Ext σ σ' → vload false 1 (elp v i) σ' = .ok (.int .u32 (a : Int)) σ' := fun σ' hx' => by rw [← hd]; exact hv1.u32 c1 hx'
      have hu0 := hu (Sx σ []) (Ext.refl σ)
      obtain ⟨σ', av', hap, hr2, hn2, own2, hold⟩ := own_app hr1 hx.n own (q % 1000000000) (L := [.cells [.int .u32 ((q % 1000000000 : Nat) : Int)]]) (by simp) (by simp; omega) (by omega) (i := 0) rfl
      simp only [go_sem, ↓reduceIte, Nat.reduceMod, Nat.reduceEqDiff, Nat.reduceAdd, Nat.reduceMul, Nat.reduceSub, Nat.reduceLeDiff, Nat.reduceLT, Int.reduceEq, Int.reduceLT, Int.reduceLE, Int.reduceAdd, Int.reduceSub, Int.reduceNeg, reduceCtorEq, Nat.reduceShiftRight, Nat.reduceAnd, Nat.reduceBNe, g0, g1, g5, g6, g7, Int.ofNat_lt, c1, hv1.vlen, hv1.ia c1, hu0, w1, w2, w3, w4, rem_u64, hr1, hap, quo_u64 (show q ≤ 18446744073709551615 by omega)]
      refine ⟨(l.length - (i + 1)) * 4000000 + q / 1000000000, by omega, i + 1, q / 1000000000, out ++ [q % 1000000000], σ', av', Sx_nil _, hr2, ⟨by have := hx.n; omega, fun c hc => (hold c hc).trans (hx.old c hc)⟩, ?_, rfl, by omega, by omega, by simp [hol], ?_, own2, ?_⟩
      · rw [hn2]; simp; omega
      · rw [List.append_assoc]; exact hch
      · rw [wrap_i64 (by omega) (by omega)]; exact ⟨rfl, rfl, rfl⟩
    · have hdr : l.drop i = [] := List.drop_of_length_le (by omega)
      rw [hdr, mulO] at hch
      by_cases c2 : c = 0
      · have c2' : ¬ (0 : Int) < (c : Int) := by omega
        rw [c2, lims_0, List.append_nil] at hch
        obtain ⟨r, ht, hone, hset⟩ := trim_fn2 own hx (by omega)
        rw [hch] at hset
        simp only [go_sem, ↓reduceIte, Nat.reduceMod, Nat.reduceEqDiff, Nat.reduceAdd, Nat.reduceMul, Nat.reduceSub, Nat.reduceLeDiff, Nat.reduceLT, Int.reduceEq, Int.reduceLT, Int.reduceLE, Int.reduceAdd, Int.reduceSub, Int.reduceNeg, reduceCtorEq, Nat.reduceShiftRight, Nat.reduceAnd, Nat.reduceBNe, g0, g1, g5, g6, g7, Int.ofNat_lt, c1, hv1.vlen, c2', ht, hone]
        exact hset
      · have c2' : (0 : Int) < (c : Int) := by omega
        have hlc := lims_len (n := c) (k := 1) (by omega)
        rw [lims_pos c2] at hch
        have hi2 : i ≤ 1100 := by have := congrArg List.length hch; rw [List.length_append] at this; omega
        have w4 : IntKind.wrap .u32 ((c % 1000000000 : Nat) : Int) = ((c % 1000000000 : Nat) : Int) := wrap_u32 (by omega) (by omega)
        obtain ⟨σ', av', hap, hr2, hn2, own2, hold⟩ := own_app hr1 hx.n own (c % 1000000000) (L := [.cells [.int .u32 ((c % 1000000000 : Nat) : Int)]]) (by simp) (by simp; omega) (by omega) (i := 0) rfl
        simp only [go_sem, ↓reduceIte, Nat.reduceMod, Nat.reduceEqDiff, Nat.reduceAdd, Nat.reduceMul, Nat.reduceSub, Nat.reduceLeDiff, Nat.reduceLT, Int.reduceEq, Int.reduceLT, Int.reduceLE, Int.reduceAdd, Int.reduceSub, Int.reduceNeg, reduceCtorEq, Nat.reduceShiftRight, Nat.reduceAnd, Nat.reduceBNe, g0, g1, g5, g6, g7, Int.ofNat_lt, c1, hv1.vlen, c2', w4, rem_u64, hr1, hap, quo_u64 (show c ≤ 18446744073709551615 by omega)]
        refine ⟨(l.length - (i + 1)) * 4000000 + c / 1000000000, by omega, i + 1, c / 1000000000, out ++ [c % 1000000000], σ', av', Sx_nil _, hr2, ⟨by have := hx.n; omega, fun c hc => (hold c hc).trans (hx.old c hc)⟩, ?_, rfl, by omega, by omega, by simp [hol], ?_, own2, ?_⟩
        · rw [hn2]; simp; omega
        · rw [List.drop_of_length_le (by omega), mulO, List.append_assoc]; exact hch
        · rw [wrap_i64 (by omega) (by omega)]; exact ⟨rfl, rfl, rfl⟩
  · simp only [go_sem, ↓reduceIte, Nat.reduceMod, Nat.reduceEqDiff, Nat.reduceAdd, Nat.reduceMul, Nat.reduceSub, Nat.reduceLeDiff, Nat.reduceLT, Int.reduceEq, Int.reduceLT, Int.reduceLE, Int.reduceAdd, Int.reduceSub, Int.reduceNeg, reduceCtorEq, Nat.reduceShiftRight, Nat.reduceAnd, Nat.reduceBNe]
  · simp only [go_sem, ↓reduceIte, Nat.reduceMod, Nat.reduceEqDiff, Nat.reduceAdd, Nat.reduceMul, Nat.reduceSub, Nat.reduceLeDiff, Nat.reduceLT, Int.reduceEq, Int.reduceLT, Int.reduceLE, Int.reduceAdd, Int.reduceSub, Int.reduceNeg, reduceCtorEq, Nat.reduceShiftRight, Nat.reduceAnd, Nat.reduceBNe]
  · simp only [go_sem, ↓reduceIte, Nat.reduceMod, Nat.reduceEqDiff, Nat.reduceAdd, Nat.reduceMul, Nat.reduceSub, Nat.reduceLeDiff, Nat.reduceLT, Int.reduceEq, Int.reduceLT, Int.reduceLE, Int.reduceAdd, Int.reduceSub, Int.reduceNeg, reduceCtorEq, Nat.reduceShiftRight, Nat.reduceAnd, Nat.reduceBNe]
  · simp only [go_sem, ↓reduceIte, Nat.reduceMod, Nat.reduceEqDiff, Nat.reduceAdd, Nat.reduceMul, Nat.reduceSub, Nat.reduceLeDiff, Nat.reduceLT, Int.reduceEq, Int.reduceLT, Int.reduceLE, Int.reduceAdd, Int.reduceSub, Int.reduceNeg, reduceCtorEq, Nat.reduceShiftRight, Nat.reduceAnd, Nat.reduceBNe]
    rfl
  · simp only [go_sem, ↓reduceIte, Nat.reduceMod, Nat.reduceEqDiff, Nat.reduceAdd, Nat.reduceMul, Nat.reduceSub, Nat.reduceLeDiff, Nat.reduceLT, Int.reduceEq, Int.reduceLT, Int.reduceLE, Int.reduceAdd, Int.reduceSub, Int.reduceNeg, reduceCtorEq, Nat.reduceShiftRight, Nat.reduceAnd, Nat.reduceBNe]
    rfl
/-- Two rows of limbs and what was left, added. -/
def addO (a b : List Nat) (c : Nat) : List Nat := if h : a = [] ∧ b = [] then lims c else (c + a.headD 0 + b.headD 0) % 1000000000 :: addO a.tail b.tail ((c + a.headD 0 + b.headD 0) / 1000000000)
termination_by a.length + b.length
decreasing_by
  cases a <;> cases b <;> simp_all <;> omega
theorem addO_nil (c : Nat) : addO [] [] c = lims c := by rw [addO]; simp
theorem addO_pos {a b : List Nat} (h : ¬ (a = [] ∧ b = [])) (c : Nat) : addO a b c = (c + a.headD 0 + b.headD 0) % 1000000000 :: addO a.tail b.tail ((c + a.headD 0 + b.headD 0) / 1000000000) := by rw [addO, dif_neg h]
theorem val_head (a : List Nat) : val a = a.headD 0 + 1000000000 * val a.tail := by cases a <;> simp [val]
theorem addO_facts : ∀ (n : Nat) (a b : List Nat) (c : Nat), a.length ≤ n → b.length ≤ n → small a → small b → c ≤ 2 → small (addO a b c) ∧ val (addO a b c) = c + val a + val b ∧ (addO a b c).length ≤ n + 1 := by
  intro n
  induction n with
  | zero =>
    intro a b c ha hb _ _ hc
    rw [List.eq_nil_of_length_eq_zero (by omega : a.length = 0), List.eq_nil_of_length_eq_zero (by omega : b.length = 0), addO_nil]
    exact ⟨small_lims c, by rw [val_lims]; rfl, lims_len (by omega)⟩
  | succ n ih =>
    intro a b c ha hb sa sb hc
    by_cases h : a = [] ∧ b = []
    · obtain ⟨rfl, rfl⟩ := h
      rw [addO_nil]
      exact ⟨small_lims c, by rw [val_lims]; rfl, by have := lims_len (n := c) (k := 1) (by omega); omega⟩
    · rw [addO_pos h]
      have h1 : a.headD 0 < 1000000000 := by cases a with
        | nil => simp
        | cons x r => exact sa x List.mem_cons_self
      have h2 : b.headD 0 < 1000000000 := by cases b with
        | nil => simp
        | cons x r => exact sb x List.mem_cons_self
      obtain ⟨i1, i2, i3⟩ := ih a.tail b.tail ((c + a.headD 0 + b.headD 0) / 1000000000) (by rw [List.length_tail]; omega) (by rw [List.length_tail]; omega) (fun x hx => sa x (List.mem_of_mem_tail hx)) (fun x hx => sb x (List.mem_of_mem_tail hx)) (by omega)
      refine ⟨fun x hx => ?_, ?_, by rw [List.length_cons]; omega⟩
      · rcases List.mem_cons.1 hx with rfl | hx
        · exact Nat.mod_lt _ (by omega)
        · exact i1 x hx
      · show _ + 1000000000 * val _ = _
        rw [i2, val_head a, val_head b]
        omega
theorem lim_at (l : List Nat) (i : Nat) : (l.drop i).headD 0 = if h : i < l.length then l[i] else 0 := by
  by_cases h : i < l.length
  · rw [dif_pos h, List.drop_eq_getElem_cons h]; rfl
  · rw [dif_neg h, List.drop_of_length_le (by omega)]; rfl
theorem addNat_ok [Tel] (s : St) (v w : AV) (l m : List Nat) (hr : Room s) (hn : s.n.val ≤ 50000) (hl : l.length ≤ 1000) (hm : m.length ≤ 1000) (hv : Nats s v l) (hw : Nats s w m) : CA F.ref1_AddNat [v, w] s = .ok (avT (addO (hd l) (hd m) 0)) s := by
  have e1 := natIs_small (hd_is l)
  have e2 := natIs_small (hd_is m)
  have e3 := hd_len l
  have e4 := hd_len m
  refine fn_of code_ref1_AddNat (by simp) ?_
  simp only [go_sem, ↓reduceIte, Nat.reduceMod, Nat.reduceEqDiff, Nat.reduceAdd, Nat.reduceMul, Nat.reduceSub, Nat.reduceLeDiff, Nat.reduceLT, Int.reduceEq, Int.reduceLT, Int.reduceLE, Int.reduceAdd, Int.reduceSub, Int.reduceNeg, reduceCtorEq, Nat.reduceShiftRight, Nat.reduceAnd, Nat.reduceBNe, ref1_nat_ok (Sx s []) v l hv, ref1_nat_ok (Sx s []) w m hw]
  have hv0 := held_rep hv
  have hw0 := held_rep hw
  generalize hd l = A at *
  generalize hd m = B at *
  generalize (if natIs l = true then v else .nils) = v at hv0 ⊢
  generalize (if natIs m = true then w else .nils) = w at hw0 ⊢
  have hml := (addO_facts 1000 A B 0 (by omega) (by omega) e1 e2 (by omega)).2.2
  refine W_inv (fun k f τ => ∃ (i c : Nat) (out : List Nat) (σ : St) (av : AV), Sx σ [] = τ ∧ Room σ ∧ Ext s σ ∧ σ.n.val ≤ s.n.val + 2 * out.length ∧ k = (max A.length B.length - i) * 10 + c ∧ c ≤ 2 ∧ i ≤ 1100 ∧ out.length = i ∧ out ++ addO (A.drop i) (B.drop i) c = addO A B 0 ∧ OwnN s.n.val σ av out ∧ (vv 5).get f = v ∧ (vv 6).get f = w ∧ (vv 7).get f = av ∧ (vv 8).get f = .int .u64 (c : Int) ∧ (vv 9).get f = .int .i64 (i : Int)) ?_ ⟨0, 0, [], s, .nils, rfl, hr, Ext.refl s, by simp, rfl, by omega, by omega, rfl, by simp, .inl ⟨rfl, rfl⟩, ?_, ?_, ?_, ?_, ?_⟩
  · rintro k f τ ⟨i, c, out, σ, av, rfl, hr1, hx, hn1, rfl, hc, hi, hol, hch, own, g5, g6, g7, g8, g9⟩
    have hv1 := hv0.x hx
    have hw1 := hw0.x hx
    have hol2 : out.length ≤ (addO A B 0).length := by rw [← hch, List.length_append]; omega
    have emx : max (A.length : Int) (B.length : Int) = ((max A.length B.length : Nat) : Int) := by omega
    by_cases c1 : i < max A.length B.length
    · have c1' : (i : Int) < ((max A.length B.length : Nat) : Int) := by omega
      have hnn : ¬ (A.drop i = [] ∧ B.drop i = []) := by
        rintro ⟨h1, h2⟩
        rw [List.drop_eq_nil_iff] at h1 h2
        omega
      rw [addO_pos hnn, List.tail_drop, List.tail_drop] at hch
      have hA := lim_at A i
      have hB := lim_at B i
      have fin : ∀ q : Nat, q = c + (A.drop i).headD 0 + (B.drop i).headD 0 → q ≤ 2000000002 → ∃ σ' av', (vapp 1 4 av (.sl (nm σ 0) 0 1 1 0) (Sx σ [.cells [.int .u32 ((q % 1000000000 : Nat) : Int)]]) = .ok av' (Sx σ' []) ∧ Room σ' ∧ σ'.n.val = σ.n.val + 1 + 1 ∧ OwnN s.n.val σ' av' (out ++ [q % 1000000000]) ∧ ∀ c : Vm.Id, c.val < s.n.val → σ'.obj c = σ.obj c) := fun q _ _ => own_app hr1 hx.n own (q % 1000000000) (L := [.cells [.int .u32 ((q % 1000000000 : Nat) : Int)]]) (by simp) (by simp; omega) (by omega) (i := 0) rfl
      by_cases a1 : i < A.length
      · rw [dif_pos a1] at hA
        have hai : A[i] < 1000000000 := e1 _ (List.getElem_mem a1)
        have hua : vload false 1 (elp v i) (Sx σ []) = .ok (.int .u32 (A[i] : Int)) (Sx σ []) := hv1.u32 a1 (Ext.refl σ)
        generalize A[i] = x at *
        have w1 : IntKind.wrap .u64 (x : Int) = (x : Int) := wrap_u64 (by omega) (by omega)
        have w2 : IntKind.wrap .u64 ((c : Int) + (x : Int)) = ((c + x : Nat) : Int) := by rw [wrap_u64 (by omega) (by omega)]; omega
        by_cases b1 : i < B.length
        · rw [dif_pos b1] at hB
          have hbi : B[i] < 1000000000 := e2 _ (List.getElem_mem b1)
          have hub : vload false 1 (elp w i) (Sx σ []) = .ok (.int .u32 (B[i] : Int)) (Sx σ []) := hw1.u32 b1 (Ext.refl σ)
          generalize B[i] = y at *
          have w3 : IntKind.wrap .u64 (y : Int) = (y : Int) := wrap_u64 (by omega) (by omega)
          have w4 : IntKind.wrap .u64 (((c + x : Nat) : Int) + (y : Int)) = ((c + x + y : Nat) : Int) := by rw [wrap_u64 (by omega) (by omega)]; omega
          rw [hA, hB] at hch fin
          generalize hq : c + x + y = q at *
          obtain ⟨σ', av', hap, hr2, hn2, own2, hold⟩ := fin q rfl (by omega)
          have w5 : IntKind.wrap .u32 ((q % 1000000000 : Nat) : Int) = ((q % 1000000000 : Nat) : Int) := wrap_u32 (by omega) (by omega)
          simp only [go_sem, ↓reduceIte, Nat.reduceMod, Nat.reduceEqDiff, Nat.reduceAdd, Nat.reduceMul, Nat.reduceSub, Nat.reduceLeDiff, Nat.reduceLT, Int.reduceEq, Int.reduceLT, Int.reduceLE, Int.reduceAdd, Int.reduceSub, Int.reduceNeg, reduceCtorEq, Nat.reduceShiftRight, Nat.reduceAnd, Nat.reduceBNe, g5, g6, g7, g8, g9, vmm_max, emx, c1', Int.ofNat_lt, a1, b1, hv1.vlen, hw1.vlen, hv1.ia a1, hw1.ia b1, hua, hub, w1, w2, w3, w4, w5, rem_u64, hr1, hap, quo_u64 (show q ≤ 18446744073709551615 by omega)]
          refine ⟨(max A.length B.length - (i + 1)) * 10 + q / 1000000000, by omega, i + 1, q / 1000000000, out ++ [q % 1000000000], σ', av', Sx_nil _, hr2, ⟨by have := hx.n; omega, fun c hc => (hold c hc).trans (hx.old c hc)⟩, ?_, rfl, by omega, by omega, by simp [hol], ?_, own2, ?_⟩
          · rw [hn2]; simp; omega
          · rw [List.append_assoc]; exact hch
          · rw [wrap_i64 (by omega) (by omega)]; exact ⟨rfl, rfl, rfl⟩
        · rw [dif_neg b1] at hB
          rw [hA, hB, Nat.add_zero] at hch fin
          generalize hq : c + x = q at *
          obtain ⟨σ', av', hap, hr2, hn2, own2, hold⟩ := fin q rfl (by omega)
          have w5 : IntKind.wrap .u32 ((q % 1000000000 : Nat) : Int) = ((q % 1000000000 : Nat) : Int) := wrap_u32 (by omega) (by omega)
          simp only [go_sem, ↓reduceIte, Nat.reduceMod, Nat.reduceEqDiff, Nat.reduceAdd, Nat.reduceMul, Nat.reduceSub, Nat.reduceLeDiff, Nat.reduceLT, Int.reduceEq, Int.reduceLT, Int.reduceLE, Int.reduceAdd, Int.reduceSub, Int.reduceNeg, reduceCtorEq, Nat.reduceShiftRight, Nat.reduceAnd, Nat.reduceBNe, g5, g6, g7, g8, g9, vmm_max, emx, c1', Int.ofNat_lt, a1, b1, hv1.vlen, hw1.vlen, hv1.ia a1, hua, w1, w2, w5, rem_u64, hr1, hap, quo_u64 (show q ≤ 18446744073709551615 by omega)]
          refine ⟨(max A.length B.length - (i + 1)) * 10 + q / 1000000000, by omega, i + 1, q / 1000000000, out ++ [q % 1000000000], σ', av', Sx_nil _, hr2, ⟨by have := hx.n; omega, fun c hc => (hold c hc).trans (hx.old c hc)⟩, ?_, rfl, by omega, by omega, by simp [hol], ?_, own2, ?_⟩
          · rw [hn2]; simp; omega
          · rw [List.append_assoc]; exact hch
          · rw [wrap_i64 (by omega) (by omega)]; exact ⟨rfl, rfl, rfl⟩
      · rw [dif_neg a1] at hA
        have b1 : i < B.length := by omega
        rw [dif_pos b1] at hB
        have hbi : B[i] < 1000000000 := e2 _ (List.getElem_mem b1)
        have hub : vload false 1 (elp w i) (Sx σ []) = .ok (.int .u32 (B[i] : Int)) (Sx σ []) := hw1.u32 b1 (Ext.refl σ)
        generalize B[i] = y at *
        have w3 : IntKind.wrap .u64 (y : Int) = (y : Int) := wrap_u64 (by omega) (by omega)
        have w4 : IntKind.wrap .u64 ((c : Int) + (y : Int)) = ((c + y : Nat) : Int) := by rw [wrap_u64 (by omega) (by omega)]; omega
        rw [hA, hB, Nat.add_zero] at hch fin
        generalize hq : c + y = q at *
        obtain ⟨σ', av', hap, hr2, hn2, own2, hold⟩ := fin q rfl (by omega)
        have w5 : IntKind.wrap .u32 ((q % 1000000000 : Nat) : Int) = ((q % 1000000000 : Nat) : Int) := wrap_u32 (by omega) (by omega)
        simp only [go_sem, ↓reduceIte, Nat.reduceMod, Nat.reduceEqDiff, Nat.reduceAdd, Nat.reduceMul, Nat.reduceSub, Nat.reduceLeDiff, Nat.reduceLT, Int.reduceEq, Int.reduceLT, Int.reduceLE, Int.reduceAdd, Int.reduceSub, Int.reduceNeg, reduceCtorEq, Nat.reduceShiftRight, Nat.reduceAnd, Nat.reduceBNe, g5, g6, g7, g8, g9, vmm_max, emx, c1', Int.ofNat_lt, a1, b1, hv1.vlen, hw1.vlen, hw1.ia b1, hub, w3, w4, w5, rem_u64, hr1, hap, quo_u64 (show q ≤ 18446744073709551615 by omega)]
        refine ⟨(max A.length B.length - (i + 1)) * 10 + q / 1000000000, by omega, i + 1, q / 1000000000, out ++ [q % 1000000000], σ', av', Sx_nil _, hr2, ⟨by have := hx.n; omega, fun c hc => (hold c hc).trans (hx.old c hc)⟩, ?_, rfl, by omega, by omega, by simp [hol], ?_, own2, ?_⟩
        · rw [hn2]; simp; omega
        · rw [List.append_assoc]; exact hch
        · rw [wrap_i64 (by omega) (by omega)]; exact ⟨rfl, rfl, rfl⟩
    · have c1' : ¬ (i : Int) < ((max A.length B.length : Nat) : Int) := by omega
      have a1 : ¬ i < A.length := by omega
      have b1 : ¬ i < B.length := by omega
      rw [List.drop_of_length_le (by omega), List.drop_of_length_le (by omega), addO_nil] at hch
      by_cases c2 : c = 0
      · have c2' : ¬ (0 : Int) < (c : Int) := by omega
        rw [c2, lims_0, List.append_nil] at hch
        obtain ⟨r, ht, hone, hset⟩ := trim_fn2 own hx (by omega)
        rw [hch] at hset
        simp only [go_sem, ↓reduceIte, Nat.reduceMod, Nat.reduceEqDiff, Nat.reduceAdd, Nat.reduceMul, Nat.reduceSub, Nat.reduceLeDiff, Nat.reduceLT, Int.reduceEq, Int.reduceLT, Int.reduceLE, Int.reduceAdd, Int.reduceSub, Int.reduceNeg, reduceCtorEq, Nat.reduceShiftRight, Nat.reduceAnd, Nat.reduceBNe, g5, g6, g7, g8, g9, vmm_max, emx, c1', hv1.vlen, hw1.vlen, c2', ht, hone]
        exact hset
      · have c2' : (0 : Int) < (c : Int) := by omega
        rw [lims_pos c2] at hch
        have hi2 : i ≤ 1001 := by have := congrArg List.length hch; rw [List.length_append] at this; omega
        have w5 : IntKind.wrap .u32 ((c % 1000000000 : Nat) : Int) = ((c % 1000000000 : Nat) : Int) := wrap_u32 (by omega) (by omega)
        obtain ⟨σ', av', hap, hr2, hn2, own2, hold⟩ := own_app hr1 hx.n own (c % 1000000000) (L := [.cells [.int .u32 ((c % 1000000000 : Nat) : Int)]]) (by simp) (by simp; omega) (by omega) (i := 0) rfl
        simp only [go_sem, ↓reduceIte, Nat.reduceMod, Nat.reduceEqDiff, Nat.reduceAdd, Nat.reduceMul, Nat.reduceSub, Nat.reduceLeDiff, Nat.reduceLT, Int.reduceEq, Int.reduceLT, Int.reduceLE, Int.reduceAdd, Int.reduceSub, Int.reduceNeg, reduceCtorEq, Nat.reduceShiftRight, Nat.reduceAnd, Nat.reduceBNe, g5, g6, g7, g8, g9, vmm_max, emx, c1', Int.ofNat_lt, a1, b1, hv1.vlen, hw1.vlen, c2', w5, rem_u64, hr1, hap, quo_u64 (show c ≤ 18446744073709551615 by omega)]
        refine ⟨(max A.length B.length - (i + 1)) * 10 + c / 1000000000, by omega, i + 1, c / 1000000000, out ++ [c % 1000000000], σ', av', Sx_nil _, hr2, ⟨by have := hx.n; omega, fun c hc => (hold c hc).trans (hx.old c hc)⟩, ?_, rfl, by omega, by omega, by simp [hol], ?_, own2, ?_⟩
        · rw [hn2]; simp; omega
        · rw [List.drop_of_length_le (by omega), List.drop_of_length_le (by omega), addO_nil, List.append_assoc]; exact hch
        · rw [wrap_i64 (by omega) (by omega)]; exact ⟨rfl, rfl, rfl⟩
  · simp only [go_sem, ↓reduceIte, Nat.reduceMod, Nat.reduceEqDiff, Nat.reduceAdd, Nat.reduceMul, Nat.reduceSub, Nat.reduceLeDiff, Nat.reduceLT, Int.reduceEq, Int.reduceLT, Int.reduceLE, Int.reduceAdd, Int.reduceSub, Int.reduceNeg, reduceCtorEq, Nat.reduceShiftRight, Nat.reduceAnd, Nat.reduceBNe]
  · simp only [go_sem, ↓reduceIte, Nat.reduceMod, Nat.reduceEqDiff, Nat.reduceAdd, Nat.reduceMul, Nat.reduceSub, Nat.reduceLeDiff, Nat.reduceLT, Int.reduceEq, Int.reduceLT, Int.reduceLE, Int.reduceAdd, Int.reduceSub, Int.reduceNeg, reduceCtorEq, Nat.reduceShiftRight, Nat.reduceAnd, Nat.reduceBNe]
  · simp only [go_sem, ↓reduceIte, Nat.reduceMod, Nat.reduceEqDiff, Nat.reduceAdd, Nat.reduceMul, Nat.reduceSub, Nat.reduceLeDiff, Nat.reduceLT, Int.reduceEq, Int.reduceLT, Int.reduceLE, Int.reduceAdd, Int.reduceSub, Int.reduceNeg, reduceCtorEq, Nat.reduceShiftRight, Nat.reduceAnd, Nat.reduceBNe]
  · simp only [go_sem, ↓reduceIte, Nat.reduceMod, Nat.reduceEqDiff, Nat.reduceAdd, Nat.reduceMul, Nat.reduceSub, Nat.reduceLeDiff, Nat.reduceLT, Int.reduceEq, Int.reduceLT, Int.reduceLE, Int.reduceAdd, Int.reduceSub, Int.reduceNeg, reduceCtorEq, Nat.reduceShiftRight, Nat.reduceAnd, Nat.reduceBNe]
    rfl
  · simp only [go_sem, ↓reduceIte, Nat.reduceMod, Nat.reduceEqDiff, Nat.reduceAdd, Nat.reduceMul, Nat.reduceSub, Nat.reduceLeDiff, Nat.reduceLT, Int.reduceEq, Int.reduceLT, Int.reduceLE, Int.reduceAdd, Int.reduceSub, Int.reduceNeg, reduceCtorEq, Nat.reduceShiftRight, Nat.reduceAnd, Nat.reduceBNe]
    rfl
end Go.Proofs.YtkdkojnlimadnaaDoor
namespace Go.Proofs.YtkdkojnlimadnaaDoor
open Go Go.Vm
set_option linter.unusedVariables false
set_option linter.unusedSimpArgs false
theorem vapp_nn {s : St} {L : List AO} (hr : Room s) (hl : L.length ≤ 5000) {i : Nat} {a : AV} (hi : L[i]? = some (.cells [a])) : vapp 1 4 (.sl (nm s i) 0 1 1 0) .nils (Sx s L) = .ok (.sl (nm s i) 0 1 1 0) (Sx s L) := by
  have h := Sx_obj? hr hl hi
  have e : vapp 1 4 (.sl (nm s i) 0 1 1 0) .nils (Sx s L) = ((Sx s L).obj (nm s i)).onCells .no fun cs => br (Nat.ble (Nat.add 0 (Nat.mul 1 1)) (ln cs)) (br (Nat.ble (Nat.add 1 0) 1) (.ok (.sl (nm s i) 0 (Nat.add 1 0) 1 0) ((Sx s L).put (nm s i) (.cells (splice (Nat.add 0 (Nat.mul 1 1)) [] cs)))) (br (Nat.beq 0 0) (grown (Sx s L) 1 4 (Nat.add 1 0) (apd (tk (Nat.mul 1 1) (dr 0 cs)) [])) (br (Nat.beq 0 1) (grown ((Sx s L).put (nm s i) .dead) 1 4 (Nat.add 1 0) (apd (tk (Nat.mul 1 1) (dr 0 cs)) [])) .no))) .no := by rfl
  rw [e, h]
  show R.ok (.sl (nm s i) 0 1 1 0) ((Sx s L).put (nm s i) (.cells [a])) = _
  rw [Sx_put hr hl (List.getElem?_eq_some_iff.1 hi).1]
  congr 2
  obtain ⟨h1, h2⟩ := List.getElem?_eq_some_iff.1 hi
  rw [← h2, List.set_getElem_self]
theorem trim_ok0 [Tel] (s : St) (b : Vm.Id) (hb : b.val < s.n.val) (ho : s.obj b = .cells (cellsN [0])) : CA F.ref1_trim [.sl b 0 1 1 0] s = .ok (.sl b 0 0 1 0) s := by
  have w0 : (Sx s []).obj b = .cells (cellsN [0]) := ho
  have hw := fun σ => wrap1_at (cellsN_at (l := [0]) (i := 0) (by simp)) σ
  have hia : ∀ σ, viaddr 1 (.sl b 0 1 1 0) (.int .i64 0) σ = .ok (.ptr b 0) σ := fun σ => viaddr_sl (i := 0) (by omega) σ
  have hv : ∀ σ, vslhi 1 (.sl b 0 1 1 0) (.int .i64 0) σ = .ok (.sl b 0 0 1 0) σ := fun σ => vslhi_eq (h := 0) (by omega) σ
  have hl0 : vload false 1 (.ptr b 0) (Sx s []) = .ok (.int .u32 0) (Sx s []) := by
    show vcells ((Sx s []).obj b) _ = _
    rw [w0]; rfl
  have c1 : (0 : Int) < ((1 : Nat) : Int) := by decide
  have e1 : IntKind.wrap .i64 (((1 : Nat) : Int) - 1) = 0 := by decide
  refine fn_of code_ref1_trim (by simp) ?_
  simp only [go_sem, ↓reduceIte, Nat.reduceMod, Nat.reduceEqDiff, Nat.reduceAdd, Nat.reduceMul, Nat.reduceSub, Nat.reduceLeDiff, Nat.reduceLT, Int.reduceEq, Int.reduceLT, Int.reduceLE, Int.reduceAdd, Int.reduceSub, Int.reduceNeg, reduceCtorEq, Nat.reduceShiftRight, Nat.reduceAnd, Nat.reduceBNe]
  rw [W_loop]
  simp only [go_sem, ↓reduceIte, Nat.reduceMod, Nat.reduceEqDiff, Nat.reduceAdd, Nat.reduceMul, Nat.reduceSub, Nat.reduceLeDiff, Nat.reduceLT, Int.reduceEq, Int.reduceLT, Int.reduceLE, Int.reduceAdd, Int.reduceSub, Int.reduceNeg, reduceCtorEq, Nat.reduceShiftRight, Nat.reduceAnd, Nat.reduceBNe, c1, hia, hl0, e1]
  rw [W_loop]
  simp only [go_sem, ↓reduceIte, Nat.reduceMod, Nat.reduceEqDiff, Nat.reduceAdd, Nat.reduceMul, Nat.reduceSub, Nat.reduceLeDiff, Nat.reduceLT, Int.reduceEq, Int.reduceLT, Int.reduceLE, Int.reduceAdd, Int.reduceSub, Int.reduceNeg, reduceCtorEq, Nat.reduceShiftRight, Nat.reduceAnd, Nat.reduceBNe, hv]
  exact settled_ov (Ext.refl s) (ov_sl hb _ _ _ _)
noncomputable def avZ : AV := .ts (cellsN [0]) 0 0 false
theorem avZ_nats (t : St) : Nats t avZ [] := nats_trim (s := t) [0] (by simp) 0 false
theorem shift_ok [Tel] (s : St) (hr : Room s) (hn : s.n.val ≤ 59000) : CA F.ref1_shift [.nils, .int .u32 0] s = .ok avZ s := by
  have hr1 : Room (Sx s [.cells [.int .u32 0]]) := hr.Sx (by simp; omega) (by simp)
  have hap := vapp_nn (s := s) (L := [.cells [.int .u32 0]]) hr (by simp) (i := 0) rfl
  have hob := Sx_obj? (s := s) (l := [.cells [.int .u32 0]]) hr (by simp) (i := 0) rfl
  have hb : (nm s 0).val < (Sx s [.cells [.int .u32 0]]).n.val := by rw [nm_val hr (by omega), Sx_n hr (by simp)]; simp
  have ht := trim_ok0 (Sx s [.cells [.int .u32 0]]) (nm s 0) hb hob
  refine fn_of code_ref1_shift (by simp) ?_
  simp only [go_sem, ↓reduceIte, Nat.reduceMod, Nat.reduceEqDiff, Nat.reduceAdd, Nat.reduceMul, Nat.reduceSub, Nat.reduceLeDiff, Nat.reduceLT, Int.reduceEq, Int.reduceLT, Int.reduceLE, Int.reduceAdd, Int.reduceSub, Int.reduceNeg, reduceCtorEq, Nat.reduceShiftRight, Nat.reduceAnd, Nat.reduceBNe, hr, hap, ht]
  refine settled_fz (ext_Sx hr (by simp)) ?_
  unfold avZ
  refine .slN (nm s 0) 0 0 1 0 (cellsN [0]) (cellsN [0]) (by rw [nm_val hr (by omega)]; omega) hob rfl (fun j c d hc hd => ?_)
  have hc' : (cellsN [0])[j]? = some c := hc
  rw [hd] at hc'; cases hc'
  obtain ⟨m, _, rfl⟩ := List.mem_map.mp (List.mem_of_getElem? hd)
  exact .int _ _
theorem hd_lims (x : Nat) : hd (lims x) = lims x := by unfold hd; rw [if_pos (lims_is x)]
theorem lims10 : lims 10 = [10] := by rw [lims_pos (by omega), show (10 : Nat) / 1000000000 = 0 by omega, lims_0]
theorem avT_one (l : List Nat) : (avT l).one = true := by unfold avT; split <;> rfl
/-- What is at the end of ten times a number. -/
noncomputable def out10 (x : Nat) : List Nat := addO [] (lims (10 * x)) 0
theorem out10_facts {x k : Nat} (hx : x < 1000000000 ^ k) (hk : k ≤ 500) : trim0 (out10 x) = lims (10 * x) ∧ (out10 x).length ≤ 502 := by
  have hl : (lims (10 * x)).length ≤ k + 1 := lims_len (by rw [Nat.pow_succ]; omega)
  obtain ⟨h1, h2, h3⟩ := addO_facts 501 [] (lims (10 * x)) 0 (by simp) (by omega) (fun a ha => by cases ha) (small_lims _) (by omega)
  refine ⟨?_, h3⟩
  unfold out10
  rw [trim0_eq h1, h2, val_lims]
  simp [val]
theorem mulNat10_ok [Tel] (s : St) (v : AV) (l : List Nat) (hr : Room s) (hn : s.n.val ≤ 40000) (hl : l.length ≤ 100) (hnat : natIs l = true) (hv : Nats s v l) : CA F.ref1_MulNat [v, avN [10]] s = .ok (avT (out10 (val l))) s := by
  have hL1 : ∀ L : List AO, L.length ≤ 100 → Room (Sx s L) ∧ (Sx s L).n.val ≤ 40100 ∧ Ext s (Sx s L) := fun L hL => ⟨hr.Sx (by omega) (by omega), by rw [Sx_n hr (by omega)]; omega, ext_Sx hr (by omega)⟩
  have hw : ∀ t, Nats t (avN [10]) [10] := fun t => avN_nats t [10] (by simp)
  have n1 := ref1_nat_ok (Sx s []) v l hv
  have n2 := ref1_nat_ok (Sx s []) (avN [10]) [10] (hw _)
  rw [if_pos hnat] at n1
  rw [if_pos (by decide)] at n2
  have t1 := fun L hL => shift_ok (Sx s L) (hL1 L hL).1 (by have := (hL1 L hL).2.1; omega)
  have t2 : ∀ L : List AO, L.length ≤ 100 → CA F.ref1_small [v, .int .u64 10] (Sx s L) = .ok (avT (mulO 10 l 0)) (Sx s L) := fun L hL => small_ok (Sx s L) v l 10 (hL1 L hL).1 (by have := (hL1 L hL).2.1; omega) (by omega) (by omega) (natIs_small hnat) (hv.x (hL1 L hL).2.2)
  have hml := mulO_len 10 (by omega) l 0 (natIs_small hnat) (by omega)
  have etr : trim0 (mulO 10 l 0) = lims (10 * val l) := by rw [trim0_eq (mulO_small _ _ _), mulO_val, Nat.zero_add]
  have hvl := val_lt (natIs_small hnat)
  have hll : (lims (10 * val l)).length ≤ l.length + 1 := lims_len (by rw [Nat.pow_succ]; omega)
  have t3 := fun L hL => addNat_ok (Sx s L) avZ (avT (mulO 10 l 0)) [] (lims (10 * val l)) (hL1 L hL).1 (by have := (hL1 L hL).2.1; omega) (by simp) (by omega) (avZ_nats _) (by rw [← etr]; exact avT_nats _ _ (by omega))
  rw [hd_lims, show hd [] = [] from rfl] at t3
  have hlen10 : ∀ σ, vlen (avN [10]) σ = .ok (.int .i64 1) σ := fun σ => (hw s).vlen σ
  have e1 : IntKind.wrap .i64 0 = 0 := by decide
  have e2 : IntKind.wrap .i64 (-1) = -1 := by decide
  have e3 : ¬ (0 : Int) ≤ -1 := by omega
  have hia : ∀ σ, viaddr 1 (avN [10]) (.int .i64 0) σ = .ok (elp (avN [10]) 0) σ := fun σ => (hw s).ia0 (by simp) 1 .i64 σ
  have hld : ∀ L : List AO, L.length ≤ 100 → vload false 1 (elp (avN [10]) 0) (Sx s L) = .ok (.int .u32 10) (Sx s L) := fun L hL => (hw (Sx s L)).u32 (i := 0) (by simp) (Ext.refl _)
  have e4 : IntKind.wrap .u64 10 = 10 := by decide
  have ho : (avT (out10 (val l))).one = true := avT_one _
  have hov : Ov s.n.val (avT (out10 (val l))) := by
    have := out10_facts (x := val l) (k := l.length) hvl (by omega)
    exact (avT_nats s _ (by omega)).sl.ov
  unfold out10 at *
  generalize avT (addO [] (lims (10 * val l)) 0) = R at *
  generalize avT (mulO 10 l 0) = Q at *
  generalize avN [10] = T at *
  refine fn_of code_ref1_MulNat (by simp) ?_
  simp only [go_sem, ↓reduceIte, Nat.reduceMod, Nat.reduceEqDiff, Nat.reduceAdd, Nat.reduceMul, Nat.reduceSub, Nat.reduceLeDiff, Nat.reduceLT, Int.reduceEq, Int.reduceLT, Int.reduceLE, Int.reduceAdd, Int.reduceSub, Int.reduceNeg, reduceCtorEq, Nat.reduceShiftRight, Nat.reduceAnd, Nat.reduceBNe, n1, n2, hlen10, e1]
  rw [W_loop]
  simp only [go_sem, ↓reduceIte, Nat.reduceMod, Nat.reduceEqDiff, Nat.reduceAdd, Nat.reduceMul, Nat.reduceSub, Nat.reduceLeDiff, Nat.reduceLT, Int.reduceEq, Int.reduceLT, Int.reduceLE, Int.reduceAdd, Int.reduceSub, Int.reduceNeg, reduceCtorEq, Nat.reduceShiftRight, Nat.reduceAnd, Nat.reduceBNe, e1]
  refine W_drawn hr _ (by simp) ?_
  simp only [go_sem, ↓reduceIte, Nat.reduceMod, Nat.reduceEqDiff, Nat.reduceAdd, Nat.reduceMul, Nat.reduceSub, Nat.reduceLeDiff, Nat.reduceLT, Int.reduceEq, Int.reduceLT, Int.reduceLE, Int.reduceAdd, Int.reduceSub, Int.reduceNeg, reduceCtorEq, Nat.reduceShiftRight, Nat.reduceAnd, Nat.reduceBNe, hr, t1, t2, t3, hia, hld, e4, e2]
  rw [W_loop]
  simp only [go_sem, ↓reduceIte, Nat.reduceMod, Nat.reduceEqDiff, Nat.reduceAdd, Nat.reduceMul, Nat.reduceSub, Nat.reduceLeDiff, Nat.reduceLT, Int.reduceEq, Int.reduceLT, Int.reduceLE, Int.reduceAdd, Int.reduceSub, Int.reduceNeg, reduceCtorEq, Nat.reduceShiftRight, Nat.reduceAnd, Nat.reduceBNe, e3]
  exact settled_ov (ext_Sx hr (by simp)) hov
end Go.Proofs.YtkdkojnlimadnaaDoor
namespace Go.Proofs.YtkdkojnlimadnaaDoor
open Go Go.Vm
set_option linter.unusedVariables false
set_option linter.unusedSimpArgs false
theorem zIs_f (l : List Nat) (h : natIs l = true) : zIs ⟨false, l⟩ = true := by unfold zIs; rw [h]; rfl
theorem avT_ov {n : Nat} (l : List Nat) (hl : l.length ≤ 140737488355328) (s : St) (hn : s.n.val = n) : Ov n (avT l) := by rw [← hn]; exact (avT_nats s l hl).sl.ov
theorem mul10_ok [Tel] (s : St) (v : AV) (l : List Nat) (hr : Room s) (hn : s.n.val ≤ 30000) (hl : l.length ≤ 100) (hnat : natIs l = true) (hv : Nats s v l) : CA F.ref1_Mul [.agg [.bool false, v], .agg [.bool false, avN [10]]] s = .ok (.agg [.bool false, avT (out10 (val l))]) s := by
  have hL1 : ∀ L : List AO, L.length ≤ 100 → Room (Sx s L) ∧ (Sx s L).n.val ≤ 30100 ∧ Ext s (Sx s L) := fun L hL => ⟨hr.Sx (by omega) (by omega), by rw [Sx_n hr (by omega)]; omega, ext_Sx hr (by omega)⟩
  have hw : ∀ t, Nats t (avN [10]) [10] := fun t => avN_nats t [10] (by simp)
  have m1 := fun L hL => may_ok (Sx s L) (.bool false) v ⟨false, l⟩ (hL1 L hL).1 (by have := (hL1 L hL).2.1; omega) ⟨rfl, hv.x (hL1 L hL).2.2⟩
  have m2 := fun L hL => may_ok (Sx s L) (.bool false) (avN [10]) ⟨false, [10]⟩ (hL1 L hL).1 (by have := (hL1 L hL).2.1; omega) ⟨rfl, hw _⟩
  rw [if_pos (zIs_f l hnat)] at m1
  rw [if_pos (zIs_f [10] (by decide))] at m2
  have m3 := fun L hL => mulNat10_ok (Sx s L) v l (hL1 L hL).1 (by have := (hL1 L hL).2.1; omega) hl hnat (hv.x (hL1 L hL).2.2)
  obtain ⟨f1, f2⟩ := out10_facts (x := val l) (k := l.length) (val_lt (natIs_small hnat)) (by omega)
  have m4 := fun L (hL : L.length ≤ 100) => ref1_sign_ok (Sx s L) false (avT (out10 (val l))) (trim0 (out10 (val l))) (hL1 L hL).1 (avT_nats _ _ (by omega))
  simp only [Bool.false_and] at m4
  have ho : (avT (out10 (val l))).one = true := avT_one _
  have hv1 : v.one = true := hv.one
  have ht1 : (avN [10]).one = true := avN_one _
  have hov : Ov s.n.val (avT (out10 (val l))) := avT_ov _ (by omega) s rfl
  generalize avT (out10 (val l)) = R at *
  generalize avN [10] = T at *
  refine fn_of code_ref1_Mul (by simp) ?_
  simp only [go_sem, ↓reduceIte, Nat.reduceMod, Nat.reduceEqDiff, Nat.reduceAdd, Nat.reduceMul, Nat.reduceSub, Nat.reduceLeDiff, Nat.reduceLT, Int.reduceEq, Int.reduceLT, Int.reduceLE, Int.reduceAdd, Int.reduceSub, Int.reduceNeg, reduceCtorEq, Nat.reduceShiftRight, Nat.reduceAnd, Nat.reduceBNe, hr]
  refine W_drawn hr _ (by simp) ?_
  simp only [go_sem, ↓reduceIte, Nat.reduceMod, Nat.reduceEqDiff, Nat.reduceAdd, Nat.reduceMul, Nat.reduceSub, Nat.reduceLeDiff, Nat.reduceLT, Int.reduceEq, Int.reduceLT, Int.reduceLE, Int.reduceAdd, Int.reduceSub, Int.reduceNeg, reduceCtorEq, Nat.reduceShiftRight, Nat.reduceAnd, Nat.reduceBNe, hr, m1, m2, hv1, ht1]
  refine W_drawn hr _ (by simp) ?_
  simp only [go_sem, ↓reduceIte, Nat.reduceMod, Nat.reduceEqDiff, Nat.reduceAdd, Nat.reduceMul, Nat.reduceSub, Nat.reduceLeDiff, Nat.reduceLT, Int.reduceEq, Int.reduceLT, Int.reduceLE, Int.reduceAdd, Int.reduceSub, Int.reduceNeg, reduceCtorEq, Nat.reduceShiftRight, Nat.reduceAnd, Nat.reduceBNe, ne_eq, not_true_eq_false, decide_false, hr, m3, m4, hv1, ht1, ho, Bool.not_true, Bool.not_false, decide_true]
  exact settled_ov (ext_Sx hr (by simp)) (ov2 (ov_bool _ _) hov)
theorem add0_ok [Tel] (s : St) (v w : AV) (l m : List Nat) (hr : Room s) (hn : s.n.val ≤ 30000) (hl : l.length ≤ 400) (hm : m.length ≤ 400) (hv : Nats s v l) (hw : Nats s w m) (n1 : natIs l = true) (n2 : natIs m = true) : CA F.ref1_Add [.agg [.bool false, v], .agg [.bool false, w]] s = .ok (.agg [.bool false, avT (addO l m 0)]) s := by
  have hL1 : ∀ L : List AO, L.length ≤ 100 → Room (Sx s L) ∧ (Sx s L).n.val ≤ 30100 ∧ Ext s (Sx s L) := fun L hL => ⟨hr.Sx (by omega) (by omega), by rw [Sx_n hr (by omega)]; omega, ext_Sx hr (by omega)⟩
  have m1 := fun L hL => may_ok (Sx s L) (.bool false) v ⟨false, l⟩ (hL1 L hL).1 (by have := (hL1 L hL).2.1; omega) ⟨rfl, hv.x (hL1 L hL).2.2⟩
  have m2 := fun L hL => may_ok (Sx s L) (.bool false) w ⟨false, m⟩ (hL1 L hL).1 (by have := (hL1 L hL).2.1; omega) ⟨rfl, hw.x (hL1 L hL).2.2⟩
  rw [if_pos (zIs_f l n1)] at m1
  rw [if_pos (zIs_f m n2)] at m2
  have m3 := fun L hL => addNat_ok (Sx s L) v w l m (hL1 L hL).1 (by have := (hL1 L hL).2.1; omega) (by omega) (by omega) (hv.x (hL1 L hL).2.2) (hw.x (hL1 L hL).2.2)
  rw [show hd l = l by unfold hd; rw [if_pos n1], show hd m = m by unfold hd; rw [if_pos n2]] at m3
  have hlen := (addO_facts 400 l m 0 (by omega) (by omega) (natIs_small n1) (natIs_small n2) (by omega)).2.2
  have m4 := fun L (hL : L.length ≤ 100) => ref1_sign_ok (Sx s L) false (avT (addO l m 0)) (trim0 (addO l m 0)) (hL1 L hL).1 (avT_nats _ _ (by omega))
  simp only [Bool.false_and] at m4
  have ho : (avT (addO l m 0)).one = true := avT_one _
  have hv1 : v.one = true := hv.one
  have hw1 : w.one = true := hw.one
  have hov : Ov s.n.val (avT (addO l m 0)) := avT_ov _ (by omega) s rfl
  generalize avT (addO l m 0) = R at *
  refine fn_of code_ref1_Add (by simp) ?_
  simp only [go_sem, ↓reduceIte, Nat.reduceMod, Nat.reduceEqDiff, Nat.reduceAdd, Nat.reduceMul, Nat.reduceSub, Nat.reduceLeDiff, Nat.reduceLT, Int.reduceEq, Int.reduceLT, Int.reduceLE, Int.reduceAdd, Int.reduceSub, Int.reduceNeg, reduceCtorEq, Nat.reduceShiftRight, Nat.reduceAnd, Nat.reduceBNe, hr]
  refine W_drawn hr _ (by simp) ?_
  simp only [go_sem, ↓reduceIte, Nat.reduceMod, Nat.reduceEqDiff, Nat.reduceAdd, Nat.reduceMul, Nat.reduceSub, Nat.reduceLeDiff, Nat.reduceLT, Int.reduceEq, Int.reduceLT, Int.reduceLE, Int.reduceAdd, Int.reduceSub, Int.reduceNeg, reduceCtorEq, Nat.reduceShiftRight, Nat.reduceAnd, Nat.reduceBNe, hr, m1, m2, hv1, hw1, Bool.not_true, Bool.not_false, decide_true]
  refine W_drawn hr _ (by simp) ?_
  simp only [go_sem, ↓reduceIte, Nat.reduceMod, Nat.reduceEqDiff, Nat.reduceAdd, Nat.reduceMul, Nat.reduceSub, Nat.reduceLeDiff, Nat.reduceLT, Int.reduceEq, Int.reduceLT, Int.reduceLE, Int.reduceAdd, Int.reduceSub, Int.reduceNeg, reduceCtorEq, Nat.reduceShiftRight, Nat.reduceAnd, Nat.reduceBNe, hr, m3, m4, hv1, hw1, ho, Bool.not_true, Bool.not_false, decide_true]
  exact settled_ov (ext_Sx hr (by simp)) (ov2 (ov_bool _ _) hov)
end Go.Proofs.YtkdkojnlimadnaaDoor
namespace Go.Vm
set_option linter.unusedVariables false
noncomputable def vpaddr (n sz : Nat) (p i : AV) (s : St) : R := p.onPtr .no (fun b o => i.idx n fun m => .ok (.ptr b (o + m * sz)) s) fun _ => .no
theorem p_paddr (call : CallT) (f : Fr AV) (s : St) (n sz : Nat) (x i : CO) : exop (.paddr n sz x i) call f s = vpaddr n sz (ev1 f x) (ev1 f i) s := nd rfl
theorem vpaddr_ptr {n m : Nat} (h : m < n) (j : IntKind) (b : Id) (o : Nat) (s : St) : vpaddr n 1 (.ptr b o) (.int j (m : Int)) s = .ok (.ptr b (o + m)) s := by
  show (AV.int j (m : Int)).idx n (fun m => R.ok (.ptr b (o + m * 1)) s) = _
  rw [idx_eq (by omega) (by omega)]; simp
attribute [go_sem] p_paddr
end Go.Vm
namespace Go.Proofs.YtkdkojnlimadnaaDoor
open Go Go.Vm Go.Lib
set_option linter.unusedVariables false
set_option linter.unusedSimpArgs false
theorem dec_facts : ∀ (n : Nat), 1 ≤ n → (decDigits n).all isDig = true ∧ (∃ c r, decDigits n = c :: r ∧ 49 ≤ c.toNat) ∧ dv (decDigits n) = n := by
  intro n
  induction n using Nat.strongRecOn with
  | _ n ih =>
    intro h1
    have dig : ∀ k, k < 10 → isDig (UInt8.ofNat (48 + k)) = true ∧ (UInt8.ofNat (48 + k)).toNat = 48 + k := fun k hk => by
      have := dig_toNat hk
      refine ⟨?_, this⟩
      unfold isDig
      simp only [this, Bool.and_eq_true, decide_eq_true_eq]; omega
    by_cases h : n < 10
    · rw [dec_small h]
      obtain ⟨d1, d2⟩ := dig n h
      refine ⟨by rw [List.all_cons, d1]; rfl, ⟨_, [], rfl, by omega⟩, ?_⟩
      have : dv [UInt8.ofNat (48 + n)] = (UInt8.ofNat (48 + n)).toNat - 48 := by show 10 * 0 + _ = _; omega
      rw [this, d2]; omega
    · rw [dec_big h]
      obtain ⟨i1, ⟨c, r, i2, i3⟩, i4⟩ := ih (n / 10) (by omega) (by omega)
      obtain ⟨d1, d2⟩ := dig (n % 10) (by omega)
      refine ⟨by rw [List.all_append, i1, List.all_cons, d1]; rfl, ⟨c, r ++ [UInt8.ofNat (48 + n % 10)], by rw [i2]; rfl, i3⟩, ?_⟩
      rw [dv_snoc, i4, d2]; omega
theorem num_bad {l : List UInt8} (h : l.all isDig = false) : isNum l = false := by unfold isNum; rw [h]; rfl
theorem parse_in {d : List UInt8} (h : d.all isDig = false) : parseZ (inSign d) = (⟨false, []⟩, 10) := by rw [parse_sign]; unfold parseR; rw [if_pos (.inl (num_bad h))]
theorem parse_out {l : List UInt8} (hp : hasPrefix l [40, 45, 32] = false) (h : l.all isDig = false) : parseZ l = (⟨false, []⟩, 10) := by
  unfold parseZ; rw [hp]
  show parseR false l = _
  unfold parseR; rw [if_pos (.inl (num_bad h))]
theorem signs_ok (s : St) (n w : Nat) (hr : Room s) (hn : s.n.val ≤ 10000) (h1 : n ≤ 4294967295) (h2 : w ≤ 255) : CA F.law3_DigitsSigns [.int .u32 (n : Int), .int .u8 (w : Int)] s = .ok (.bool true) s := by
  have hL1 : ∀ L : List AO, L.length ≤ 100 → Room (Sx s L) ∧ (Sx s L).n.val ≤ 10100 ∧ Ext s (Sx s L) := fun L hL => ⟨hr.Sx (by omega) (by omega), by rw [Sx_n hr (by omega)]; omega, ext_Sx hr (by omega)⟩
  have hk := known_ok (Sx s []) hr (by show s.n.val ≤ _; omega)
  have w1 : IntKind.wrap .i64 (n : Int) = (n : Int) := wrap_i64 (by omega) (by omega)
  have w2 : IntKind.wrap .i64 ((n : Int) + 1) = ((n + 1 : Nat) : Int) := by rw [wrap_i64 (by omega) (by omega)]; omega
  have w3 : IntKind.wrap .i64 (-(n : Int)) = -(n : Int) := wrap_i64 (by omega) (by omega)
  have w4 : IntKind.wrap .i64 (-(n : Int) - 1) = -((n + 1 : Nat) : Int) := by rw [wrap_i64 (by omega) (by omega)]; omega
  have hll : (lims (n + 1)).length ≤ 3 := lims_len (by omega)
  have o1 := Of_ok (Sx s []) ((n + 1 : Nat) : Int) hr (by show s.n.val ≤ _; omega) (by omega)
  have z1 : zOf ((n + 1 : Nat) : Int) = ⟨false, lims (n + 1)⟩ := by unfold zOf; rw [decide_eq_false (by omega), Int.natAbs_natCast]
  have pr := print_call (Sx s []) _ _ (zOf ((n + 1 : Nat) : Int)) (by rw [z1]; show (lims (n + 1)).length ≤ 100; omega) (rz_av (Sx s []) _ (by rw [z1]; show (lims (n + 1)).length ≤ _; omega))
  rw [zText_of, if_neg (by omega), Int.natAbs_natCast] at pr
  have o2 := fun L hL => Of_ok (Sx s L) (-((n + 1 : Nat) : Int)) (hL1 L hL).1 (by have := (hL1 L hL).2.1; omega) (by omega)
  have z2 : zOf (-((n + 1 : Nat) : Int)) = ⟨true, lims (n + 1)⟩ := by unfold zOf; rw [decide_eq_true (by omega), Int.natAbs_neg, Int.natAbs_natCast]
  rw [z2] at o2
  simp only at o2
  obtain ⟨da, dh, dd⟩ := dec_facts (n + 1) (by omega)
  have hDl : (decDigits (n + 1)).length ≤ 10 := dec_len_le (by omega) (by omega)
  generalize hD : decDigits (n + 1) = D at *
  have bad : ∀ (x : UInt8) (l : List UInt8), isDig x = false → x ∈ l → l.all isDig = false := fun x l hx hm => by
    rw [Bool.eq_false_iff]; intro h; rw [List.all_eq_true] at h; rw [h x hm] at hx; cases hx
  obtain ⟨c0, r0, hDe, hc0⟩ := dh
  have hpz : parseZ (inSign D) = (⟨true, lims (n + 1)⟩, 0) := by rw [parse_sign, parse_num da ⟨c0, r0, hDe, hc0⟩, if_neg (by omega), dd]
  have pS := fun L hL => parse_ok (Sx s L) (inSign D) (hL1 L hL).1 (by have := (hL1 L hL).2.1; omega) (by simp [inSign]; omega)
  rw [hpz] at pS
  simp only at pS
  have q9 := fun L hL => equal_ok (Sx s L) (.bool true) (avN (lims (n + 1))) (.bool true) (avN (lims (n + 1))) ⟨true, lims (n + 1)⟩ ⟨true, lims (n + 1)⟩ (hL1 L hL).1 (by have := (hL1 L hL).2.1; show _ + 9 * (lims (n + 1)).length + _ ≤ _; omega) ⟨rfl, avN_nats _ _ (by omega)⟩ ⟨rfl, avN_nats _ _ (by omega)⟩
  simp only [decide_true] at q9
  have hone : (avN (lims (n + 1))).one = true := avN_one _
  have hav : avN [] = .nils := if_pos rfl
  have pbad : ∀ (X : List UInt8), X.length ≤ 100 → parseZ X = (⟨false, []⟩, 10) → ∀ L : List AO, L.length ≤ 100 → CA F.digits_Parse [.str X] (Sx s L) = .ok (.tup [.agg [.bool false, .nils], .int .i64 10]) (Sx s L) := fun X hX he L hL => by
    have := parse_ok (Sx s L) X (hL1 L hL).1 (by have := (hL1 L hL).2.1; omega) (by omega)
    rw [he, hav] at this
    exact this
  obtain ⟨A0, eA0⟩ : ∃ X : List UInt8, X = [45] ++ D := ⟨_, rfl⟩
  have lA0 : A0.length ≤ 20 := by rw [eA0, List.length_append]; simp; omega
  have sA0 : ∀ σ, vbin .add (.str [45]) (.str D) σ = .ok (.str A0) σ := fun σ => by rw [eA0]; exact vbin_sadd σ _ _ (by simp; omega)
  obtain ⟨A1, eA1⟩ : ∃ X : List UInt8, X = [40, 45] ++ D := ⟨_, rfl⟩
  have lA1 : A1.length ≤ 20 := by rw [eA1, List.length_append]; simp; omega
  have sA1 : ∀ σ, vbin .add (.str [40, 45]) (.str D) σ = .ok (.str A1) σ := fun σ => by rw [eA1]; exact vbin_sadd σ _ _ (by simp; omega)
  obtain ⟨B1, eB1⟩ : ∃ X : List UInt8, X = A1 ++ [41] := ⟨_, rfl⟩
  have lB1 : B1.length ≤ 30 := by rw [eB1, List.length_append]; simp; omega
  have sB1 : ∀ σ, vbin .add (.str A1) (.str [41]) σ = .ok (.str B1) σ := fun σ => by rw [eB1]; exact vbin_sadd σ _ _ (by simp; omega)
  obtain ⟨A2, eA2⟩ : ∃ X : List UInt8, X = [40, 45, 32] ++ D := ⟨_, rfl⟩
  have lA2 : A2.length ≤ 20 := by rw [eA2, List.length_append]; simp; omega
  have sA2 : ∀ σ, vbin .add (.str [40, 45, 32]) (.str D) σ = .ok (.str A2) σ := fun σ => by rw [eA2]; exact vbin_sadd σ _ _ (by simp; omega)
  obtain ⟨A4, eA4⟩ : ∃ X : List UInt8, X = [40, 32, 45, 32] ++ D := ⟨_, rfl⟩
  have lA4 : A4.length ≤ 20 := by rw [eA4, List.length_append]; simp; omega
  have sA4 : ∀ σ, vbin .add (.str [40, 32, 45, 32]) (.str D) σ = .ok (.str A4) σ := fun σ => by rw [eA4]; exact vbin_sadd σ _ _ (by simp; omega)
  obtain ⟨B4, eB4⟩ : ∃ X : List UInt8, X = A4 ++ [41] := ⟨_, rfl⟩
  have lB4 : B4.length ≤ 30 := by rw [eB4, List.length_append]; simp; omega
  have sB4 : ∀ σ, vbin .add (.str A4) (.str [41]) σ = .ok (.str B4) σ := fun σ => by rw [eB4]; exact vbin_sadd σ _ _ (by simp; omega)
  obtain ⟨B5, eB5⟩ : ∃ X : List UInt8, X = A2 ++ [32, 41] := ⟨_, rfl⟩
  have lB5 : B5.length ≤ 30 := by rw [eB5, List.length_append]; simp; omega
  have sB5 : ∀ σ, vbin .add (.str A2) (.str [32, 41]) σ = .ok (.str B5) σ := fun σ => by rw [eB5]; exact vbin_sadd σ _ _ (by simp; omega)
  obtain ⟨A6, eA6⟩ : ∃ X : List UInt8, X = [43] ++ D := ⟨_, rfl⟩
  have lA6 : A6.length ≤ 20 := by rw [eA6, List.length_append]; simp; omega
  have sA6 : ∀ σ, vbin .add (.str [43]) (.str D) σ = .ok (.str A6) σ := fun σ => by rw [eA6]; exact vbin_sadd σ _ _ (by simp; omega)
  obtain ⟨A7, eA7⟩ : ∃ X : List UInt8, X = [40, 45, 32, 40, 45, 32] ++ D := ⟨_, rfl⟩
  have lA7 : A7.length ≤ 20 := by rw [eA7, List.length_append]; simp; omega
  have sA7 : ∀ σ, vbin .add (.str [40, 45, 32, 40, 45, 32]) (.str D) σ = .ok (.str A7) σ := fun σ => by rw [eA7]; exact vbin_sadd σ _ _ (by simp; omega)
  obtain ⟨B7, eB7⟩ : ∃ X : List UInt8, X = A7 ++ [41, 41] := ⟨_, rfl⟩
  have lB7 : B7.length ≤ 30 := by rw [eB7, List.length_append]; simp; omega
  have sB7 : ∀ σ, vbin .add (.str A7) (.str [41, 41]) σ = .ok (.str B7) σ := fun σ => by rw [eB7]; exact vbin_sadd σ _ _ (by simp; omega)
  obtain ⟨S2, eS2⟩ : ∃ X : List UInt8, X = A2 ++ [41] := ⟨_, rfl⟩
  have lS2 : S2.length ≤ 30 := by rw [eS2, List.length_append]; simp; omega
  have sS2 : ∀ σ, vbin .add (.str A2) (.str [41]) σ = .ok (.str S2) σ := fun σ => by rw [eS2]; exact vbin_sadd σ _ _ (by simp; omega)
  have eS : S2 = inSign D := by rw [eS2, eA2]; rfl
  rw [← eS] at pS
  have zA2 : parseZ A2 = (⟨false, []⟩, 10) := by
    have h1 : hasPrefix A2 [40, 45, 32] = true := by rw [eA2]; simp [hasPrefix, List.isPrefixOf]
    have h2 : A2.drop 3 = D := by rw [eA2]; rfl
    have h3 : ¬ hasSuffix D [41] = true := by
      unfold hasSuffix
      rw [List.isSuffixOf_iff_suffix]
      rintro ⟨t, ht⟩
      have : (41 : UInt8) ∈ D := by rw [← ht]; simp
      rw [List.all_eq_true] at da
      exact absurd (da 41 this) (by decide)
    unfold parseZ
    rw [if_pos h1, h2, if_neg h3]
  have zZ3 : parseZ [40, 45, 32, 48, 41] = (⟨false, []⟩, 10) := by
    show parseZ (inSign [48]) = _
    rw [parse_sign]; rfl
  have pA0 := pbad A0 (by omega) (parse_out (by rw [eA0]; rfl) (bad 45 _ (by decide) (by rw [eA0]; simp)))
  have pB1 := pbad B1 (by omega) (parse_out (by rw [eB1, eA1, hDe]; simp [hasPrefix, List.isPrefixOf]; intro h; rw [← h] at hc0; exact absurd hc0 (by decide)) (bad 40 _ (by decide) (by rw [eB1, eA1]; simp)))
  have pA2 := pbad A2 (by omega) (zA2)
  have pZ3 := pbad [40, 45, 32, 48, 41] (by simp) (zZ3)
  have pB4 := pbad B4 (by omega) (parse_out (by rw [eB4, eA4]; rfl) (bad 40 _ (by decide) (by rw [eB4, eA4]; simp)))
  have pB5 := pbad B5 (by omega) ((show parseZ B5 = _ by rw [show B5 = inSign (D ++ [32]) by rw [eB5, eA2]; simp [inSign]]; exact parse_in (bad 32 _ (by decide) (by simp))))
  have pA6 := pbad A6 (by omega) (parse_out (by rw [eA6]; rfl) (bad 43 _ (by decide) (by rw [eA6]; simp)))
  have pB7 := pbad B7 (by omega) ((show parseZ B7 = _ by rw [show B7 = inSign (inSign D) by rw [eB7, eA7]; simp [inSign]]; exact parse_in (bad 40 _ (by decide) (by simp [inSign]))))
  generalize avN (zOf ((n + 1 : Nat) : Int)).mag = M at *
  generalize (zOf ((n + 1 : Nat) : Int)).neg = G at *
  generalize avN (lims (n + 1)) = A at *
  clear eA0 eA1 eB1 eA2 eA4 eB4 eB5 eA6 eA7 eB7 eS2 eS hDe zA2 zZ3 pbad
  refine fn_of code_law3_DigitsSigns (by simp) ?_
  have h8 : w % 8 < 8 := Nat.mod_lt _ (by omega)
  have hrem : ∀ σ, vbin .rem (.int .u8 (w : Int)) (.int .u8 8) σ = .ok (.int .u8 ((w % 8 : Nat) : Int)) σ := fun σ => (vbin_rem σ .u8 (w : Int) 8 (by decide)).trans rfl
  have hpa := fun b o σ => vpaddr_ptr (n := 8) h8 .u8 b o σ
  generalize w % 8 = k at *
  match k, h8 with
  | 0, _ =>
    try simp only [Nat.add_zero] at hpa
    simp only [go_sem, ↓reduceIte, Nat.reduceMod, Nat.reduceEqDiff, Nat.reduceAdd, Nat.reduceMul, Nat.reduceSub, Nat.reduceLeDiff, Nat.reduceLT, Int.reduceEq, Int.reduceLT, Int.reduceLE, Int.reduceAdd, Int.reduceSub, Int.reduceNeg, reduceCtorEq, Nat.reduceShiftRight, Nat.reduceAnd, Nat.reduceBNe, Bool.not_true, Bool.not_false, hk, w1, w2, o1, pr, sA0, sA1, sB1, sA2, sA4, sB4, sB5, sA6, sA7, sB7, sS2, hr, hrem, hpa, pA0, pS, hone]
    refine W_drawn hr _ (by simp) ?_
    simp only [go_sem, ↓reduceIte, Nat.reduceMod, Nat.reduceEqDiff, Nat.reduceAdd, Nat.reduceMul, Nat.reduceSub, Nat.reduceLeDiff, Nat.reduceLT, Int.reduceEq, Int.reduceLT, Int.reduceLE, Int.reduceAdd, Int.reduceSub, Int.reduceNeg, reduceCtorEq, Nat.reduceShiftRight, Nat.reduceAnd, Nat.reduceBNe, Bool.not_true, Bool.not_false, decide_true, hr, w1, w3, w4, o2, q9, hone]
    exact settled_bool (ext_Sx hr (by simp)) rfl
  | 1, _ =>
    try simp only [Nat.add_zero] at hpa
    simp only [go_sem, ↓reduceIte, Nat.reduceMod, Nat.reduceEqDiff, Nat.reduceAdd, Nat.reduceMul, Nat.reduceSub, Nat.reduceLeDiff, Nat.reduceLT, Int.reduceEq, Int.reduceLT, Int.reduceLE, Int.reduceAdd, Int.reduceSub, Int.reduceNeg, reduceCtorEq, Nat.reduceShiftRight, Nat.reduceAnd, Nat.reduceBNe, Bool.not_true, Bool.not_false, hk, w1, w2, o1, pr, sA0, sA1, sB1, sA2, sA4, sB4, sB5, sA6, sA7, sB7, sS2, hr, hrem, hpa, pB1, pS, hone]
    refine W_drawn hr _ (by simp) ?_
    simp only [go_sem, ↓reduceIte, Nat.reduceMod, Nat.reduceEqDiff, Nat.reduceAdd, Nat.reduceMul, Nat.reduceSub, Nat.reduceLeDiff, Nat.reduceLT, Int.reduceEq, Int.reduceLT, Int.reduceLE, Int.reduceAdd, Int.reduceSub, Int.reduceNeg, reduceCtorEq, Nat.reduceShiftRight, Nat.reduceAnd, Nat.reduceBNe, Bool.not_true, Bool.not_false, decide_true, hr, w1, w3, w4, o2, q9, hone]
    exact settled_bool (ext_Sx hr (by simp)) rfl
  | 2, _ =>
    try simp only [Nat.add_zero] at hpa
    simp only [go_sem, ↓reduceIte, Nat.reduceMod, Nat.reduceEqDiff, Nat.reduceAdd, Nat.reduceMul, Nat.reduceSub, Nat.reduceLeDiff, Nat.reduceLT, Int.reduceEq, Int.reduceLT, Int.reduceLE, Int.reduceAdd, Int.reduceSub, Int.reduceNeg, reduceCtorEq, Nat.reduceShiftRight, Nat.reduceAnd, Nat.reduceBNe, Bool.not_true, Bool.not_false, hk, w1, w2, o1, pr, sA0, sA1, sB1, sA2, sA4, sB4, sB5, sA6, sA7, sB7, sS2, hr, hrem, hpa, pA2, pS, hone]
    refine W_drawn hr _ (by simp) ?_
    simp only [go_sem, ↓reduceIte, Nat.reduceMod, Nat.reduceEqDiff, Nat.reduceAdd, Nat.reduceMul, Nat.reduceSub, Nat.reduceLeDiff, Nat.reduceLT, Int.reduceEq, Int.reduceLT, Int.reduceLE, Int.reduceAdd, Int.reduceSub, Int.reduceNeg, reduceCtorEq, Nat.reduceShiftRight, Nat.reduceAnd, Nat.reduceBNe, Bool.not_true, Bool.not_false, decide_true, hr, w1, w3, w4, o2, q9, hone]
    exact settled_bool (ext_Sx hr (by simp)) rfl
  | 3, _ =>
    try simp only [Nat.add_zero] at hpa
    simp only [go_sem, ↓reduceIte, Nat.reduceMod, Nat.reduceEqDiff, Nat.reduceAdd, Nat.reduceMul, Nat.reduceSub, Nat.reduceLeDiff, Nat.reduceLT, Int.reduceEq, Int.reduceLT, Int.reduceLE, Int.reduceAdd, Int.reduceSub, Int.reduceNeg, reduceCtorEq, Nat.reduceShiftRight, Nat.reduceAnd, Nat.reduceBNe, Bool.not_true, Bool.not_false, hk, w1, w2, o1, pr, sA0, sA1, sB1, sA2, sA4, sB4, sB5, sA6, sA7, sB7, sS2, hr, hrem, hpa, pZ3, pS, hone]
    refine W_drawn hr _ (by simp) ?_
    simp only [go_sem, ↓reduceIte, Nat.reduceMod, Nat.reduceEqDiff, Nat.reduceAdd, Nat.reduceMul, Nat.reduceSub, Nat.reduceLeDiff, Nat.reduceLT, Int.reduceEq, Int.reduceLT, Int.reduceLE, Int.reduceAdd, Int.reduceSub, Int.reduceNeg, reduceCtorEq, Nat.reduceShiftRight, Nat.reduceAnd, Nat.reduceBNe, Bool.not_true, Bool.not_false, decide_true, hr, w1, w3, w4, o2, q9, hone]
    exact settled_bool (ext_Sx hr (by simp)) rfl
  | 4, _ =>
    try simp only [Nat.add_zero] at hpa
    simp only [go_sem, ↓reduceIte, Nat.reduceMod, Nat.reduceEqDiff, Nat.reduceAdd, Nat.reduceMul, Nat.reduceSub, Nat.reduceLeDiff, Nat.reduceLT, Int.reduceEq, Int.reduceLT, Int.reduceLE, Int.reduceAdd, Int.reduceSub, Int.reduceNeg, reduceCtorEq, Nat.reduceShiftRight, Nat.reduceAnd, Nat.reduceBNe, Bool.not_true, Bool.not_false, hk, w1, w2, o1, pr, sA0, sA1, sB1, sA2, sA4, sB4, sB5, sA6, sA7, sB7, sS2, hr, hrem, hpa, pB4, pS, hone]
    refine W_drawn hr _ (by simp) ?_
    simp only [go_sem, ↓reduceIte, Nat.reduceMod, Nat.reduceEqDiff, Nat.reduceAdd, Nat.reduceMul, Nat.reduceSub, Nat.reduceLeDiff, Nat.reduceLT, Int.reduceEq, Int.reduceLT, Int.reduceLE, Int.reduceAdd, Int.reduceSub, Int.reduceNeg, reduceCtorEq, Nat.reduceShiftRight, Nat.reduceAnd, Nat.reduceBNe, Bool.not_true, Bool.not_false, decide_true, hr, w1, w3, w4, o2, q9, hone]
    exact settled_bool (ext_Sx hr (by simp)) rfl
  | 5, _ =>
    try simp only [Nat.add_zero] at hpa
    simp only [go_sem, ↓reduceIte, Nat.reduceMod, Nat.reduceEqDiff, Nat.reduceAdd, Nat.reduceMul, Nat.reduceSub, Nat.reduceLeDiff, Nat.reduceLT, Int.reduceEq, Int.reduceLT, Int.reduceLE, Int.reduceAdd, Int.reduceSub, Int.reduceNeg, reduceCtorEq, Nat.reduceShiftRight, Nat.reduceAnd, Nat.reduceBNe, Bool.not_true, Bool.not_false, hk, w1, w2, o1, pr, sA0, sA1, sB1, sA2, sA4, sB4, sB5, sA6, sA7, sB7, sS2, hr, hrem, hpa, pB5, pS, hone]
    refine W_drawn hr _ (by simp) ?_
    simp only [go_sem, ↓reduceIte, Nat.reduceMod, Nat.reduceEqDiff, Nat.reduceAdd, Nat.reduceMul, Nat.reduceSub, Nat.reduceLeDiff, Nat.reduceLT, Int.reduceEq, Int.reduceLT, Int.reduceLE, Int.reduceAdd, Int.reduceSub, Int.reduceNeg, reduceCtorEq, Nat.reduceShiftRight, Nat.reduceAnd, Nat.reduceBNe, Bool.not_true, Bool.not_false, decide_true, hr, w1, w3, w4, o2, q9, hone]
    exact settled_bool (ext_Sx hr (by simp)) rfl
  | 6, _ =>
    try simp only [Nat.add_zero] at hpa
    simp only [go_sem, ↓reduceIte, Nat.reduceMod, Nat.reduceEqDiff, Nat.reduceAdd, Nat.reduceMul, Nat.reduceSub, Nat.reduceLeDiff, Nat.reduceLT, Int.reduceEq, Int.reduceLT, Int.reduceLE, Int.reduceAdd, Int.reduceSub, Int.reduceNeg, reduceCtorEq, Nat.reduceShiftRight, Nat.reduceAnd, Nat.reduceBNe, Bool.not_true, Bool.not_false, hk, w1, w2, o1, pr, sA0, sA1, sB1, sA2, sA4, sB4, sB5, sA6, sA7, sB7, sS2, hr, hrem, hpa, pA6, pS, hone]
    refine W_drawn hr _ (by simp) ?_
    simp only [go_sem, ↓reduceIte, Nat.reduceMod, Nat.reduceEqDiff, Nat.reduceAdd, Nat.reduceMul, Nat.reduceSub, Nat.reduceLeDiff, Nat.reduceLT, Int.reduceEq, Int.reduceLT, Int.reduceLE, Int.reduceAdd, Int.reduceSub, Int.reduceNeg, reduceCtorEq, Nat.reduceShiftRight, Nat.reduceAnd, Nat.reduceBNe, Bool.not_true, Bool.not_false, decide_true, hr, w1, w3, w4, o2, q9, hone]
    exact settled_bool (ext_Sx hr (by simp)) rfl
  | 7, _ =>
    try simp only [Nat.add_zero] at hpa
    simp only [go_sem, ↓reduceIte, Nat.reduceMod, Nat.reduceEqDiff, Nat.reduceAdd, Nat.reduceMul, Nat.reduceSub, Nat.reduceLeDiff, Nat.reduceLT, Int.reduceEq, Int.reduceLT, Int.reduceLE, Int.reduceAdd, Int.reduceSub, Int.reduceNeg, reduceCtorEq, Nat.reduceShiftRight, Nat.reduceAnd, Nat.reduceBNe, Bool.not_true, Bool.not_false, hk, w1, w2, o1, pr, sA0, sA1, sB1, sA2, sA4, sB4, sB5, sA6, sA7, sB7, sS2, hr, hrem, hpa, pB7, pS, hone]
    refine W_drawn hr _ (by simp) ?_
    simp only [go_sem, ↓reduceIte, Nat.reduceMod, Nat.reduceEqDiff, Nat.reduceAdd, Nat.reduceMul, Nat.reduceSub, Nat.reduceLeDiff, Nat.reduceLT, Int.reduceEq, Int.reduceLT, Int.reduceLE, Int.reduceAdd, Int.reduceSub, Int.reduceNeg, reduceCtorEq, Nat.reduceShiftRight, Nat.reduceAnd, Nat.reduceBNe, Bool.not_true, Bool.not_false, decide_true, hr, w1, w3, w4, o2, q9, hone]
    exact settled_bool (ext_Sx hr (by simp)) rfl
theorem u32_wf {a : Int} (h : (Lit.int .u32 a).wf = true) : ∃ n : Nat, a = n ∧ n ≤ 4294967295 := by
  have h2 : IntKind.u32.min = 0 := rfl
  have h3 : IntKind.u32.max = 4294967295 := rfl
  simp [Lit.wf] at h
  exact ⟨a.toNat, by omega, by omega⟩
theorem signs_row {a b : Int} (ha : (Lit.int .u32 a).wf = true) (hb : (Lit.int .u8 b).wf = true) : CA F.law3_DigitsSigns [.int .u32 a, .int .u8 b] .empty = .ok (.bool true) .empty := by
  obtain ⟨n, rfl, hn⟩ := u32_wf ha
  obtain ⟨c, rfl, hc⟩ := u8_wf hb
  exact signs_ok .empty n c room_empty (by show (0 : Nat) ≤ _; omega) hn hc
end Go.Proofs.YtkdkojnlimadnaaDoor
namespace Go.Vm
theorem vtostr_dead {s : St} {b : Id} (h : s.obj b = .dead) : vtostr (.sl b 0 1 1 0) s = .no := by
  unfold vtostr
  simp only [AV.onSl]
  rw [h]
  rfl
theorem vtostr_put (s : St) (b : Id) (n : Int) : vtostr (.sl b 0 1 1 0) (s.put b (.cells [.int .u8 n])) = .ok (.str [UInt8.ofNat n.toNat]) (s.put b (.cells [.int .u8 n])) := by
  have h : (s.put b (.cells [.int .u8 n])).obj b = .cells [.int .u8 n] := put_self s b _
  unfold vtostr
  simp only [AV.onSl]
  rw [h]
  rfl
end Go.Vm
namespace Go.Proofs.YtkdkojnlimadnaaDoor
open Go Go.Vm Go.Lib
set_option linter.unusedVariables false
set_option linter.unusedSimpArgs false
theorem bad_any {x : UInt8} {l : List UInt8} (hx : isDig x = false) (hm : x ∈ l) : l.all isDig = false := by
  rw [Bool.eq_false_iff]; intro h; rw [List.all_eq_true] at h; rw [h x hm] at hx; cases hx
/-- What an integer's text is, read again, with a space behind, with a digit more. -/
structure Back (z : Z) (k : Nat) : Prop where
  len : (zText z).length ≤ 200
  again : parseZ (zText z) = (z, 0)
  spoilt : parseZ (zText z ++ [32]) = (⟨false, []⟩, 10)
  tlen : (decDigits (vh z.mag) ++ [UInt8.ofNat (48 + k)]).length ≤ 200
  more : parseZ (decDigits (vh z.mag) ++ [UInt8.ofNat (48 + k)]) = if z.mag = [] then (⟨false, []⟩, 10) else (⟨false, lims (10 * val z.mag + k)⟩, 0)
theorem nought_more {k : Nat} (hk : k < 10) : parseZ [48, UInt8.ofNat (48 + k)] = (⟨false, []⟩, 10) := by
  have h1 : ¬ hasPrefix [48, UInt8.ofNat (48 + k)] [40, 45, 32] = true := by simp [hasPrefix, List.isPrefixOf]
  have h3 : isNum [48, UInt8.ofNat (48 + k)] = false := by unfold isNum; simp
  unfold parseZ
  rw [if_neg h1]
  unfold parseR
  rw [if_pos (.inl h3)]
theorem back {z : Z} {k : Nat} (hz : zIs z = true) (hl : z.mag.length ≤ 20) (hk : k < 10) : Back z k := by
  obtain ⟨b, l⟩ := z
  simp only at hl
  have hz' := hz
  unfold zIs at hz'
  simp only [Bool.and_eq_true, Bool.or_eq_true, Bool.not_eq_true', decide_eq_true_eq] at hz'
  obtain ⟨hnat, hb⟩ := hz'
  have hvh : vh l = val l := by unfold vh hd; rw [if_pos hnat]
  by_cases h0 : l = []
  · subst h0
    have hbf : b = false := by rcases hb with h | h; exact h; exact absurd rfl h
    subst hbf
    have e1 : decDigits (val []) = [48] := by show decDigits 0 = _; rw [dec_small (by omega)]; rfl
    have e : zText ⟨false, []⟩ = [48] := by
      unfold zText
      rw [zh_self hz]
      show decDigits (val []) = _
      exact e1
    have a1 : ∀ t, ¬ hasPrefix (48 :: t) [40, 45, 32] = true := fun t => by simp [hasPrefix, List.isPrefixOf]
    have hd0 : isNum [48] = true := by decide
    refine ⟨by rw [e]; simp, ?_, ?_, by simp only [hvh, e1]; simp, ?_⟩
    · rw [e]
      unfold parseZ
      rw [if_neg (a1 _)]
      unfold parseR
      rw [if_neg (by rw [hd0]; decide), if_neg (by simp), show dv [48] = 0 by decide, lims_0]
    · rw [e]
      exact parse_out (by rw [Bool.eq_false_iff]; exact a1 _) (bad_any (x := 32) (by decide) (by simp))
    · simp only [hvh, e1]
      exact nought_more hk
  · have hvp : 1 ≤ val l := by have := mt (val_zero hnat).1 h0; omega
    obtain ⟨da, dh, dd⟩ := dec_facts (val l) hvp
    have hDl := dec_len_val (natIs_small hnat) h0
    generalize hD : decDigits (val l) = D at *
    have el : lims (dv D) = l := by rw [dd, lims_val hnat]
    have e := zText_num da dh b
    rw [el] at e
    have hkd := dig_toNat hk
    have hkk : isDig (UInt8.ofNat (48 + k)) = true := by
      unfold isDig; simp only [hkd, Bool.and_eq_true, decide_eq_true_eq]; omega
    have ha2 : (D ++ [UInt8.ofNat (48 + k)]).all isDig = true := by rw [List.all_append, da, List.all_cons, hkk]; rfl
    have hh2 : ∃ c r, D ++ [UInt8.ofNat (48 + k)] = c :: r ∧ 49 ≤ c.toNat := by
      obtain ⟨c, r, e, h⟩ := dh; exact ⟨c, r ++ [UInt8.ofNat (48 + k)], by rw [e]; rfl, h⟩
    refine ⟨?_, ?_, ?_, ?_, ?_⟩
    · rw [e]; cases b
      · show D.length ≤ 200; omega
      · show (inSign D).length ≤ 200; simp [inSign]; omega
    · rw [e]; cases b
      · show parseZ D = _
        rw [parse_plain da dh, parse_num da dh, if_neg (by omega), el]
      · show parseZ (inSign D) = _
        rw [parse_sign, parse_num da dh, if_neg (by omega), el]
    · rw [e]; cases b
      · show parseZ (D ++ [32]) = _
        obtain ⟨c, r, e1, h⟩ := dh
        refine parse_out ?_ (bad_any (x := 32) (by decide) (by simp))
        rw [e1]; simp [hasPrefix, List.isPrefixOf]; intro hc; rw [← hc] at h; exact absurd h (by decide)
      · show parseZ (inSign D ++ [32]) = _
        have h1 : hasPrefix (inSign D ++ [32]) [40, 45, 32] = true := by simp [inSign, hasPrefix, List.isPrefixOf]
        have h2 : (inSign D ++ [32]).drop 3 = (D ++ [41]) ++ [32] := rfl
        have h3 : ¬ hasSuffix ((D ++ [41]) ++ [32]) [41] = true := by
          unfold hasSuffix
          rw [List.isSuffixOf_iff_suffix]
          rintro ⟨t, ht⟩
          have := congrArg List.getLast? ht
          simp at this
        unfold parseZ
        rw [if_pos h1, h2, if_neg h3]
    · simp only [hvh, hD, List.length_append, List.length_cons, List.length_nil]; omega
    · simp only [hvh, hD]
      rw [if_neg h0, parse_plain ha2 hh2, parse_num ha2 hh2, if_neg (by rw [List.length_append]; simp; omega), dv_snoc, dd, hkd, show 48 + k - 48 = k by omega]
theorem back_ok (s : St) (n m : AV) (z : Z) (d : Nat) (hr : Room s) (hn : s.n.val ≤ 5000) (hd8 : d ≤ 255) (hz : RZ s n m z) : CA F.law3_DigitsBack [.agg [n, m], .int .u8 (d : Int)] s = .ok (.bool true) s := by
  have hL1 : ∀ L : List AO, L.length ≤ 100 → Room (Sx s L) ∧ (Sx s L).n.val ≤ 5100 ∧ Ext s (Sx s L) := fun L hL => ⟨hr.Sx (by omega) (by omega), by rw [Sx_n hr (by omega)]; omega, ext_Sx hr (by omega)⟩
  have hk := fun L hL => known_ok (Sx s L) (hL1 L hL).1 (by have := (hL1 L hL).2.1; omega)
  have i1 := fun L hL => ref1_Is_ok (Sx s L) n m z (hL1 L hL).1 (hz.x (hL1 L hL).2.2)
  have o1 : n.one = true := by rw [hz.neg]; rfl
  have o2 := hz.mag.one
  refine fn_of code_law3_DigitsBack (by simp) ?_
  by_cases c1 : (20 : Int) < (z.mag.length : Int)
  · simp only [go_sem, ↓reduceIte, Nat.reduceMod, Nat.reduceEqDiff, Nat.reduceAdd, Nat.reduceMul, Nat.reduceSub, Nat.reduceLeDiff, Nat.reduceLT, Int.reduceEq, Int.reduceLT, Int.reduceLE, Int.reduceAdd, Int.reduceSub, Int.reduceNeg, reduceCtorEq, Nat.reduceShiftRight, Nat.reduceAnd, Nat.reduceBNe, Bool.not_true, Bool.not_false, hk, hr, hz.mag.vlen, c1]
    exact settled_bool (ext_Sx hr (by simp)) rfl
  cases c2 : zIs z
  · rw [c2] at i1
    simp only [go_sem, ↓reduceIte, Nat.reduceMod, Nat.reduceEqDiff, Nat.reduceAdd, Nat.reduceMul, Nat.reduceSub, Nat.reduceLeDiff, Nat.reduceLT, Int.reduceEq, Int.reduceLT, Int.reduceLE, Int.reduceAdd, Int.reduceSub, Int.reduceNeg, reduceCtorEq, Nat.reduceShiftRight, Nat.reduceAnd, Nat.reduceBNe, Bool.not_true, Bool.not_false, hk, hr, hz.mag.vlen, c1, i1, o1, o2]
    exact settled_bool (ext_Sx hr (by simp)) rfl
  rw [c2] at i1
  have hB := back (k := d % 10) c2 (by omega) (Nat.mod_lt _ (by omega))
  have hnat : natIs z.mag = true := by unfold zIs at c2; simp at c2; exact c2.1
  have hvh : vh z.mag = val z.mag := by unfold vh hd; rw [if_pos hnat]
  have p1 := fun L hL => print_call (Sx s L) n m z (by omega) (hz.x (hL1 L hL).2.2)
  have p2 := fun L hL => parse_ok (Sx s L) (zText z) (hL1 L hL).1 (by have := (hL1 L hL).2.1; omega) (by have := hB.len; omega)
  rw [hB.again] at p2
  simp only at p2
  have p3 := fun L hL => nat_call (Sx s L) m z.mag (by omega) (hz.mag.x (hL1 L hL).2.2)
  have p4 := fun L hL => parse_ok (Sx s L) (decDigits (vh z.mag) ++ [UInt8.ofNat (48 + d % 10)]) (hL1 L hL).1 (by have := (hL1 L hL).2.1; omega) (by have := hB.tlen; omega)
  rw [hB.more] at p4
  have p5 := fun L hL => parse_ok (Sx s L) (zText z ++ [32]) (hL1 L hL).1 (by have := (hL1 L hL).2.1; omega) (by have := hB.len; simp; omega)
  rw [hB.spoilt] at p5
  simp only at p5
  have hav : avN [] = .nils := if_pos rfl
  rw [hav] at p5
  have q1 := fun L hL => ref1_Abs_ok (Sx s L) n m z (hL1 L hL).1 (by have := (hL1 L hL).2.1; omega) (hz.x (hL1 L hL).2.2)
  simp only [c2, if_true] at q1
  have q2 := fun L hL => Of_ok (Sx s L) 10 (hL1 L hL).1 (by have := (hL1 L hL).2.1; omega) (by omega)
  rw [show zOf 10 = ⟨false, [10]⟩ by unfold zOf; rw [decide_eq_false (by omega)]; show (⟨false, lims 10⟩ : Z) = _; rw [lims10]] at q2
  simp only at q2
  have q3 := fun L hL => mul10_ok (Sx s L) m z.mag (hL1 L hL).1 (by have := (hL1 L hL).2.1; omega) (by omega) hnat (hz.mag.x (hL1 L hL).2.2)
  have hk9 : d % 10 < 10 := Nat.mod_lt _ (by omega)
  have w1 : ∀ σ, vbin .rem (.int .u8 (d : Int)) (.int .u8 10) σ = .ok (.int .u8 ((d % 10 : Nat) : Int)) σ := fun σ => (vbin_rem σ .u8 (d : Int) 10 (by decide)).trans rfl
  obtain ⟨K, hK⟩ : ∃ K, K = d % 10 := ⟨_, rfl⟩
  rw [← hK] at p4 hk9 w1 hB
  have w2 : IntKind.wrap .u8 (48 + (K : Int)) = ((48 + K : Nat) : Int) := by rw [wrap_u8 (by omega) (by omega)]; omega
  have w3 : IntKind.wrap .i64 (K : Int) = (K : Int) := wrap_i64 (by omega) (by omega)
  have q4 := fun L hL => Of_ok (Sx s L) (K : Int) (hL1 L hL).1 (by have := (hL1 L hL).2.1; omega) (by omega)
  rw [show zOf (K : Int) = ⟨false, lims K⟩ by unfold zOf; rw [decide_eq_false (by omega), Int.natAbs_natCast]] at q4
  simp only at q4
  have hKl : (lims K).length ≤ 1 := lims_len (by omega)
  obtain ⟨f1, f2⟩ := out10_facts (x := val z.mag) (k := z.mag.length) (val_lt (natIs_small hnat)) (by omega)
  have hll : (lims (10 * val z.mag)).length ≤ z.mag.length + 1 := lims_len (by have := val_lt (natIs_small hnat); rw [Nat.pow_succ]; omega)
  have q5 := fun L hL => add0_ok (Sx s L) (avT (out10 (val z.mag))) (avN (lims K)) (lims (10 * val z.mag)) (lims K) (hL1 L hL).1 (by have := (hL1 L hL).2.1; omega) (by omega) (by omega) (by rw [← f1]; exact avT_nats _ _ (by omega)) (avN_nats _ _ (by omega)) (lims_is _) (lims_is _)
  obtain ⟨g1, g2, g3⟩ := addO_facts 100 (lims (10 * val z.mag)) (lims K) 0 (by omega) (by omega) (small_lims _) (small_lims _) (by omega)
  have g4 : trim0 (addO (lims (10 * val z.mag)) (lims K) 0) = lims (10 * val z.mag + K) := by rw [trim0_eq g1, g2, val_lims, val_lims, Nat.zero_add]
  have hW : ∀ t, Nats t (avT (addO (lims (10 * val z.mag)) (lims K) 0)) (lims (10 * val z.mag + K)) := fun t => by rw [← g4]; exact avT_nats _ _ (by omega)
  have r1 := fun L hL => equal_ok (Sx s L) (.bool z.neg) (avN z.mag) n m z z (hL1 L hL).1 (by have := (hL1 L hL).2.1; omega) ⟨rfl, avN_nats _ _ (by omega)⟩ (hz.x (hL1 L hL).2.2)
  simp only [decide_true] at r1
  have hl2 : (lims (10 * val z.mag + K)).length ≤ z.mag.length + 1 := lims_len (by have := val_lt (natIs_small hnat); rw [Nat.pow_succ]; omega)
  have r2 := fun L hL => equal_ok (Sx s L) (.bool false) (avN (lims (10 * val z.mag + K))) (.bool false) (avT (addO (lims (10 * val z.mag)) (lims K) 0)) ⟨false, lims (10 * val z.mag + K)⟩ ⟨false, lims (10 * val z.mag + K)⟩ (hL1 L hL).1 (by have := (hL1 L hL).2.1; show _ + 9 * (lims (10 * val z.mag + K)).length + _ ≤ _; omega) ⟨rfl, avN_nats _ _ (by omega)⟩ ⟨rfl, hW _⟩
  simp only [decide_true] at r2
  have s1 : ∀ σ, vbin .add (.str (decDigits (vh z.mag))) (.str [UInt8.ofNat (48 + K)]) σ = .ok (.str (decDigits (vh z.mag) ++ [UInt8.ofNat (48 + K)])) σ := fun σ => vbin_sadd σ _ _ (by have := hB.tlen; rw [List.length_append] at this; omega)
  have s2 : ∀ σ, vbin .add (.str (zText z)) (.str [32]) σ = .ok (.str (zText z ++ [32])) σ := fun σ => vbin_sadd σ _ _ (by have := hB.len; simp; omega)
  have u1 : (avN z.mag).one = true := avN_one _
  have u2 : (avN (lims (10 * val z.mag + K))).one = true := avN_one _
  have u3 : (avT (addO (lims (10 * val z.mag)) (lims K) 0)).one = true := avT_one _
  have hs1 := fun (L : List AO) (hL : L.length ≤ 100) (hd : L[8]? = some .dead) => vtostr_dead (Sx_obj? (s := s) (l := L) hr (by omega) hd)
  have hs2 := fun t : St => vtostr_put t (nm s 8) ((48 + K : Nat) : Int)
  simp only [Int.toNat_natCast] at hs2
  clear hB
  generalize decDigits (vh z.mag) ++ [UInt8.ofNat (48 + K)] = T at *
  generalize UInt8.ofNat (48 + K) = D1 at *
  generalize decDigits (vh z.mag) = D at *
  generalize zText z ++ [32] = S2 at *
  generalize zText z = S at *
  generalize avN z.mag = A at *
  generalize avT (addO (lims (10 * val z.mag)) (lims K) 0) = B at *
  generalize avT (out10 (val z.mag)) = C at *
  by_cases c3 : z.mag = []
  · have c3' : (z.mag.length : Int) = 0 := by rw [c3]; rfl
    simp only [if_pos c3, hav] at p4
    simp only [go_sem, ↓reduceIte, Nat.reduceMod, Nat.reduceEqDiff, Nat.reduceAdd, Nat.reduceMul, Nat.reduceSub, Nat.reduceLeDiff, Nat.reduceLT, Int.reduceEq, Int.reduceLT, Int.reduceLE, Int.reduceAdd, Int.reduceSub, Int.reduceNeg, reduceCtorEq, Nat.reduceShiftRight, Nat.reduceAnd, Nat.reduceBNe, Bool.not_true, Bool.not_false, hk, hr, hz.mag.vlen, c1, i1, o1, o2, p1, p2, u1]
    refine W_drawn hr _ (by simp) ?_
    simp only [go_sem, ↓reduceIte, Nat.reduceMod, Nat.reduceEqDiff, Nat.reduceAdd, Nat.reduceMul, Nat.reduceSub, Nat.reduceLeDiff, Nat.reduceLT, Int.reduceEq, Int.reduceLT, Int.reduceLE, Int.reduceAdd, Int.reduceSub, Int.reduceNeg, reduceCtorEq, Nat.reduceShiftRight, Nat.reduceAnd, Nat.reduceBNe, Bool.not_true, Bool.not_false, decide_true, hr, hz.mag.vlen, p3, w1, w2, hs1, hs2, s1, p4, q1, q2, q3, w3, q4, q5, s2, p5, r1, o1, o2, u1, u2, u3, c3']
    exact settled_bool (ext_Sx hr (by simp)) rfl
  · have c3' : ¬ (z.mag.length : Int) = 0 := by cases h : z.mag <;> simp_all; omega
    have c3'' : (0 : Int) < (z.mag.length : Int) := by omega
    simp only [if_neg c3] at p4
    generalize avN (lims (10 * val z.mag + K)) = E at *
    simp only [go_sem, ↓reduceIte, Nat.reduceMod, Nat.reduceEqDiff, Nat.reduceAdd, Nat.reduceMul, Nat.reduceSub, Nat.reduceLeDiff, Nat.reduceLT, Int.reduceEq, Int.reduceLT, Int.reduceLE, Int.reduceAdd, Int.reduceSub, Int.reduceNeg, reduceCtorEq, Nat.reduceShiftRight, Nat.reduceAnd, Nat.reduceBNe, Bool.not_true, Bool.not_false, hk, hr, hz.mag.vlen, c1, i1, o1, o2, p1, p2, u1]
    refine W_drawn hr _ (by simp) ?_
    simp only [go_sem, ↓reduceIte, Nat.reduceMod, Nat.reduceEqDiff, Nat.reduceAdd, Nat.reduceMul, Nat.reduceSub, Nat.reduceLeDiff, Nat.reduceLT, Int.reduceEq, Int.reduceLT, Int.reduceLE, Int.reduceAdd, Int.reduceSub, Int.reduceNeg, reduceCtorEq, Nat.reduceShiftRight, Nat.reduceAnd, Nat.reduceBNe, Bool.not_true, Bool.not_false, decide_true, hr, hz.mag.vlen, p3, w1, w2, hs1, hs2, s1, p4, q1, q2, q3, w3, q4, q5, s2, p5, r1, r2, o1, o2, u1, u2, u3, c3', c3'']
    exact settled_bool (ext_Sx hr (by simp)) rfl
theorem back_row {x0 y0 : AV} {z0 : Z} {a1 : Int} (k0 : RZ .empty x0 y0 z0) (w1 : (Lit.int .u8 a1).wf = true) : CA F.law3_DigitsBack [.agg [x0, y0], .int .u8 a1] .empty = .ok (.bool true) .empty := by
  obtain ⟨d, rfl, hd⟩ := u8_wf w1
  exact back_ok .empty x0 y0 z0 d room_empty (by show (0 : Nat) ≤ _; omega) hd k0
end Go.Proofs.YtkdkojnlimadnaaDoor
