/- Functions of the program: more. No condition. -/
import Derived.Test.YtkdkojnlimadnaaDoorLibD
import GoSem.Op.String
import Derived.Test.YtkdkojnlimadnaaDoorLibP
namespace Go.Proofs.YtkdkojnlimadnaaDoor
open Go Go.Vm Go.Lib
set_option linter.unusedVariables false
theorem less_snoc (c d : UInt8) : ∀ (x y : List UInt8), x.length = y.length → Op.bytesLess (x ++ [c]) (y ++ [d]) = (Op.bytesLess x y || (decide (x = y) && decide (c < d)))
  | [], [], _ => by simp [Op.bytesLess]
  | [], _ :: _, h => by simp at h
  | _ :: _, [], h => by simp at h
  | a :: x, b :: y, h => by
    simp only [List.cons_append, Op.bytesLess]
    rw [less_snoc c d x y (by simpa using h)]
    by_cases h1 : a < b
    · simp [h1]
    · by_cases h2 : a = b
      · subst h2; simp [h1]
      · have h3 : (a == b) = false := by simpa using h2
        simp [h1, h3]
        exact fun h => absurd h h2
theorem dig_toNat {n : Nat} (h : n < 10) : (UInt8.ofNat (48 + n)).toNat = 48 + n := by
  rw [UInt8.toNat_ofNat']; omega
theorem padk_inj : ∀ (k a b : Nat), a < 10 ^ k → b < 10 ^ k → padk k a = padk k b → a = b
  | 0, a, b, ha, hb, _ => by simp at ha hb; omega
  | k + 1, a, b, ha, hb, h => by
    rw [Nat.pow_succ] at ha hb
    unfold padk at h
    have h1 := List.append_inj h (by rw [padk_len, padk_len])
    have h2 := padk_inj k (a / 10) (b / 10) (by omega) (by omega) h1.1
    have h3 := congrArg UInt8.toNat (List.cons.inj h1.2).1
    rw [dig_toNat (Nat.mod_lt _ (by omega)), dig_toNat (Nat.mod_lt _ (by omega))] at h3
    omega
theorem padk_less : ∀ (k a b : Nat), a < 10 ^ k → b < 10 ^ k → Op.bytesLess (padk k a) (padk k b) = decide (a < b)
  | 0, a, b, ha, hb => by simp at ha hb; subst ha; subst hb; rfl
  | k + 1, a, b, ha, hb => by
    rw [Nat.pow_succ] at ha hb
    unfold padk
    rw [less_snoc _ _ _ _ (by rw [padk_len, padk_len]), padk_less k (a / 10) (b / 10) (by omega) (by omega)]
    have hd : decide (UInt8.ofNat (48 + a % 10) < UInt8.ofNat (48 + b % 10)) = decide (a % 10 < b % 10) := by
      have e1 : (UInt8.ofNat (48 + a % 10) < UInt8.ofNat (48 + b % 10)) ↔ a % 10 < b % 10 := by
        rw [UInt8.lt_iff_toNat_lt, dig_toNat (Nat.mod_lt _ (by omega)), dig_toNat (Nat.mod_lt _ (by omega))]; omega
      simp only [e1]
    rw [hd]
    have he : decide (padk k (a / 10) = padk k (b / 10)) = decide (a / 10 = b / 10) := by
      congr 1
      exact propext ⟨fun h => padk_inj k _ _ (by omega) (by omega) h, fun h => by rw [h]⟩
    rw [he, Bool.eq_iff_iff]
    simp only [Bool.or_eq_true, Bool.and_eq_true, decide_eq_true_eq]
    omega
theorem dec_low {n : Nat} (h : 1 ≤ n) : 10 ^ ((decDigits n).length - 1) ≤ n := by
  apply Decidable.byContradiction
  intro hlt
  have hp := dec_len_pos n
  by_cases h1 : (decDigits n).length - 1 = 0
  · rw [h1] at hlt; simp at hlt; omega
  · have := dec_len_le (n := n) (k := (decDigits n).length - 1) (by omega) (by omega)
    omega
theorem dec_up (n : Nat) : n < 10 ^ (decDigits n).length := by rw [decDigits_length]; exact lt_pow_nDigits n
theorem dec_shorter {a b : Nat} (h : (decDigits a).length < (decDigits b).length) : a < b := by
  have h1 := dec_up a
  have hp := dec_len_pos a
  by_cases hb : b = 0
  · have h0 : (decDigits 0).length = 1 := by rw [dec_small (by omega)]; rfl
    subst hb; omega
  · have h2 := dec_low (n := b) (by omega)
    have h3 : 10 ^ (decDigits a).length ≤ 10 ^ ((decDigits b).length - 1) := Nat.pow_le_pow_right (by omega) (by omega)
    omega
theorem dec_pad_self (n : Nat) : decDigits n = padk (decDigits n).length n := by
  have h := pad_eq (decDigits n).length (dec_len_pos n) (dec_up n)
  rw [Nat.sub_self] at h
  exact h
theorem dec_less {a b : Nat} (h : (decDigits a).length = (decDigits b).length) : Op.bytesLess (decDigits a) (decDigits b) = decide (a < b) := by
  have ha := dec_pad_self a
  have hb := dec_pad_self b
  rw [← h] at hb
  rw [ha, hb]
  have hl := padk_len (decDigits a).length a
  rw [padk_less _ _ _ (dec_up a) (by rw [h]; exact dec_up b)]
theorem dec_inj {a b : Nat} (h : decDigits a = decDigits b) : a = b := by
  have ha := dec_pad_self a
  have hb := dec_pad_self b
  rw [← h] at hb
  exact padk_inj _ a b (dec_up a) (by rw [h]; exact dec_up b) (ha.symm.trans hb)
end Go.Proofs.YtkdkojnlimadnaaDoor
namespace Go.Proofs.YtkdkojnlimadnaaDoor
open Go Go.Vm Go.Lib
set_option linter.unusedVariables false
theorem dv_snoc (l : List UInt8) (c : UInt8) : dv (l ++ [c]) = 10 * dv l + (c.toNat - 48) := by rw [dv_app]; simp [dv, dvf]; omega
theorem dec_dv_aux : ∀ (n : Nat) (l : List UInt8), l.length ≤ n → l.all isDig = true → (∃ c r, l = c :: r ∧ 49 ≤ c.toNat) → decDigits (dv l) = l := by
  intro n
  induction n with
  | zero => intro l hl _ ⟨c, r, e, _⟩; rw [e] at hl; simp at hl
  | succ n ih =>
    intro l hl ha ⟨c, r, e, hc⟩
    have hne : l ≠ [] := by rw [e]; simp
    obtain ⟨m, d, hm⟩ : ∃ m d, l = m ++ [d] := ⟨l.dropLast, l.getLast hne, (List.dropLast_concat_getLast hne).symm⟩
    have had : isDig d = true := by rw [hm, List.all_append] at ha; simp at ha; exact ha.2
    have ham : m.all isDig = true := by rw [hm, List.all_append] at ha; simp only [Bool.and_eq_true] at ha; exact ha.1
    unfold isDig at had
    simp only [Bool.and_eq_true, decide_eq_true_eq] at had
    have hd : UInt8.ofNat (48 + (d.toNat - 48)) = d := by
      rw [show 48 + (d.toNat - 48) = d.toNat by omega]; exact UInt8.ofNat_toNat
    cases m with
    | nil =>
      rw [hm]
      have : dv ([] ++ [d]) = d.toNat - 48 := by rw [dv_snoc]; simp [dv, dvf]
      rw [this, dec_small (by omega), hd]; rfl
    | cons x m =>
      have hx : x = c := by rw [e] at hm; simpa using (List.cons.inj hm).1.symm
      subst hx
      have hp : 0 < dv (x :: m) := dv_pos hc
      rw [hm, dv_snoc, dec_big (by omega), show (10 * dv (x :: m) + (d.toNat - 48)) / 10 = dv (x :: m) by omega, show (10 * dv (x :: m) + (d.toNat - 48)) % 10 = d.toNat - 48 by omega, hd]
      rw [ih (x :: m) (by rw [hm, List.length_append] at hl; simp at hl ⊢; omega) ham ⟨x, m, rfl, hc⟩]
theorem dec_dv {l : List UInt8} (ha : l.all isDig = true) (h : ∃ c r, l = c :: r ∧ 49 ≤ c.toNat) : decDigits (dv l) = l := dec_dv_aux _ l (Nat.le_refl _) ha h
theorem num_of {l : List UInt8} (ha : l.all isDig = true) (h : ∃ c r, l = c :: r ∧ 49 ≤ c.toNat) : isNum l = true ∧ l ≠ [48] ∧ hasPrefix l [40, 45, 32] = false ∧ isNum (48 :: l) = false := by
  obtain ⟨c, r, rfl, hc⟩ := h
  have h48 : c ≠ 48 := by intro e; rw [e] at hc; exact absurd hc (by decide)
  have h40 : c ≠ 40 := by intro e; rw [e] at hc; exact absurd hc (by decide)
  refine ⟨?_, ?_, ?_, ?_⟩
  · unfold isNum; rw [ha]; simp [h48]
  · intro e; exact h48 (List.cons.inj e).1
  · unfold hasPrefix
    simp [List.isPrefixOf, Ne.symm h40]
  · unfold isNum; simp
/-- A text within the sign's parentheses. -/
def inSign (l : List UInt8) : List UInt8 := [40, 45, 32] ++ l ++ [41]
theorem parse_sign (l : List UInt8) : parseZ (inSign l) = parseR true l := by
  unfold parseZ inSign
  have h1 : hasPrefix ([40, 45, 32] ++ l ++ [41]) [40, 45, 32] = true := by simp [hasPrefix, List.isPrefixOf]
  have h2 : ([40, 45, 32] ++ l ++ [41] : List UInt8).drop 3 = l ++ [41] := rfl
  have h3 : hasSuffix (l ++ [41]) [41] = true := by unfold hasSuffix; rw [List.isSuffixOf_iff_suffix]; exact ⟨l, rfl⟩
  rw [if_pos h1, h2, if_pos h3]
  congr 1
  rw [List.length_append]
  simp
theorem parse_plain {l : List UInt8} (ha : l.all isDig = true) (h : ∃ c r, l = c :: r ∧ 49 ≤ c.toNat) : parseZ l = parseR false l := by
  unfold parseZ
  rw [(num_of ha h).2.2.1]; rfl
theorem parse_num {l : List UInt8} (ha : l.all isDig = true) (h : ∃ c r, l = c :: r ∧ 49 ≤ c.toNat) (b : Bool) : parseR b l = if 360 < l.length then (⟨false, []⟩, 11) else (⟨b, lims (dv l)⟩, 0) := by
  obtain ⟨h1, h2, _, _⟩ := num_of ha h
  unfold parseR
  rw [if_neg (by rw [h1]; simp [h2])]
end Go.Proofs.YtkdkojnlimadnaaDoor
namespace Go.Vm
set_option linter.unusedVariables false
noncomputable def vtostr (a : AV) (s : St) : R :=
  a.onSl .no (.ok (.str []) s) (fun b o l _ _ => (s.obj b).onCells .no fun cs => br (Nat.ble (Nat.add o l) (ln cs)) (cellBytes (tk l (dr o cs)) fun r => .ok (.str r) s) .no) fun cs l _ _ => br (Nat.beq l (ln cs)) (cellBytes cs fun r => .ok (.str r) s) .no
theorem p_tostr (call : CallT) (f : Fr AV) (s : St) (x : CO) : exop (.tostr x) call f s = vtostr (ev1 f x) s := nd rfl
/-- A text of one letter. -/
theorem vtostr_one {s : St} {L : List AO} (hr : Room s) (hl : L.length ≤ 5000) {i : Nat} {n : Int} (hi : L[i]? = some (.cells [.int .u8 n])) : vtostr (.sl (nm s i) 0 1 1 0) (Sx s L) = .ok (.str [UInt8.ofNat n.toNat]) (Sx s L) := by
  have h := Sx_obj? hr hl hi
  unfold vtostr
  simp only [AV.onSl]
  rw [h]
  rfl
theorem vlen_nils0 (s : St) : vlen .nils s = .ok (.int .i64 0) s := nd rfl
attribute [go_sem] p_tostr vlen_nils0
end Go.Vm
namespace Go.Proofs.YtkdkojnlimadnaaDoor
open Go Go.Vm Go.Lib
set_option linter.unusedVariables false
set_option linter.unusedSimpArgs false
theorem zText_num {l : List UInt8} (ha : l.all isDig = true) (h : ∃ c r, l = c :: r ∧ 49 ≤ c.toNat) (b : Bool) : zText ⟨b, lims (dv l)⟩ = if b = true then inSign l else l := by
  have hp : 0 < dv l := by obtain ⟨c, r, rfl, hc⟩ := h; exact dv_pos hc
  have hz : zIs ⟨b, lims (dv l)⟩ = true := by
    unfold zIs
    simp only [lims_is, Bool.true_and, Bool.or_eq_true, Bool.not_eq_true', decide_eq_true_eq]
    right; exact lims_ne (by omega)
  unfold zText
  rw [zh_self hz]
  simp only [val_lims, dec_dv ha h]
  rfl
theorem lims_len_num {l : List UInt8} (ha : l.all isDig = true) (k : Nat) (hl : l.length ≤ 9 * k) : (lims (dv l)).length ≤ k := by
  refine lims_len ?_
  have h1 := dv_lt ha
  have h2 : 10 ^ l.length ≤ 10 ^ (9 * k) := Nat.pow_le_pow_right (by omega) hl
  rw [Nat.pow_mul, show (10 : Nat) ^ 9 = 1000000000 from rfl] at h2
  omega
theorem long_ok (s : St) (n c : Nat) (neg : Bool) (hr : Room s) (hn : s.n.val ≤ 10000) (h1 : n ≤ 255) (h2 : c ≤ 255) : CA F.law3_DigitsLong [.int .u8 (n : Int), .int .u8 (c : Int), .bool neg] s = .ok (.bool true) s := by
  have hk := known_ok (Sx s []) hr (by show s.n.val ≤ _; omega)
  have e1 : ∀ σ, vbin .rem (.int .u8 (n : Int)) (.int .u8 3) σ = .ok (.int .u8 ((n % 3 : Nat) : Int)) σ := fun σ => (vbin_rem σ .u8 (n : Int) 3 (by decide)).trans rfl
  have e2 : ∀ σ, vbin .rem (.int .u8 (c : Int)) (.int .u8 9) σ = .ok (.int .u8 ((c % 9 : Nat) : Int)) σ := fun σ => (vbin_rem σ .u8 (c : Int) 9 (by decide)).trans rfl
  obtain ⟨K, hK⟩ : ∃ K, K = 359 + n % 3 := ⟨_, rfl⟩
  have e0 : IntKind.wrap .i64 ((n % 3 : Nat) : Int) = ((n % 3 : Nat) : Int) := wrap_i64 (by omega) (by omega)
  have e3 : IntKind.wrap .i64 (359 + ((n % 3 : Nat) : Int)) = (K : Int) := by rw [wrap_i64 (by omega) (by omega)]; omega
  have e4 : IntKind.wrap .u8 (49 + ((c % 9 : Nat) : Int)) = ((49 + c % 9 : Nat) : Int) := by rw [wrap_u8 (by omega) (by omega)]; omega
  have hs0 := vtostr_one (s := s) (L := [.cells [.int .u8 ((49 + c % 9 : Nat) : Int)]]) (n := ((49 + c % 9 : Nat) : Int)) hr (by simp) (i := 0) rfl
  rw [Int.toNat_natCast] at hs0
  have hx1 := ext_Sx (s := s) (l := [.cells [.int .u8 ((49 + c % 9 : Nat) : Int)]]) hr (by simp)
  have hn1 := Sx_n (s := s) (l := [.cells [.int .u8 ((49 + c % 9 : Nat) : Int)]]) hr (by simp)
  simp only [List.length_cons, List.length_nil] at hn1
  have hr1 : Room (Sx s [.cells [.int .u8 ((49 + c % 9 : Nat) : Int)]]) := hr.Sx (by simp; omega) (by simp)
  have hc0 : (UInt8.ofNat (49 + c % 9)).toNat = 49 + c % 9 := by rw [UInt8.toNat_ofNat']; omega
  generalize UInt8.ofNat (49 + c % 9) = c0 at hs0 hc0
  have hd0 : isDig c0 = true := by unfold isDig; simp; omega
  refine fn_of code_law3_DigitsLong (by simp) ?_
  simp only [go_sem, ↓reduceIte, Nat.reduceMod, Nat.reduceEqDiff, Nat.reduceAdd, Nat.reduceMul, Nat.reduceSub, Nat.reduceLeDiff, Nat.reduceLT, Int.reduceEq, Int.reduceLT, Int.reduceLE, Int.reduceAdd, Int.reduceSub, Int.reduceNeg, reduceCtorEq, Nat.reduceShiftRight, Nat.reduceAnd, Nat.reduceBNe, Bool.not_true, Bool.not_false, hk, e0, e1, e2, e3, e4, hr, hs0]
  generalize Sx s [.cells [.int .u8 ((49 + c % 9 : Nat) : Int)]] = s1 at *
  refine W_inv (fun k f τ => ∃ (i : Nat) (T : List UInt8) (σ : St), Sx σ [] = τ ∧ Room σ ∧ Ext s σ ∧ σ.n.val ≤ s.n.val + 1 + i ∧ k = K - i ∧ 1 ≤ i ∧ i ≤ K ∧ T.length = i ∧ T.all isDig = true ∧ (∃ c0 r, T = c0 :: r ∧ 49 ≤ c0.toNat) ∧ (vv 2).get f = .bool neg ∧ (vv 7).get f = .int .i64 (K : Int) ∧ (vv 8).get f = .str T ∧ (vv 9).get f = .int .i64 (i : Int)) ?_ ⟨1, [c0], s1, Sx_nil _, hr1, hx1, by omega, rfl, by omega, by omega, rfl, by simp [hd0], ⟨c0, [], rfl, by omega⟩, ?_, ?_, ?_, ?_⟩
  · rintro k f τ ⟨i, T, σ, rfl, hr2, hx, hn2, rfl, hi1, hi, hT, ha, hhd, g2, g7, g8, g9⟩
    by_cases c1 : i < K
    · have c1' : (i : Int) < (K : Int) := by omega
      have e5 : ∀ σ, vbin .rem (.int .i64 (i : Int)) (.int .i64 10) σ = .ok (.int .i64 ((i % 10 : Nat) : Int)) σ := fun σ => (vbin_rem σ .i64 (i : Int) 10 (by decide)).trans rfl
      have e6 : IntKind.wrap .u8 ((i % 10 : Nat) : Int) = ((i % 10 : Nat) : Int) := wrap_u8 (by omega) (by omega)
      have e7 : IntKind.wrap .u8 (48 + ((i % 10 : Nat) : Int)) = ((48 + i % 10 : Nat) : Int) := by rw [wrap_u8 (by omega) (by omega)]; omega
      have hs1 := vtostr_one (s := σ) (L := [.cells [.int .u8 ((48 + i % 10 : Nat) : Int)]]) (n := ((48 + i % 10 : Nat) : Int)) hr2 (by simp) (i := 0) rfl
      rw [Int.toNat_natCast] at hs1
      have hdd : isDig (UInt8.ofNat (48 + i % 10)) = true := by
        have : (UInt8.ofNat (48 + i % 10)).toNat = 48 + i % 10 := dig_toNat (Nat.mod_lt _ (by omega))
        unfold isDig; simp only [this, Bool.and_eq_true, decide_eq_true_eq]; omega
      generalize UInt8.ofNat (48 + i % 10) = dd at *
      have hsa : ∀ σ, vbin .add (.str T) (.str [dd]) σ = .ok (.str (T ++ [dd])) σ := fun σ => vbin_sadd σ _ _ (by simp; omega)
      simp only [go_sem, ↓reduceIte, Nat.reduceMod, Nat.reduceEqDiff, Nat.reduceAdd, Nat.reduceMul, Nat.reduceSub, Nat.reduceLeDiff, Nat.reduceLT, Int.reduceEq, Int.reduceLT, Int.reduceLE, Int.reduceAdd, Int.reduceSub, Int.reduceNeg, reduceCtorEq, Nat.reduceShiftRight, Nat.reduceAnd, Nat.reduceBNe, g2, g7, g8, g9, c1', e5, e6, e7, hr2, hs1, hsa]
      refine ⟨K - (i + 1), by omega, i + 1, T ++ [dd], _, Sx_nil _, hr2.Sx (by simp; omega) (by simp), hx.trans (ext_Sx hr2 (by simp)), ?_, rfl, by omega, by omega, by simp [hT], ?_, ?_, ?_⟩
      · rw [Sx_n hr2 (by simp)]; simp; omega
      · rw [List.all_append, ha]; simp [hdd]
      · obtain ⟨c0, r, e, h⟩ := hhd; exact ⟨c0, r ++ [dd], by rw [e]; rfl, h⟩
      · rw [wrap_i64 (by omega) (by omega)]; exact ⟨rfl, rfl⟩
    · have hiK : i = K := by omega
      have c1' : ¬ (i : Int) < (K : Int) := by omega
      have hav : avN [] = .nils := if_pos rfl
      cases neg
      · have p := parse_ok (Sx σ []) (T) hr2 (by show σ.n.val ≤ _; omega) (by omega)
        rw [parse_plain ha hhd, parse_num ha hhd] at p
        by_cases c3 : 360 < K
        · rw [if_pos (by omega), hav] at p
          have c3' : (360 : Int) < (K : Int) := by omega
          simp only [go_sem, ↓reduceIte, Nat.reduceMod, Nat.reduceEqDiff, Nat.reduceAdd, Nat.reduceMul, Nat.reduceSub, Nat.reduceLeDiff, Nat.reduceLT, Int.reduceEq, Int.reduceLT, Int.reduceLE, Int.reduceAdd, Int.reduceSub, Int.reduceNeg, reduceCtorEq, Nat.reduceShiftRight, Nat.reduceAnd, Nat.reduceBNe, Bool.not_true, Bool.not_false, g2, g7, g8, g9, c1', p, hr2, c3']
          exact settled_bool (hx.trans (ext_Sx hr2 (by simp))) rfl
        · rw [if_neg (by omega)] at p
          have c3' : ¬ (360 : Int) < (K : Int) := by omega
          have hll := lims_len_num ha 40 (by omega)
          have pr := fun L => print_call (Sx σ L) (.bool false) (avN (lims (dv T))) ⟨false, lims (dv T)⟩ (by show (lims (dv T)).length ≤ 100; omega) ⟨rfl, avN_nats _ _ (by omega)⟩
          rw [zText_num ha hhd] at pr
          simp only [if_true, Bool.false_eq_true, if_false] at pr
          have hone : (avN (lims (dv T))).one = true := avN_one _
          obtain ⟨q1, q2, q3, q4⟩ := num_of ha hhd
          have m1 := fun L (hL : L.length ≤ 100) => numeral_ok (Sx σ L) T (hr2.Sx (by omega) (by omega)) (by omega)
          have m2 := fun L (hL : L.length ≤ 100) => numeral_ok (Sx σ L) (48 :: T) (hr2.Sx (by omega) (by omega)) (by simp; omega)
          rw [q1] at m1
          rw [q4] at m2
          have hsa0 : ∀ σ, vbin .add (.str [48]) (.str T) σ = .ok (.str (48 :: T)) σ := fun σ => vbin_sadd σ _ _ (by simp; omega)
          simp only [go_sem, ↓reduceIte, Nat.reduceMod, Nat.reduceEqDiff, Nat.reduceAdd, Nat.reduceMul, Nat.reduceSub, Nat.reduceLeDiff, Nat.reduceLT, Int.reduceEq, Int.reduceLT, Int.reduceLE, Int.reduceAdd, Int.reduceSub, Int.reduceNeg, reduceCtorEq, Nat.reduceShiftRight, Nat.reduceAnd, Nat.reduceBNe, Bool.not_true, Bool.not_false, decide_true, g2, g7, g8, g9, c1', p, hr2, c3', hone, pr, m1, m2, hsa0]
          exact settled_bool (hx.trans (ext_Sx hr2 (by simp))) rfl
      · have hsa1 : ∀ σ, vbin .add (.str [40, 45, 32]) (.str T) σ =   .ok (.str (40 :: 45 :: 32 :: T)) σ := fun σ => vbin_sadd σ _ _ (by simp; omega)
        have hsa2 : ∀ σ, vbin .add (.str (40 :: 45 :: 32 :: T)) (.str [41]) σ = .ok (.str (inSign T)) σ := fun σ => vbin_sadd σ _ _ (by simp; omega)
        have p := parse_ok (Sx σ []) (inSign T) hr2 (by show σ.n.val ≤ _; omega) (by simp [inSign]; omega)
        rw [parse_sign T, parse_num ha hhd] at p
        by_cases c3 : 360 < K
        · rw [if_pos (by omega), hav] at p
          have c3' : (360 : Int) < (K : Int) := by omega
          simp only [go_sem, ↓reduceIte, Nat.reduceMod, Nat.reduceEqDiff, Nat.reduceAdd, Nat.reduceMul, Nat.reduceSub, Nat.reduceLeDiff, Nat.reduceLT, Int.reduceEq, Int.reduceLT, Int.reduceLE, Int.reduceAdd, Int.reduceSub, Int.reduceNeg, reduceCtorEq, Nat.reduceShiftRight, Nat.reduceAnd, Nat.reduceBNe, Bool.not_true, Bool.not_false, g2, g7, g8, g9, c1', hsa1, hsa2, p, hr2, c3']
          exact settled_bool (hx.trans (ext_Sx hr2 (by simp))) rfl
        · rw [if_neg (by omega)] at p
          have c3' : ¬ (360 : Int) < (K : Int) := by omega
          have hll := lims_len_num ha 40 (by omega)
          have pr := fun L => print_call (Sx σ L) (.bool true) (avN (lims (dv T))) ⟨true, lims (dv T)⟩ (by show (lims (dv T)).length ≤ 100; omega) ⟨rfl, avN_nats _ _ (by omega)⟩
          rw [zText_num ha hhd] at pr
          simp only [if_true, Bool.false_eq_true, if_false] at pr
          have hone : (avN (lims (dv T))).one = true := avN_one _
          obtain ⟨q1, q2, q3, q4⟩ := num_of ha hhd
          have m1 := fun L (hL : L.length ≤ 100) => numeral_ok (Sx σ L) T (hr2.Sx (by omega) (by omega)) (by omega)
          have m2 := fun L (hL : L.length ≤ 100) => numeral_ok (Sx σ L) (48 :: T) (hr2.Sx (by omega) (by omega)) (by simp; omega)
          rw [q1] at m1
          rw [q4] at m2
          have hsa0 : ∀ σ, vbin .add (.str [48]) (.str T) σ = .ok (.str (48 :: T)) σ := fun σ => vbin_sadd σ _ _ (by simp; omega)
          simp only [go_sem, ↓reduceIte, Nat.reduceMod, Nat.reduceEqDiff, Nat.reduceAdd, Nat.reduceMul, Nat.reduceSub, Nat.reduceLeDiff, Nat.reduceLT, Int.reduceEq, Int.reduceLT, Int.reduceLE, Int.reduceAdd, Int.reduceSub, Int.reduceNeg, reduceCtorEq, Nat.reduceShiftRight, Nat.reduceAnd, Nat.reduceBNe, Bool.not_true, Bool.not_false, decide_true, g2, g7, g8, g9, c1', hsa1, hsa2, p, hr2, c3', hone, pr, m1, m2, hsa0]
          exact settled_bool (hx.trans (ext_Sx hr2 (by simp))) rfl
  · simp only [go_sem, ↓reduceIte, Nat.reduceMod, Nat.reduceEqDiff, Nat.reduceAdd, Nat.reduceMul, Nat.reduceSub, Nat.reduceLeDiff, Nat.reduceLT, Int.reduceEq, Int.reduceLT, Int.reduceLE, Int.reduceAdd, Int.reduceSub, Int.reduceNeg, reduceCtorEq, Nat.reduceShiftRight, Nat.reduceAnd, Nat.reduceBNe]
  · simp only [go_sem, ↓reduceIte, Nat.reduceMod, Nat.reduceEqDiff, Nat.reduceAdd, Nat.reduceMul, Nat.reduceSub, Nat.reduceLeDiff, Nat.reduceLT, Int.reduceEq, Int.reduceLT, Int.reduceLE, Int.reduceAdd, Int.reduceSub, Int.reduceNeg, reduceCtorEq, Nat.reduceShiftRight, Nat.reduceAnd, Nat.reduceBNe]
  · simp only [go_sem, ↓reduceIte, Nat.reduceMod, Nat.reduceEqDiff, Nat.reduceAdd, Nat.reduceMul, Nat.reduceSub, Nat.reduceLeDiff, Nat.reduceLT, Int.reduceEq, Int.reduceLT, Int.reduceLE, Int.reduceAdd, Int.reduceSub, Int.reduceNeg, reduceCtorEq, Nat.reduceShiftRight, Nat.reduceAnd, Nat.reduceBNe]
  · simp only [go_sem, ↓reduceIte, Nat.reduceMod, Nat.reduceEqDiff, Nat.reduceAdd, Nat.reduceMul, Nat.reduceSub, Nat.reduceLeDiff, Nat.reduceLT, Int.reduceEq, Int.reduceLT, Int.reduceLE, Int.reduceAdd, Int.reduceSub, Int.reduceNeg, reduceCtorEq, Nat.reduceShiftRight, Nat.reduceAnd, Nat.reduceBNe]
    rfl
theorem u8_wf {a : Int} (h : (Lit.int .u8 a).wf = true) : ∃ n : Nat, a = n ∧ n ≤ 255 := by
  have h2 : IntKind.u8.min = 0 := rfl
  have h3 : IntKind.u8.max = 255 := rfl
  simp [Lit.wf] at h
  exact ⟨a.toNat, by omega, by omega⟩
theorem long_row {a b : Int} (neg : Bool) (ha : (Lit.int .u8 a).wf = true) (hb : (Lit.int .u8 b).wf = true) : CA F.law3_DigitsLong [.int .u8 a, .int .u8 b, .bool neg] .empty = .ok (.bool true) .empty := by
  obtain ⟨n, rfl, hn⟩ := u8_wf ha
  obtain ⟨c, rfl, hc⟩ := u8_wf hb
  exact long_ok .empty n c neg room_empty (by show (0 : Nat) ≤ _; omega) hn hc
end Go.Proofs.YtkdkojnlimadnaaDoor
