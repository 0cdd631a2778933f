/- Functions of the program: more. No condition. -/
import Derived.Test.YtkdkojnlimadnaaDoorLibD
import GoSem.Op.String
import Derived.Test.YtkdkojnlimadnaaDoorLibP
namespace Go.Proofs.YtkdkojnlimadnaaDoor
open Go Go.Vm Go.Lib
set_option linter.unusedVariables false
theorem less_snoc (c d : UInt8) : ∀ (x y : List UInt8), x.length = y.length → Op.bytesLess (x ++ [c]) (y ++ [d]) = (Op.bytesLess x y || (decide (x = y) && decide (c < d)))
  | [], [], _ => by simp [Op.bytesLess]
  | [], _ :: _, h => by simp at h
  | _ :: _, [], h => by simp at h
  | a :: x, b :: y, h => by
    simp only [List.cons_append, Op.bytesLess]
    rw [less_snoc c d x y (by simpa using h)]
    by_cases h1 : a < b
    · simp [h1]
    · by_cases h2 : a = b
      · subst h2; simp [h1]
      · have h3 : (a == b) = false := by simpa using h2
        simp [h1, h3]
        exact fun h => absurd h h2
theorem dig_toNat {n : Nat} (h : n < 10) : (UInt8.ofNat (48 + n)).toNat = 48 + n := by
  rw [UInt8.toNat_ofNat']; omega
theorem padk_inj : ∀ (k a b : Nat), a < 10 ^ k → b < 10 ^ k → padk k a = padk k b → a = b
  | 0, a, b, ha, hb, _ => by simp at ha hb; omega
  | k + 1, a, b, ha, hb, h => by
    rw [Nat.pow_succ] at ha hb
    unfold padk at h
    have h1 := List.append_inj h (by rw [padk_len, padk_len])
    have h2 := padk_inj k (a / 10) (b / 10) (by omega) (by omega) h1.1
    have h3 := congrArg UInt8.toNat (List.cons.inj h1.2).1
    rw [dig_toNat (Nat.mod_lt _ (by omega)), dig_toNat (Nat.mod_lt _ (by omega))] at h3
    omega
theorem padk_less : ∀ (k a b : Nat), a < 10 ^ k → b < 10 ^ k → Op.bytesLess (padk k a) (padk k b) = decide (a < b)
  | 0, a, b, ha, hb => by simp at ha hb; subst ha; subst hb; rfl
  | k + 1, a, b, ha, hb => by
    rw [Nat.pow_succ] at ha hb
    unfold padk
    rw [less_snoc _ _ _ _ (by rw [padk_len, padk_len]), padk_less k (a / 10) (b / 10) (by omega) (by omega)]
    have hd : decide (UInt8.ofNat (48 + a % 10) < UInt8.ofNat (48 + b % 10)) = decide (a % 10 < b % 10) := by
      have e1 : (UInt8.ofNat (48 + a % 10) < UInt8.ofNat (48 + b % 10)) ↔ a % 10 < b % 10 := by
        rw [UInt8.lt_iff_toNat_lt, dig_toNat (Nat.mod_lt _ (by omega)), dig_toNat (Nat.mod_lt _ (by omega))]; omega
      simp only [e1]
    rw [hd]
    have he : decide (padk k (a / 10) = padk k (b / 10)) = decide (a / 10 = b / 10) := by
      congr 1
      exact propext ⟨fun h => padk_inj k _ _ (by omega) (by omega) h, fun h => by rw [h]⟩
    rw [he, Bool.eq_iff_iff]
    simp only [Bool.or_eq_true, Bool.and_eq_true, decide_eq_true_eq]
    omega
theorem dec_low {n : Nat} (h : 1 ≤ n) : 10 ^ ((decDigits n).length - 1) ≤ n := by
  apply Decidable.byContradiction
  intro hlt
  have hp := dec_len_pos n
  by_cases h1 : (decDigits n).length - 1 = 0
  · rw [h1] at hlt; simp at hlt; omega
  · have := dec_len_le (n := n) (k := (decDigits n).length - 1) (by omega) (by omega)
    omega
theorem dec_up (n : Nat) : n < 10 ^ (decDigits n).length := by rw [decDigits_length]; exact lt_pow_nDigits n
theorem dec_shorter {a b : Nat} (h : (decDigits a).length < (decDigits b).length) : a < b := by
  have h1 := dec_up a
  have hp := dec_len_pos a
  by_cases hb : b = 0
  · have h0 : (decDigits 0).length = 1 := by rw [dec_small (by omega)]; rfl
    subst hb; omega
  · have h2 := dec_low (n := b) (by omega)
    have h3 : 10 ^ (decDigits a).length ≤ 10 ^ ((decDigits b).length - 1) := Nat.pow_le_pow_right (by omega) (by omega)
    omega
theorem dec_pad_self (n : Nat) : decDigits n = padk (decDigits n).length n := by
  have h := pad_eq (decDigits n).length (dec_len_pos n) (dec_up n)
  rw [Nat.sub_self] at h
  exact h
theorem dec_less {a b : Nat} (h : (decDigits a).length = (decDigits b).length) : Op.bytesLess (decDigits a) (decDigits b) = decide (a < b) := by
  have ha := dec_pad_self a
  have hb := dec_pad_self b
  rw [← h] at hb
  rw [ha, hb]
  have hl := padk_len (decDigits a).length a
  rw [padk_less _ _ _ (dec_up a) (by rw [h]; exact dec_up b)]
theorem dec_inj {a b : Nat} (h : decDigits a = decDigits b) : a = b := by
  have ha := dec_pad_self a
  have hb := dec_pad_self b
  rw [← h] at hb
  exact padk_inj _ a b (dec_up a) (by rw [h]; exact dec_up b) (ha.symm.trans hb)
end Go.Proofs.YtkdkojnlimadnaaDoor
namespace Go.Proofs.YtkdkojnlimadnaaDoor
open Go Go.Vm Go.Lib
set_option linter.unusedVariables false
theorem dv_snoc (l : List UInt8) (c : UInt8) : dv (l ++ [c]) = 10 * dv l + (c.toNat - 48) := by rw [dv_app]; simp [dv, dvf]; omega
theorem dec_dv_aux : ∀ (n : Nat) (l : List UInt8), l.length ≤ n → l.all isDig = true → (∃ c r, l = c :: r ∧ 49 ≤ c.toNat) → decDigits (dv l) = l := by
  intro n
  induction n with
  | zero => intro l hl _ ⟨c, r, e, _⟩; rw [e] at hl; simp at hl
  | succ n ih =>
    intro l hl ha ⟨c, r, e, hc⟩
    have hne : l ≠ [] := by rw [e]; simp
    obtain ⟨m, d, hm⟩ : ∃ m d, l = m ++ [d] := ⟨l.dropLast, l.getLast hne, (List.dropLast_concat_getLast hne).symm⟩
    have had : isDig d = true := by rw [hm, List.all_append] at ha; simp at ha; exact ha.2
    have ham : m.all isDig = true := by rw [hm, List.all_append] at ha; simp only [Bool.and_eq_true] at ha; exact ha.1
    unfold isDig at had
    simp only [Bool.and_eq_true, decide_eq_true_eq] at had
    have hd : UInt8.ofNat (48 + (d.toNat - 48)) = d := by
      rw [show 48 + (d.toNat - 48) = d.toNat by omega]; exact UInt8.ofNat_toNat
    cases m with
    | nil =>
      rw [hm]
      have : dv ([] ++ [d]) = d.toNat - 48 := by rw [dv_snoc]; simp [dv, dvf]
      rw [this, dec_small (by omega), hd]; rfl
    | cons x m =>
      have hx : x = c := by rw [e] at hm; simpa using (List.cons.inj hm).1.symm
      subst hx
      have hp : 0 < dv (x :: m) := dv_pos hc
      rw [hm, dv_snoc, dec_big (by omega), show (10 * dv (x :: m) + (d.toNat - 48)) / 10 = dv (x :: m) by omega, show (10 * dv (x :: m) + (d.toNat - 48)) % 10 = d.toNat - 48 by omega, hd]
      rw [ih (x :: m) (by rw [hm, List.length_append] at hl; simp at hl ⊢; omega) ham ⟨x, m, rfl, hc⟩]
theorem dec_dv {l : List UInt8} (ha : l.all isDig = true) (h : ∃ c r, l = c :: r ∧ 49 ≤ c.toNat) : decDigits (dv l) = l := dec_dv_aux _ l (Nat.le_refl _) ha h
theorem num_of {l : List UInt8} (ha : l.all isDig = true) (h : ∃ c r, l = c :: r ∧ 49 ≤ c.toNat) : isNum l = true ∧ l ≠ [48] ∧ hasPrefix l [40, 45, 32] = false ∧ isNum (48 :: l) = false := by
  obtain ⟨c, r, rfl, hc⟩ := h
  have h48 : c ≠ 48 := by intro e; rw [e] at hc; exact absurd hc (by decide)
  have h40 : c ≠ 40 := by intro e; rw [e] at hc; exact absurd hc (by decide)
  refine ⟨?_, ?_, ?_, ?_⟩
  · unfold isNum; rw [ha]; simp [h48]
  · intro e; exact h48 (List.cons.inj e).1
  · unfold hasPrefix
    simp [List.isPrefixOf, Ne.symm h40]
  · unfold isNum; simp
/-- A text within the sign's parentheses. -/
def inSign (l : List UInt8) : List UInt8 := [40, 45, 32] ++ l ++ [41]
theorem parse_sign (l : List UInt8) : parseZ (inSign l) = parseR true l := by
  unfold parseZ inSign
  have h1 : hasPrefix ([40, 45, 32] ++ l ++ [41]) [40, 45, 32] = true := by simp [hasPrefix, List.isPrefixOf]
  have h2 : ([40, 45, 32] ++ l ++ [41] : List UInt8).drop 3 = l ++ [41] := rfl
  have h3 : hasSuffix (l ++ [41]) [41] = true := by unfold hasSuffix; rw [List.isSuffixOf_iff_suffix]; exact ⟨l, rfl⟩
  rw [if_pos h1, h2, if_pos h3]
  congr 1
  rw [List.length_append]
  simp
theorem parse_plain {l : List UInt8} (ha : l.all isDig = true) (h : ∃ c r, l = c :: r ∧ 49 ≤ c.toNat) : parseZ l = parseR false l := by
  unfold parseZ
  rw [(num_of ha h).2.2.1]; rfl
theorem parse_num {l : List UInt8} (ha : l.all isDig = true) (h : ∃ c r, l = c :: r ∧ 49 ≤ c.toNat) (b : Bool) : parseR b l = if 360 < l.length then (⟨false, []⟩, 11) else (⟨b, lims (dv l)⟩, 0) := by
  obtain ⟨h1, h2, _, _⟩ := num_of ha h
  unfold parseR
  rw [if_neg (by rw [h1]; simp [h2])]
end Go.Proofs.YtkdkojnlimadnaaDoor
namespace Go.Vm
set_option linter.unusedVariables false
noncomputable def vtostr (a : AV) (s : St) : R :=
  a.onSl .no (.ok (.str []) s) (fun b o l _ _ => (s.obj b).onCells .no fun cs => br (Nat.ble (Nat.add o l) (ln cs)) (cellBytes (tk l (dr o cs)) fun r => .ok (.str r) s) .no) fun cs l _ _ => br (Nat.beq l (ln cs)) (cellBytes cs fun r => .ok (.str r) s) .no
theorem p_tostr (call : CallT) (f : Fr AV) (s : St) (x : CO) : exop (.tostr x) call f s = vtostr (ev1 f x) s := nd rfl
/-- A text of one letter. -/
theorem vtostr_one {s : St} {L : List AO} (hr : Room s) (hl : L.length ≤ 5000) {i : Nat} {n : Int} (hi : L[i]? = some (.cells [.int .u8 n])) : vtostr (.sl (nm s i) 0 1 1 0) (Sx s L) = .ok (.str [UInt8.ofNat n.toNat]) (Sx s L) := by
  have h := Sx_obj? hr hl hi
  unfold vtostr
  simp only [AV.onSl]
  rw [h]
  rfl
theorem vlen_nils0 (s : St) : vlen .nils s = .ok (.int .i64 0) s := nd rfl
attribute [go_sem] p_tostr vlen_nils0
end Go.Vm
namespace Go.Proofs.YtkdkojnlimadnaaDoor
open Go Go.Vm Go.Lib
set_option linter.unusedVariables false
set_option linter.unusedSimpArgs false
theorem zText_num {l : List UInt8} (ha : l.all isDig = true) (h : ∃ c r, l = c :: r ∧ 49 ≤ c.toNat) (b : Bool) : zText ⟨b, lims (dv l)⟩ = if b = true then inSign l else l := by
  have hp : 0 < dv l := by obtain ⟨c, r, rfl, hc⟩ := h; exact dv_pos hc
  have hz : zIs ⟨b, lims (dv l)⟩ = true := by
    unfold zIs
    simp only [lims_is, Bool.true_and, Bool.or_eq_true, Bool.not_eq_true', decide_eq_true_eq]
    right; exact lims_ne (by omega)
  unfold zText
  rw [zh_self hz]
  simp only [val_lims, dec_dv ha h]
  rfl
theorem lims_len_num {l : List UInt8} (ha : l.all isDig = true) (k : Nat) (hl : l.length ≤ 9 * k) : (lims (dv l)).length ≤ k := by
  refine lims_len ?_
  have h1 := dv_lt ha
  have h2 : 10 ^ l.length ≤ 10 ^ (9 * k) := Nat.pow_le_pow_right (by omega) hl
  rw [Nat.pow_mul, show (10 : Nat) ^ 9 = 1000000000 from rfl] at h2
  omega
theorem long_ok (s : St) (n c : Nat) (neg : Bool) (hr : Room s) (hn : s.n.val ≤ 10000) (h1 : n ≤ 255) (h2 : c ≤ 255) : CA F.law3_DigitsLong [.int .u8 (n : Int), .int .u8 (c : Int), .bool neg] s = .ok (.bool true) s := by
  have hk := known_ok (Sx s []) hr (by show s.n.val ≤ _; omega)
  have e1 : ∀ σ, vbin .rem (.int .u8 (n : Int)) (.int .u8 3) σ = .ok (.int .u8 ((n % 3 : Nat) : Int)) σ := fun σ => (vbin_rem σ .u8 (n : Int) 3 (by decide)).trans rfl
  have e2 : ∀ σ, vbin .rem (.int .u8 (c : Int)) (.int .u8 9) σ = .ok (.int .u8 ((c % 9 : Nat) : Int)) σ := fun σ => (vbin_rem σ .u8 (c : Int) 9 (by decide)).trans rfl
  obtain ⟨K, hK⟩ : ∃ K, K = 359 + n % 3 := ⟨_, rfl⟩
  have e0 : IntKind.wrap .i64 ((n % 3 : Nat) : Int) = ((n % 3 : Nat) : Int) := wrap_i64 (by omega) (by omega)
  have e3 : IntKind.wrap .i64 (359 + ((n % 3 : Nat) : Int)) = (K : Int) := by rw [wrap_i64 (by omega) (by omega)]; omega
  have e4 : IntKind.wrap .u8 (49 + ((c % 9 : Nat) : Int)) = ((49 + c % 9 : Nat) : Int) := by rw [wrap_u8 (by omega) (by omega)]; omega
  have hs0 := vtostr_one (s := s) (L := [.cells [.int .u8 ((49 + c % 9 : Nat) : Int)]]) (n := ((49 + c % 9 : Nat) : Int)) hr (by simp) (i := 0) rfl
  rw [Int.toNat_natCast] at hs0
  have hx1 := ext_Sx (s := s) (l := [.cells [.int .u8 ((49 + c % 9 : Nat) : Int)]]) hr (by simp)
  have hn1 := Sx_n (s := s) (l := [.cells [.int .u8 ((49 + c % 9 : Nat) : Int)]]) hr (by simp)
  simp only [List.length_cons, List.length_nil] at hn1
  have hr1 : Room (Sx s [.cells [.int .u8 ((49 + c % 9 : Nat) : Int)]]) := hr.Sx (by simp; omega) (by simp)
  have hc0 : (UInt8.ofNat (49 + c % 9)).toNat = 49 + c % 9 := by rw [UInt8.toNat_ofNat']; omega
  generalize UInt8.ofNat (49 + c % 9) = c0 at hs0 hc0
  have hd0 : isDig c0 = true := by unfold isDig; simp; omega
  refine fn_of code_law3_DigitsLong (by simp) ?_
  simp only [go_sem, ↓reduceIte, Nat.reduceMod, Nat.reduceEqDiff, Nat.reduceAdd, Nat.reduceMul, Nat.reduceSub, Nat.reduceLeDiff, Nat.reduceLT, Int.reduceEq, Int.reduceLT, Int.reduceLE, Int.reduceAdd, Int.reduceSub, Int.reduceNeg, reduceCtorEq, Nat.reduceShiftRight, Nat.reduceAnd, Nat.reduceBNe, Bool.not_true, Bool.not_false, hk, e0, e1, e2, e3, e4, hr, hs0]
  generalize Sx s [.cells [.int .u8 ((49 + c % 9 : Nat) : Int)]] = s1 at *
  refine W_inv (fun k f τ => ∃ (i : Nat) (T : List UInt8) (σ : St), Sx σ [] = τ ∧ Room σ ∧ Ext s σ ∧ σ.n.val ≤ s.n.val + 1 + i ∧ k = K - i ∧ 1 ≤ i ∧ i ≤ K ∧ T.length = i ∧ T.all isDig = true ∧ (∃ c0 r, T = c0 :: r ∧ 49 ≤ c0.toNat) ∧ (vv 2).get f = .bool neg ∧ (vv 7).get f = .int .i64 (K : Int) ∧ (vv 8).get f = .str T ∧ (vv 9).get f = .int .i64 (i : Int)) ?_ ⟨1, [c0], s1, Sx_nil _, hr1, hx1, by omega, rfl, by omega, by omega, rfl, by simp [hd0], ⟨c0, [], rfl, by omega⟩, ?_, ?_, ?_, ?_⟩
  · rintro k f τ ⟨i, T, σ, rfl, hr2, hx, hn2, rfl, hi1, hi, hT, ha, hhd, g2, g7, g8, g9⟩
    by_cases c1 : i < K
    · have c1' : (i : Int) < (K : Int) := by omega
      have e5 : ∀ σ, vbin .rem (.int .i64 (i : Int)) (.int .i64 10) σ = .ok (.int .i64 ((i % 10 : Nat) : Int)) σ := fun σ => (vbin_rem σ .i64 (i : Int) 10 (by decide)).trans rfl
      have e6 : IntKind.wrap .u8 ((i % 10 : Nat) : Int) = ((i % 10 : Nat) : Int) := wrap_u8 (by omega) (by omega)
      have e7 : IntKind.wrap .u8 (48 + ((i % 10 : Nat) : Int)) = ((48 + i % 10 : Nat) : Int) := by rw [wrap_u8 (by omega) (by omega)]; omega
      have hs1 := vtostr_one (s := σ) (L := [.cells [.int .u8 ((48 + i % 10 : Nat) : Int)]]) (n := ((48 + i % 10 : Nat) : Int)) hr2 (by simp) (i := 0) rfl
      rw [Int.toNat_natCast] at hs1
      have hdd : isDig (UInt8.ofNat (48 + i % 10)) = true := by
        have : (UInt8.ofNat (48 + i % 10)).toNat = 48 + i % 10 := dig_toNat (Nat.mod_lt _ (by omega))
        unfold isDig; simp only [this, Bool.and_eq_true, decide_eq_true_eq]; omega
      generalize UInt8.ofNat (48 + i % 10) = dd at *
      have hsa : ∀ σ, vbin .add (.str T) (.str [dd]) σ = .ok (.str (T ++ [dd])) σ := fun σ => vbin_sadd σ _ _ (by simp; omega)
      simp only [go_sem, ↓reduceIte, Nat.reduceMod, Nat.reduceEqDiff, Nat.reduceAdd, Nat.reduceMul, Nat.reduceSub, Nat.reduceLeDiff, Nat.reduceLT, Int.reduceEq, Int.reduceLT, Int.reduceLE, Int.reduceAdd, Int.reduceSub, Int.reduceNeg, reduceCtorEq, Nat.reduceShiftRight, Nat.reduceAnd, Nat.reduceBNe, g2, g7, g8, g9, c1', e5, e6, e7, hr2, hs1, hsa]
      refine ⟨K - (i + 1), by omega, i + 1, T ++ [dd], _, Sx_nil _, hr2.Sx (by simp; omega) (by simp), hx.trans (ext_Sx hr2 (by simp)), ?_, rfl, by omega, by omega, by simp [hT], ?_, ?_, ?_⟩
      · rw [Sx_n hr2 (by simp)]; simp; omega
      · rw [List.all_append, ha]; simp [hdd]
      · obtain ⟨c0, r, e, h⟩ := hhd; exact ⟨c0, r ++ [dd], by rw [e]; rfl, h⟩
      · rw [wrap_i64 (by omega) (by omega)]; exact ⟨rfl, rfl⟩
    · have hiK : i = K := by omega
      have c1' : ¬ (i : Int) < (K : Int) := by omega
      have hav : avN [] = .nils := if_pos rfl
      cases neg
      · have p := parse_ok (Sx σ []) (T) hr2 (by show σ.n.val ≤ _; omega) (by omega)
        rw [parse_plain ha hhd, parse_num ha hhd] at p
        by_cases c3 : 360 < K
        · rw [if_pos (by omega), hav] at p
          have c3' : (360 : Int) < (K : Int) := by omega
          simp only [go_sem, ↓reduceIte, Nat.reduceMod, Nat.reduceEqDiff, Nat.reduceAdd, Nat.reduceMul, Nat.reduceSub, Nat.reduceLeDiff, Nat.reduceLT, Int.reduceEq, Int.reduceLT, Int.reduceLE, Int.reduceAdd, Int.reduceSub, Int.reduceNeg, reduceCtorEq, Nat.reduceShiftRight, Nat.reduceAnd, Nat.reduceBNe, Bool.not_true, Bool.not_false, g2, g7, g8, g9, c1', p, hr2, c3']
          exact settled_bool (hx.trans (ext_Sx hr2 (by simp))) rfl
        · rw [if_neg (by omega)] at p
          have c3' : ¬ (360 : Int) < (K : Int) := by omega
          have hll := lims_len_num ha 40 (by omega)
          have pr := fun L => print_call (Sx σ L) (.bool false) (avN (lims (dv T))) ⟨false, lims (dv T)⟩ (by show (lims (dv T)).length ≤ 100; omega) ⟨rfl, avN_nats _ _ (by omega)⟩
          rw [zText_num ha hhd] at pr
          simp only [if_true, Bool.false_eq_true, if_false] at pr
          have hone : (avN (lims (dv T))).one = true := avN_one _
          obtain ⟨q1, q2, q3, q4⟩ := num_of ha hhd
          have m1 := fun L (hL : L.length ≤ 100) => numeral_ok (Sx σ L) T (hr2.Sx (by omega) (by omega)) (by omega)
          have m2 := fun L (hL : L.length ≤ 100) => numeral_ok (Sx σ L) (48 :: T) (hr2.Sx (by omega) (by omega)) (by simp; omega)
          rw [q1] at m1
          rw [q4] at m2
          have hsa0 : ∀ σ, vbin .add (.str [48]) (.str T) σ = .ok (.str (48 :: T)) σ := fun σ => vbin_sadd σ _ _ (by simp; omega)
          simp only [go_sem, ↓reduceIte, Nat.reduceMod, Nat.reduceEqDiff, Nat.reduceAdd, Nat.reduceMul, Nat.reduceSub, Nat.reduceLeDiff, Nat.reduceLT, Int.reduceEq, Int.reduceLT, Int.reduceLE, Int.reduceAdd, Int.reduceSub, Int.reduceNeg, reduceCtorEq, Nat.reduceShiftRight, Nat.reduceAnd, Nat.reduceBNe, Bool.not_true, Bool.not_false, decide_true, g2, g7, g8, g9, c1', p, hr2, c3', hone, pr, m1, m2, hsa0]
          exact settled_bool (hx.trans (ext_Sx hr2 (by simp))) rfl
      · have hsa1 : ∀ σ, vbin .add (.str [40, 45, 32]) (.str T) σ =   .ok (.str (40 :: 45 :: 32 :: T)) σ := fun σ => vbin_sadd σ _ _ (by simp; omega)
        have hsa2 : ∀ σ, vbin .add (.str (40 :: 45 :: 32 :: T)) (.str [41]) σ = .ok (.str (inSign T)) σ := fun σ => vbin_sadd σ _ _ (by simp; omega)
        have p := parse_ok (Sx σ []) (inSign T) hr2 (by show σ.n.val ≤ _; omega) (by simp [inSign]; omega)
        rw [parse_sign T, parse_num ha hhd] at p
        by_cases c3 : 360 < K
        · rw [if_pos (by omega), hav] at p
          have c3' : (360 : Int) < (K : Int) := by omega
          simp only [go_sem, ↓reduceIte, Nat.reduceMod, Nat.reduceEqDiff, Nat.reduceAdd, Nat.reduceMul, Nat.reduceSub, Nat.reduceLeDiff, Nat.reduceLT, Int.reduceEq, Int.reduceLT, Int.reduceLE, Int.reduceAdd, Int.reduceSub, Int.reduceNeg, reduceCtorEq, Nat.reduceShiftRight, Nat.reduceAnd, Nat.reduceBNe, Bool.not_true, Bool.not_false, g2, g7, g8, g9, c1', hsa1, hsa2, p, hr2, c3']
          exact settled_bool (hx.trans (ext_Sx hr2 (by simp))) rfl
        · rw [if_neg (by omega)] at p
          have c3' : ¬ (360 : Int) < (K : Int) := by omega
          have hll := lims_len_num ha 40 (by omega)
          have pr := fun L => print_call (Sx σ L) (.bool true) (avN (lims (dv T))) ⟨true, lims (dv T)⟩ (by show (lims (dv T)).length ≤ 100; omega) ⟨rfl, avN_nats _ _ (by omega)⟩
          rw [zText_num ha hhd] at pr
          simp only [if_true, Bool.false_eq_true, if_false] at pr
          have hone : (avN (lims (dv T))).one = true := avN_one _
          obtain ⟨q1, q2, q3, q4⟩ := num_of ha hhd
          have m1 := fun L (hL : L.length ≤ 100) => numeral_ok (Sx σ L) T (hr2.Sx (by omega) (by omega)) (by omega)
          have m2 := fun L (hL : L.length ≤ 100) => numeral_ok (Sx σ L) (48 :: T) (hr2.Sx (by omega) (by omega)) (by simp; omega)
          rw [q1] at m1
          rw [q4] at m2
          have hsa0 : ∀ σ, vbin .add (.str [48]) (.str T) σ = .ok (.str (48 :: T)) σ := fun σ => vbin_sadd σ _ _ (by simp; omega)
          simp only [go_sem, ↓reduceIte, Nat.reduceMod, Nat.reduceEqDiff, Nat.reduceAdd, Nat.reduceMul, Nat.reduceSub, Nat.reduceLeDiff, Nat.reduceLT, Int.reduceEq, Int.reduceLT, Int.reduceLE, Int.reduceAdd, Int.reduceSub, Int.reduceNeg, reduceCtorEq, Nat.reduceShiftRight, Nat.reduceAnd, Nat.reduceBNe, Bool.not_true, Bool.not_false, decide_true, g2, g7, g8, g9, c1', hsa1, hsa2, p, hr2, c3', hone, pr, m1, m2, hsa0]
          exact settled_bool (hx.trans (ext_Sx hr2 (by simp))) rfl
  · simp only [go_sem, ↓reduceIte, Nat.reduceMod, Nat.reduceEqDiff, Nat.reduceAdd, Nat.reduceMul, Nat.reduceSub, Nat.reduceLeDiff, Nat.reduceLT, Int.reduceEq, Int.reduceLT, Int.reduceLE, Int.reduceAdd, Int.reduceSub, Int.reduceNeg, reduceCtorEq, Nat.reduceShiftRight, Nat.reduceAnd, Nat.reduceBNe]
  · simp only [go_sem, ↓reduceIte, Nat.reduceMod, Nat.reduceEqDiff, Nat.reduceAdd, Nat.reduceMul, Nat.reduceSub, Nat.reduceLeDiff, Nat.reduceLT, Int.reduceEq, Int.reduceLT, Int.reduceLE, Int.reduceAdd, Int.reduceSub, Int.reduceNeg, reduceCtorEq, Nat.reduceShiftRight, Nat.reduceAnd, Nat.reduceBNe]
  · simp only [go_sem, ↓reduceIte, Nat.reduceMod, Nat.reduceEqDiff, Nat.reduceAdd, Nat.reduceMul, Nat.reduceSub, Nat.reduceLeDiff, Nat.reduceLT, Int.reduceEq, Int.reduceLT, Int.reduceLE, Int.reduceAdd, Int.reduceSub, Int.reduceNeg, reduceCtorEq, Nat.reduceShiftRight, Nat.reduceAnd, Nat.reduceBNe]
  · simp only [go_sem, ↓reduceIte, Nat.reduceMod, Nat.reduceEqDiff, Nat.reduceAdd, Nat.reduceMul, Nat.reduceSub, Nat.reduceLeDiff, Nat.reduceLT, Int.reduceEq, Int.reduceLT, Int.reduceLE, Int.reduceAdd, Int.reduceSub, Int.reduceNeg, reduceCtorEq, Nat.reduceShiftRight, Nat.reduceAnd, Nat.reduceBNe]
    rfl
theorem u8_wf {a : Int} (h : (Lit.int .u8 a).wf = true) : ∃ n : Nat, a = n ∧ n ≤ 255 := by
  have h2 : IntKind.u8.min = 0 := rfl
  have h3 : IntKind.u8.max = 255 := rfl
  simp [Lit.wf] at h
  exact ⟨a.toNat, by omega, by omega⟩
theorem long_row {a b : Int} (neg : Bool) (ha : (Lit.int .u8 a).wf = true) (hb : (Lit.int .u8 b).wf = true) : CA F.law3_DigitsLong [.int .u8 a, .int .u8 b, .bool neg] .empty = .ok (.bool true) .empty := by
  obtain ⟨n, rfl, hn⟩ := u8_wf ha
  obtain ⟨c, rfl, hc⟩ := u8_wf hb
  exact long_ok .empty n c neg room_empty (by show (0 : Nat) ≤ _; omega) hn hc
end Go.Proofs.YtkdkojnlimadnaaDoor
namespace Go.Vm
set_option linter.unusedVariables false
noncomputable def vpaddr (n sz : Nat) (p i : AV) (s : St) : R := p.onPtr .no (fun b o => i.idx n fun m => .ok (.ptr b (o + m * sz)) s) fun _ => .no
theorem p_paddr (call : CallT) (f : Fr AV) (s : St) (n sz : Nat) (x i : CO) : exop (.paddr n sz x i) call f s = vpaddr n sz (ev1 f x) (ev1 f i) s := nd rfl
theorem vpaddr_ptr {n m : Nat} (h : m < n) (j : IntKind) (b : Id) (o : Nat) (s : St) : vpaddr n 1 (.ptr b o) (.int j (m : Int)) s = .ok (.ptr b (o + m)) s := by
  show (AV.int j (m : Int)).idx n (fun m => R.ok (.ptr b (o + m * 1)) s) = _
  rw [idx_eq (by omega) (by omega)]; simp
attribute [go_sem] p_paddr
end Go.Vm
namespace Go.Proofs.YtkdkojnlimadnaaDoor
open Go Go.Vm Go.Lib
set_option linter.unusedVariables false
set_option linter.unusedSimpArgs false
theorem dec_facts : ∀ (n : Nat), 1 ≤ n → (decDigits n).all isDig = true ∧ (∃ c r, decDigits n = c :: r ∧ 49 ≤ c.toNat) ∧ dv (decDigits n) = n := by
  intro n
  induction n using Nat.strongRecOn with
  | _ n ih =>
    intro h1
    have dig : ∀ k, k < 10 → isDig (UInt8.ofNat (48 + k)) = true ∧ (UInt8.ofNat (48 + k)).toNat = 48 + k := fun k hk => by
      have := dig_toNat hk
      refine ⟨?_, this⟩
      unfold isDig
      simp only [this, Bool.and_eq_true, decide_eq_true_eq]; omega
    by_cases h : n < 10
    · rw [dec_small h]
      obtain ⟨d1, d2⟩ := dig n h
      refine ⟨by rw [List.all_cons, d1]; rfl, ⟨_, [], rfl, by omega⟩, ?_⟩
      have : dv [UInt8.ofNat (48 + n)] = (UInt8.ofNat (48 + n)).toNat - 48 := by show 10 * 0 + _ = _; omega
      rw [this, d2]; omega
    · rw [dec_big h]
      obtain ⟨i1, ⟨c, r, i2, i3⟩, i4⟩ := ih (n / 10) (by omega) (by omega)
      obtain ⟨d1, d2⟩ := dig (n % 10) (by omega)
      refine ⟨by rw [List.all_append, i1, List.all_cons, d1]; rfl, ⟨c, r ++ [UInt8.ofNat (48 + n % 10)], by rw [i2]; rfl, i3⟩, ?_⟩
      rw [dv_snoc, i4, d2]; omega
theorem num_bad {l : List UInt8} (h : l.all isDig = false) : isNum l = false := by unfold isNum; rw [h]; rfl
theorem parse_in {d : List UInt8} (h : d.all isDig = false) : parseZ (inSign d) = (⟨false, []⟩, 10) := by rw [parse_sign]; unfold parseR; rw [if_pos (.inl (num_bad h))]
theorem parse_out {l : List UInt8} (hp : hasPrefix l [40, 45, 32] = false) (h : l.all isDig = false) : parseZ l = (⟨false, []⟩, 10) := by
  unfold parseZ; rw [hp]
  show parseR false l = _
  unfold parseR; rw [if_pos (.inl (num_bad h))]
theorem signs_ok (s : St) (n w : Nat) (hr : Room s) (hn : s.n.val ≤ 10000) (h1 : n ≤ 4294967295) (h2 : w ≤ 255) : CA F.law3_DigitsSigns [.int .u32 (n : Int), .int .u8 (w : Int)] s = .ok (.bool true) s := by
  have hL1 : ∀ L : List AO, L.length ≤ 100 → Room (Sx s L) ∧ (Sx s L).n.val ≤ 10100 ∧ Ext s (Sx s L) := fun L hL => ⟨hr.Sx (by omega) (by omega), by rw [Sx_n hr (by omega)]; omega, ext_Sx hr (by omega)⟩
  have hk := known_ok (Sx s []) hr (by show s.n.val ≤ _; omega)
  have w1 : IntKind.wrap .i64 (n : Int) = (n : Int) := wrap_i64 (by omega) (by omega)
  have w2 : IntKind.wrap .i64 ((n : Int) + 1) = ((n + 1 : Nat) : Int) := by rw [wrap_i64 (by omega) (by omega)]; omega
  have w3 : IntKind.wrap .i64 (-(n : Int)) = -(n : Int) := wrap_i64 (by omega) (by omega)
  have w4 : IntKind.wrap .i64 (-(n : Int) - 1) = -((n + 1 : Nat) : Int) := by rw [wrap_i64 (by omega) (by omega)]; omega
  have hll : (lims (n + 1)).length ≤ 3 := lims_len (by omega)
  have o1 := Of_ok (Sx s []) ((n + 1 : Nat) : Int) hr (by show s.n.val ≤ _; omega) (by omega)
  have z1 : zOf ((n + 1 : Nat) : Int) = ⟨false, lims (n + 1)⟩ := by unfold zOf; rw [decide_eq_false (by omega), Int.natAbs_natCast]
  have pr := print_call (Sx s []) _ _ (zOf ((n + 1 : Nat) : Int)) (by rw [z1]; show (lims (n + 1)).length ≤ 100; omega) (rz_av (Sx s []) _ (by rw [z1]; show (lims (n + 1)).length ≤ _; omega))
  rw [zText_of, if_neg (by omega), Int.natAbs_natCast] at pr
  have o2 := fun L hL => Of_ok (Sx s L) (-((n + 1 : Nat) : Int)) (hL1 L hL).1 (by have := (hL1 L hL).2.1; omega) (by omega)
  have z2 : zOf (-((n + 1 : Nat) : Int)) = ⟨true, lims (n + 1)⟩ := by unfold zOf; rw [decide_eq_true (by omega), Int.natAbs_neg, Int.natAbs_natCast]
  rw [z2] at o2
  simp only at o2
  obtain ⟨da, dh, dd⟩ := dec_facts (n + 1) (by omega)
  have hDl : (decDigits (n + 1)).length ≤ 10 := dec_len_le (by omega) (by omega)
  generalize hD : decDigits (n + 1) = D at *
  have bad : ∀ (x : UInt8) (l : List UInt8), isDig x = false → x ∈ l → l.all isDig = false := fun x l hx hm => by
    rw [Bool.eq_false_iff]; intro h; rw [List.all_eq_true] at h; rw [h x hm] at hx; cases hx
  obtain ⟨c0, r0, hDe, hc0⟩ := dh
  have hpz : parseZ (inSign D) = (⟨true, lims (n + 1)⟩, 0) := by rw [parse_sign, parse_num da ⟨c0, r0, hDe, hc0⟩, if_neg (by omega), dd]
  have pS := fun L hL => parse_ok (Sx s L) (inSign D) (hL1 L hL).1 (by have := (hL1 L hL).2.1; omega) (by simp [inSign]; omega)
  rw [hpz] at pS
  simp only at pS
  have q9 := fun L hL => equal_ok (Sx s L) (.bool true) (avN (lims (n + 1))) (.bool true) (avN (lims (n + 1))) ⟨true, lims (n + 1)⟩ ⟨true, lims (n + 1)⟩ (hL1 L hL).1 (by have := (hL1 L hL).2.1; show _ + 9 * (lims (n + 1)).length + _ ≤ _; omega) ⟨rfl, avN_nats _ _ (by omega)⟩ ⟨rfl, avN_nats _ _ (by omega)⟩
  simp only [decide_true] at q9
  have hone : (avN (lims (n + 1))).one = true := avN_one _
  have hav : avN [] = .nils := if_pos rfl
  have pbad : ∀ (X : List UInt8), X.length ≤ 100 → parseZ X = (⟨false, []⟩, 10) → ∀ L : List AO, L.length ≤ 100 → CA F.digits_Parse [.str X] (Sx s L) = .ok (.tup [.agg [.bool false, .nils], .int .i64 10]) (Sx s L) := fun X hX he L hL => by
    have := parse_ok (Sx s L) X (hL1 L hL).1 (by have := (hL1 L hL).2.1; omega) (by omega)
    rw [he, hav] at this
    exact this
  obtain ⟨A0, eA0⟩ : ∃ X : List UInt8, X = [45] ++ D := ⟨_, rfl⟩
  have lA0 : A0.length ≤ 20 := by rw [eA0, List.length_append]; simp; omega
  have sA0 : ∀ σ, vbin .add (.str [45]) (.str D) σ = .ok (.str A0) σ := fun σ => by rw [eA0]; exact vbin_sadd σ _ _ (by simp; omega)
  obtain ⟨A1, eA1⟩ : ∃ X : List UInt8, X = [40, 45] ++ D := ⟨_, rfl⟩
  have lA1 : A1.length ≤ 20 := by rw [eA1, List.length_append]; simp; omega
  have sA1 : ∀ σ, vbin .add (.str [40, 45]) (.str D) σ = .ok (.str A1) σ := fun σ => by rw [eA1]; exact vbin_sadd σ _ _ (by simp; omega)
  obtain ⟨B1, eB1⟩ : ∃ X : List UInt8, X = A1 ++ [41] := ⟨_, rfl⟩
  have lB1 : B1.length ≤ 30 := by rw [eB1, List.length_append]; simp; omega
  have sB1 : ∀ σ, vbin .add (.str A1) (.str [41]) σ = .ok (.str B1) σ := fun σ => by rw [eB1]; exact vbin_sadd σ _ _ (by simp; omega)
  obtain ⟨A2, eA2⟩ : ∃ X : List UInt8, X = [40, 45, 32] ++ D := ⟨_, rfl⟩
  have lA2 : A2.length ≤ 20 := by rw [eA2, List.length_append]; simp; omega
  have sA2 : ∀ σ, vbin .add (.str [40, 45, 32]) (.str D) σ = .ok (.str A2) σ := fun σ => by rw [eA2]; exact vbin_sadd σ _ _ (by simp; omega)
  obtain ⟨A4, eA4⟩ : ∃ X : List UInt8, X = [40, 32, 45, 32] ++ D := ⟨_, rfl⟩
  have lA4 : A4.length ≤ 20 := by rw [eA4, List.length_append]; simp; omega
  have sA4 : ∀ σ, vbin .add (.str [40, 32, 45, 32]) (.str D) σ = .ok (.str A4) σ := fun σ => by rw [eA4]; exact vbin_sadd σ _ _ (by simp; omega)
  obtain ⟨B4, eB4⟩ : ∃ X : List UInt8, X = A4 ++ [41] := ⟨_, rfl⟩
  have lB4 : B4.length ≤ 30 := by rw [eB4, List.length_append]; simp; omega
  have sB4 : ∀ σ, vbin .add (.str A4) (.str [41]) σ = .ok (.str B4) σ := fun σ => by rw [eB4]; exact vbin_sadd σ _ _ (by simp; omega)
  obtain ⟨B5, eB5⟩ : ∃ X : List UInt8, X = A2 ++ [32, 41] := ⟨_, rfl⟩
  have lB5 : B5.length ≤ 30 := by rw [eB5, List.length_append]; simp; omega
  have sB5 : ∀ σ, vbin .add (.str A2) (.str [32, 41]) σ = .ok (.str B5) σ := fun σ => by rw [eB5]; exact vbin_sadd σ _ _ (by simp; omega)
  obtain ⟨A6, eA6⟩ : ∃ X : List UInt8, X = [43] ++ D := ⟨_, rfl⟩
  have lA6 : A6.length ≤ 20 := by rw [eA6, List.length_append]; simp; omega
  have sA6 : ∀ σ, vbin .add (.str [43]) (.str D) σ = .ok (.str A6) σ := fun σ => by rw [eA6]; exact vbin_sadd σ _ _ (by simp; omega)
  obtain ⟨A7, eA7⟩ : ∃ X : List UInt8, X = [40, 45, 32, 40, 45, 32] ++ D := ⟨_, rfl⟩
  have lA7 : A7.length ≤ 20 := by rw [eA7, List.length_append]; simp; omega
  have sA7 : ∀ σ, vbin .add (.str [40, 45, 32, 40, 45, 32]) (.str D) σ = .ok (.str A7) σ := fun σ => by rw [eA7]; exact vbin_sadd σ _ _ (by simp; omega)
  obtain ⟨B7, eB7⟩ : ∃ X : List UInt8, X = A7 ++ [41, 41] := ⟨_, rfl⟩
  have lB7 : B7.length ≤ 30 := by rw [eB7, List.length_append]; simp; omega
  have sB7 : ∀ σ, vbin .add (.str A7) (.str [41, 41]) σ = .ok (.str B7) σ := fun σ => by rw [eB7]; exact vbin_sadd σ _ _ (by simp; omega)
  obtain ⟨S2, eS2⟩ : ∃ X : List UInt8, X = A2 ++ [41] := ⟨_, rfl⟩
  have lS2 : S2.length ≤ 30 := by rw [eS2, List.length_append]; simp; omega
  have sS2 : ∀ σ, vbin .add (.str A2) (.str [41]) σ = .ok (.str S2) σ := fun σ => by rw [eS2]; exact vbin_sadd σ _ _ (by simp; omega)
  have eS : S2 = inSign D := by rw [eS2, eA2]; rfl
  rw [← eS] at pS
  have zA2 : parseZ A2 = (⟨false, []⟩, 10) := by
    have h1 : hasPrefix A2 [40, 45, 32] = true := by rw [eA2]; simp [hasPrefix, List.isPrefixOf]
    have h2 : A2.drop 3 = D := by rw [eA2]; rfl
    have h3 : ¬ hasSuffix D [41] = true := by
      unfold hasSuffix
      rw [List.isSuffixOf_iff_suffix]
      rintro ⟨t, ht⟩
      have : (41 : UInt8) ∈ D := by rw [← ht]; simp
      rw [List.all_eq_true] at da
      exact absurd (da 41 this) (by decide)
    unfold parseZ
    rw [if_pos h1, h2, if_neg h3]
  have zZ3 : parseZ [40, 45, 32, 48, 41] = (⟨false, []⟩, 10) := by
    show parseZ (inSign [48]) = _
    rw [parse_sign]; rfl
  have pA0 := pbad A0 (by omega) (parse_out (by rw [eA0]; rfl) (bad 45 _ (by decide) (by rw [eA0]; simp)))
  have pB1 := pbad B1 (by omega) (parse_out (by rw [eB1, eA1, hDe]; simp [hasPrefix, List.isPrefixOf]; intro h; rw [← h] at hc0; exact absurd hc0 (by decide)) (bad 40 _ (by decide) (by rw [eB1, eA1]; simp)))
  have pA2 := pbad A2 (by omega) (zA2)
  have pZ3 := pbad [40, 45, 32, 48, 41] (by simp) (zZ3)
  have pB4 := pbad B4 (by omega) (parse_out (by rw [eB4, eA4]; rfl) (bad 40 _ (by decide) (by rw [eB4, eA4]; simp)))
  have pB5 := pbad B5 (by omega) ((show parseZ B5 = _ by rw [show B5 = inSign (D ++ [32]) by rw [eB5, eA2]; simp [inSign]]; exact parse_in (bad 32 _ (by decide) (by simp))))
  have pA6 := pbad A6 (by omega) (parse_out (by rw [eA6]; rfl) (bad 43 _ (by decide) (by rw [eA6]; simp)))
  have pB7 := pbad B7 (by omega) ((show parseZ B7 = _ by rw [show B7 = inSign (inSign D) by rw [eB7, eA7]; simp [inSign]]; exact parse_in (bad 40 _ (by decide) (by simp [inSign]))))
  generalize avN (zOf ((n + 1 : Nat) : Int)).mag = M at *
  generalize (zOf ((n + 1 : Nat) : Int)).neg = G at *
  generalize avN (lims (n + 1)) = A at *
  clear eA0 eA1 eB1 eA2 eA4 eB4 eB5 eA6 eA7 eB7 eS2 eS hDe zA2 zZ3 pbad
  refine fn_of code_law3_DigitsSigns (by simp) ?_
  have h8 : w % 8 < 8 := Nat.mod_lt _ (by omega)
  have hrem : ∀ σ, vbin .rem (.int .u8 (w : Int)) (.int .u8 8) σ = .ok (.int .u8 ((w % 8 : Nat) : Int)) σ := fun σ => (vbin_rem σ .u8 (w : Int) 8 (by decide)).trans rfl
  have hpa := fun b o σ => vpaddr_ptr (n := 8) h8 .u8 b o σ
  generalize w % 8 = k at *
  match k, h8 with
  | 0, _ =>
    try simp only [Nat.add_zero] at hpa
    simp only [go_sem, ↓reduceIte, Nat.reduceMod, Nat.reduceEqDiff, Nat.reduceAdd, Nat.reduceMul, Nat.reduceSub, Nat.reduceLeDiff, Nat.reduceLT, Int.reduceEq, Int.reduceLT, Int.reduceLE, Int.reduceAdd, Int.reduceSub, Int.reduceNeg, reduceCtorEq, Nat.reduceShiftRight, Nat.reduceAnd, Nat.reduceBNe, Bool.not_true, Bool.not_false, hk, w1, w2, o1, pr, sA0, sA1, sB1, sA2, sA4, sB4, sB5, sA6, sA7, sB7, sS2, hr, hrem, hpa, pA0, pS, hone]
    refine W_drawn hr _ (by simp) ?_
    simp only [go_sem, ↓reduceIte, Nat.reduceMod, Nat.reduceEqDiff, Nat.reduceAdd, Nat.reduceMul, Nat.reduceSub, Nat.reduceLeDiff, Nat.reduceLT, Int.reduceEq, Int.reduceLT, Int.reduceLE, Int.reduceAdd, Int.reduceSub, Int.reduceNeg, reduceCtorEq, Nat.reduceShiftRight, Nat.reduceAnd, Nat.reduceBNe, Bool.not_true, Bool.not_false, decide_true, hr, w1, w3, w4, o2, q9, hone]
    exact settled_bool (ext_Sx hr (by simp)) rfl
  | 1, _ =>
    try simp only [Nat.add_zero] at hpa
    simp only [go_sem, ↓reduceIte, Nat.reduceMod, Nat.reduceEqDiff, Nat.reduceAdd, Nat.reduceMul, Nat.reduceSub, Nat.reduceLeDiff, Nat.reduceLT, Int.reduceEq, Int.reduceLT, Int.reduceLE, Int.reduceAdd, Int.reduceSub, Int.reduceNeg, reduceCtorEq, Nat.reduceShiftRight, Nat.reduceAnd, Nat.reduceBNe, Bool.not_true, Bool.not_false, hk, w1, w2, o1, pr, sA0, sA1, sB1, sA2, sA4, sB4, sB5, sA6, sA7, sB7, sS2, hr, hrem, hpa, pB1, pS, hone]
    refine W_drawn hr _ (by simp) ?_
    simp only [go_sem, ↓reduceIte, Nat.reduceMod, Nat.reduceEqDiff, Nat.reduceAdd, Nat.reduceMul, Nat.reduceSub, Nat.reduceLeDiff, Nat.reduceLT, Int.reduceEq, Int.reduceLT, Int.reduceLE, Int.reduceAdd, Int.reduceSub, Int.reduceNeg, reduceCtorEq, Nat.reduceShiftRight, Nat.reduceAnd, Nat.reduceBNe, Bool.not_true, Bool.not_false, decide_true, hr, w1, w3, w4, o2, q9, hone]
    exact settled_bool (ext_Sx hr (by simp)) rfl
  | 2, _ =>
    try simp only [Nat.add_zero] at hpa
    simp only [go_sem, ↓reduceIte, Nat.reduceMod, Nat.reduceEqDiff, Nat.reduceAdd, Nat.reduceMul, Nat.reduceSub, Nat.reduceLeDiff, Nat.reduceLT, Int.reduceEq, Int.reduceLT, Int.reduceLE, Int.reduceAdd, Int.reduceSub, Int.reduceNeg, reduceCtorEq, Nat.reduceShiftRight, Nat.reduceAnd, Nat.reduceBNe, Bool.not_true, Bool.not_false, hk, w1, w2, o1, pr, sA0, sA1, sB1, sA2, sA4, sB4, sB5, sA6, sA7, sB7, sS2, hr, hrem, hpa, pA2, pS, hone]
    refine W_drawn hr _ (by simp) ?_
    simp only [go_sem, ↓reduceIte, Nat.reduceMod, Nat.reduceEqDiff, Nat.reduceAdd, Nat.reduceMul, Nat.reduceSub, Nat.reduceLeDiff, Nat.reduceLT, Int.reduceEq, Int.reduceLT, Int.reduceLE, Int.reduceAdd, Int.reduceSub, Int.reduceNeg, reduceCtorEq, Nat.reduceShiftRight, Nat.reduceAnd, Nat.reduceBNe, Bool.not_true, Bool.not_false, decide_true, hr, w1, w3, w4, o2, q9, hone]
    exact settled_bool (ext_Sx hr (by simp)) rfl
  | 3, _ =>
    try simp only [Nat.add_zero] at hpa
    simp only [go_sem, ↓reduceIte, Nat.reduceMod, Nat.reduceEqDiff, Nat.reduceAdd, Nat.reduceMul, Nat.reduceSub, Nat.reduceLeDiff, Nat.reduceLT, Int.reduceEq, Int.reduceLT, Int.reduceLE, Int.reduceAdd, Int.reduceSub, Int.reduceNeg, reduceCtorEq, Nat.reduceShiftRight, Nat.reduceAnd, Nat.reduceBNe, Bool.not_true, Bool.not_false, hk, w1, w2, o1, pr, sA0, sA1, sB1, sA2, sA4, sB4, sB5, sA6, sA7, sB7, sS2, hr, hrem, hpa, pZ3, pS, hone]
    refine W_drawn hr _ (by simp) ?_
    simp only [go_sem, ↓reduceIte, Nat.reduceMod, Nat.reduceEqDiff, Nat.reduceAdd, Nat.reduceMul, Nat.reduceSub, Nat.reduceLeDiff, Nat.reduceLT, Int.reduceEq, Int.reduceLT, Int.reduceLE, Int.reduceAdd, Int.reduceSub, Int.reduceNeg, reduceCtorEq, Nat.reduceShiftRight, Nat.reduceAnd, Nat.reduceBNe, Bool.not_true, Bool.not_false, decide_true, hr, w1, w3, w4, o2, q9, hone]
    exact settled_bool (ext_Sx hr (by simp)) rfl
  | 4, _ =>
    try simp only [Nat.add_zero] at hpa
    simp only [go_sem, ↓reduceIte, Nat.reduceMod, Nat.reduceEqDiff, Nat.reduceAdd, Nat.reduceMul, Nat.reduceSub, Nat.reduceLeDiff, Nat.reduceLT, Int.reduceEq, Int.reduceLT, Int.reduceLE, Int.reduceAdd, Int.reduceSub, Int.reduceNeg, reduceCtorEq, Nat.reduceShiftRight, Nat.reduceAnd, Nat.reduceBNe, Bool.not_true, Bool.not_false, hk, w1, w2, o1, pr, sA0, sA1, sB1, sA2, sA4, sB4, sB5, sA6, sA7, sB7, sS2, hr, hrem, hpa, pB4, pS, hone]
    refine W_drawn hr _ (by simp) ?_
    simp only [go_sem, ↓reduceIte, Nat.reduceMod, Nat.reduceEqDiff, Nat.reduceAdd, Nat.reduceMul, Nat.reduceSub, Nat.reduceLeDiff, Nat.reduceLT, Int.reduceEq, Int.reduceLT, Int.reduceLE, Int.reduceAdd, Int.reduceSub, Int.reduceNeg, reduceCtorEq, Nat.reduceShiftRight, Nat.reduceAnd, Nat.reduceBNe, Bool.not_true, Bool.not_false, decide_true, hr, w1, w3, w4, o2, q9, hone]
    exact settled_bool (ext_Sx hr (by simp)) rfl
  | 5, _ =>
    try simp only [Nat.add_zero] at hpa
    simp only [go_sem, ↓reduceIte, Nat.reduceMod, Nat.reduceEqDiff, Nat.reduceAdd, Nat.reduceMul, Nat.reduceSub, Nat.reduceLeDiff, Nat.reduceLT, Int.reduceEq, Int.reduceLT, Int.reduceLE, Int.reduceAdd, Int.reduceSub, Int.reduceNeg, reduceCtorEq, Nat.reduceShiftRight, Nat.reduceAnd, Nat.reduceBNe, Bool.not_true, Bool.not_false, hk, w1, w2, o1, pr, sA0, sA1, sB1, sA2, sA4, sB4, sB5, sA6, sA7, sB7, sS2, hr, hrem, hpa, pB5, pS, hone]
    refine W_drawn hr _ (by simp) ?_
    simp only [go_sem, ↓reduceIte, Nat.reduceMod, Nat.reduceEqDiff, Nat.reduceAdd, Nat.reduceMul, Nat.reduceSub, Nat.reduceLeDiff, Nat.reduceLT, Int.reduceEq, Int.reduceLT, Int.reduceLE, Int.reduceAdd, Int.reduceSub, Int.reduceNeg, reduceCtorEq, Nat.reduceShiftRight, Nat.reduceAnd, Nat.reduceBNe, Bool.not_true, Bool.not_false, decide_true, hr, w1, w3, w4, o2, q9, hone]
    exact settled_bool (ext_Sx hr (by simp)) rfl
  | 6, _ =>
    try simp only [Nat.add_zero] at hpa
    simp only [go_sem, ↓reduceIte, Nat.reduceMod, Nat.reduceEqDiff, Nat.reduceAdd, Nat.reduceMul, Nat.reduceSub, Nat.reduceLeDiff, Nat.reduceLT, Int.reduceEq, Int.reduceLT, Int.reduceLE, Int.reduceAdd, Int.reduceSub, Int.reduceNeg, reduceCtorEq, Nat.reduceShiftRight, Nat.reduceAnd, Nat.reduceBNe, Bool.not_true, Bool.not_false, hk, w1, w2, o1, pr, sA0, sA1, sB1, sA2, sA4, sB4, sB5, sA6, sA7, sB7, sS2, hr, hrem, hpa, pA6, pS, hone]
    refine W_drawn hr _ (by simp) ?_
    simp only [go_sem, ↓reduceIte, Nat.reduceMod, Nat.reduceEqDiff, Nat.reduceAdd, Nat.reduceMul, Nat.reduceSub, Nat.reduceLeDiff, Nat.reduceLT, Int.reduceEq, Int.reduceLT, Int.reduceLE, Int.reduceAdd, Int.reduceSub, Int.reduceNeg, reduceCtorEq, Nat.reduceShiftRight, Nat.reduceAnd, Nat.reduceBNe, Bool.not_true, Bool.not_false, decide_true, hr, w1, w3, w4, o2, q9, hone]
    exact settled_bool (ext_Sx hr (by simp)) rfl
  | 7, _ =>
    try simp only [Nat.add_zero] at hpa
    simp only [go_sem, ↓reduceIte, Nat.reduceMod, Nat.reduceEqDiff, Nat.reduceAdd, Nat.reduceMul, Nat.reduceSub, Nat.reduceLeDiff, Nat.reduceLT, Int.reduceEq, Int.reduceLT, Int.reduceLE, Int.reduceAdd, Int.reduceSub, Int.reduceNeg, reduceCtorEq, Nat.reduceShiftRight, Nat.reduceAnd, Nat.reduceBNe, Bool.not_true, Bool.not_false, hk, w1, w2, o1, pr, sA0, sA1, sB1, sA2, sA4, sB4, sB5, sA6, sA7, sB7, sS2, hr, hrem, hpa, pB7, pS, hone]
    refine W_drawn hr _ (by simp) ?_
    simp only [go_sem, ↓reduceIte, Nat.reduceMod, Nat.reduceEqDiff, Nat.reduceAdd, Nat.reduceMul, Nat.reduceSub, Nat.reduceLeDiff, Nat.reduceLT, Int.reduceEq, Int.reduceLT, Int.reduceLE, Int.reduceAdd, Int.reduceSub, Int.reduceNeg, reduceCtorEq, Nat.reduceShiftRight, Nat.reduceAnd, Nat.reduceBNe, Bool.not_true, Bool.not_false, decide_true, hr, w1, w3, w4, o2, q9, hone]
    exact settled_bool (ext_Sx hr (by simp)) rfl
theorem u32_wf {a : Int} (h : (Lit.int .u32 a).wf = true) : ∃ n : Nat, a = n ∧ n ≤ 4294967295 := by
  have h2 : IntKind.u32.min = 0 := rfl
  have h3 : IntKind.u32.max = 4294967295 := rfl
  simp [Lit.wf] at h
  exact ⟨a.toNat, by omega, by omega⟩
theorem signs_row {a b : Int} (ha : (Lit.int .u32 a).wf = true) (hb : (Lit.int .u8 b).wf = true) : CA F.law3_DigitsSigns [.int .u32 a, .int .u8 b] .empty = .ok (.bool true) .empty := by
  obtain ⟨n, rfl, hn⟩ := u32_wf ha
  obtain ⟨c, rfl, hc⟩ := u8_wf hb
  exact signs_ok .empty n c room_empty (by show (0 : Nat) ≤ _; omega) hn hc
end Go.Proofs.YtkdkojnlimadnaaDoor
